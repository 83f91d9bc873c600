/- The contract of the reference's Parts. -/
import Derived.Test.YtnlmiicbdhomaaaDoorParC
import Derived.Test.YtnlmiicbdhomaaaDoorParE
namespace Go.Proofs.YtnlmiicbdhomaaaDoor
open Go.RowKit

/-- What the reference knows at place k: if the bytes are a key at all, then of 'out' and of parts whose key stands from k on. -/
def Knows (b : List UInt8) (out : List Pt) (k : Nat) : Prop := Cod.AllN out ∧ (∀ p ∈ out, p.s.size ≤ b.length) ∧ ∀ l, Cod.AllN l → Cod.key l = b → ∃ l', l = out ++ l' ∧ Cod.AllN l' ∧ Cod.key l' = b.drop k
/-- .. within a text that began behind place k. -/
def KnowsT (b : List UInt8) (k : Nat) (S : List UInt8) (i : Nat) : Prop := ∀ s y, b.drop (k + 1) = Esc.esc 0 [0, 255] s ++ [0, 0] ++ y → ∃ s1, s = S ++ s1 ∧ b.drop i = Esc.esc 0 [0, 255] s1 ++ [0, 0] ++ y
theorem knowsT_start (b : List UInt8) (k : Nat) : KnowsT b k [] (k + 1) := fun s _ h => ⟨s, rfl, h⟩
theorem knowsT_step {b : List UInt8} {k : Nat} {S : List UInt8} {i : Nat} (h : KnowsT b k S i) (hi : i + 1 < b.length) (hn : ¬ (b[i]'(by omega) = 0 ∧ b[i + 1] = 0)) :
    KnowsT b k (S ++ [b[i]'(by omega)]) (if b[i]'(by omega) = 0 then i + 2 else i + 1) := by
  intro s y he
  obtain ⟨s1, e1, e2⟩ := h s y he
  rw [List.drop_eq_getElem_cons (by omega), List.drop_eq_getElem_cons hi] at e2
  obtain ⟨s2, e3, e4⟩ := (Cod.esc_step e2.symm).2 hn
  refine ⟨s2, by rw [e1, e3]; simp, ?_⟩
  by_cases h0 : b[i]'(by omega) = 0
  · rw [if_pos h0] at e4 ⊢; exact e4
  · rw [if_neg h0] at e4 ⊢
    rw [List.drop_eq_getElem_cons hi]; exact e4
theorem knowsT_end {b : List UInt8} {k : Nat} {S : List UInt8} {i : Nat} (h : KnowsT b k S i) (hx : b.length ≤ i + 1 ∨ ∃ h : i + 1 < b.length, b[i]'(by omega) = 0 ∧ b[i + 1] = 0) :
    ∀ s y, b.drop (k + 1) = Esc.esc 0 [0, 255] s ++ [0, 0] ++ y → s = S ∧ y = b.drop (i + 2) := by
  intro s y he
  obtain ⟨s1, e1, e2⟩ := h s y he
  rcases hx with hx | ⟨hi, h0⟩
  · have := Cod.esc_two s1 y
    rw [← e2, List.length_drop] at this
    omega
  · rw [List.drop_eq_getElem_cons (by omega), List.drop_eq_getElem_cons hi] at e2
    obtain ⟨e3, e4⟩ := (Cod.esc_step e2.symm).1 h0
    exact ⟨by rw [e1, e3]; simp, e4⟩
theorem key_text {l : List Pt} {r : List UInt8} (hl : Cod.AllN l) (h : Cod.key l = 32 :: r) : ∃ s l', l = ⟨true, 0, ⟨s.toArray⟩⟩ :: l' ∧ Cod.AllN l' ∧ r = Esc.esc 0 [0, 255] s ++ [0, 0] ++ Cod.key l' := by
  obtain ⟨p, y, l', e1, rfl, e3⟩ := Cod.key_one hl h
  have hl' : Cod.AllN l' := fun q hq => hl q (List.mem_cons_of_mem _ hq)
  rw [Cod.one, if_pos rfl] at e1
  cases ht : Cod.txt r with
  | none => rw [ht] at e1; cases e1
  | some v =>
    rw [ht] at e1
    injection e1 with e1
    injection e1 with e4 e5
    have := Cod.txt_dec r.length r v.1 v.2 (Nat.le_refl _) ht
    refine ⟨v.1, l', by rw [← e4], hl', ?_⟩
    rw [e3, ← e5]; exact this
theorem knows_text {b : List UInt8} {out : List Pt} {k i : Nat} {S : List UInt8} (h : Knows b out k) (hk : k < b.length) (ht : b[k] = 32) (hS : S.length ≤ b.length)
    (he : ∀ s y, b.drop (k + 1) = Esc.esc 0 [0, 255] s ++ [0, 0] ++ y → s = S ∧ y = b.drop (i + 2)) : Knows b (out ++ [⟨true, 0, ⟨S.toArray⟩⟩]) (i + 2) := by
  obtain ⟨h1, h2, h3⟩ := h
  refine ⟨fun q hq => ?_, fun q hq => ?_, fun l hl hb => ?_⟩
  · rw [List.mem_append] at hq
    rcases hq with hq | hq
    · exact h1 q hq
    · simp at hq; subst hq
      exact ⟨by show 0 < 18446744073709551616; omega, fun _ => rfl, fun h => by cases h⟩
  · rw [List.mem_append] at hq
    rcases hq with hq | hq
    · exact h2 q hq
    · simp at hq; subst hq
      show S.toArray.size ≤ _
      simpa using hS
  · obtain ⟨l', e1, e2, e3⟩ := h3 l hl hb
    rw [List.drop_eq_getElem_cons hk, ht] at e3
    obtain ⟨s, l'', e4, e5, e6⟩ := key_text e2 e3
    obtain ⟨e7, e8⟩ := he s (Cod.key l'') e6
    subst e7
    exact ⟨l'', by rw [e1, e4]; simp, e5, e8⟩
theorem key_num {l : List Pt} {t : UInt8} {r : List UInt8} (hl : Cod.AllN l) (ht : t ≠ 32) (h : Cod.key l = t :: r) : ∃ l', l = ⟨false, Cod.val 0 (r.take (t.toNat - 16)), .empty⟩ :: l' ∧ Cod.AllN l' ∧ Cod.key l' = r.drop (t.toNat - 16) ∧ t.toNat - 16 ≤ 8 ∧ t.toNat - 16 ≤ r.length := by
  obtain ⟨p, y, l', e1, rfl, e3⟩ := Cod.key_one hl h
  have hl' : Cod.AllN l' := fun q hq => hl q (List.mem_cons_of_mem _ hq)
  rw [Cod.one, if_neg ht, Cod.num] at e1
  split at e1
  · cases e1
  · rename_i hc
    injection e1 with e1
    injection e1 with e4 e5
    refine ⟨l', by rw [← e4], hl', by rw [e3, ← e5], by omega, by omega⟩
theorem knows_num {b : List UInt8} {out : List Pt} {k j n : Nat} (h : Knows b out k) (hk : k < b.length) (ht : b[k] ≠ 32) (hj1 : 1 ≤ j) (hj2 : j ≤ b[k].toNat - 16 + 1) (hj3 : j ≤ 9)
    (hn : n = Cod.val 0 ((b.drop (k + 1)).take (j - 1))) (hx : ¬ (j ≤ b[k].toNat - 16 ∧ j ≤ 8 ∧ k + j < b.length)) : Knows b (out ++ [⟨false, n, .empty⟩]) (k + 1 + (b[k].toNat - 16)) := by
  obtain ⟨h1, h2, h3⟩ := h
  refine ⟨fun q hq => ?_, fun q hq => ?_, fun l hl hb => ?_⟩
  · rw [List.mem_append] at hq
    rcases hq with hq | hq
    · exact h1 q hq
    · simp at hq; subst hq
      refine ⟨?_, (fun h => by cases h), fun _ => rfl⟩
      show n < _
      rw [hn]
      exact Cod.val_8 (by rw [List.length_take]; omega)
  · rw [List.mem_append] at hq
    rcases hq with hq | hq
    · exact h2 q hq
    · simp at hq; subst hq
      show ByteArray.empty.size ≤ _
      exact Nat.zero_le _
  · obtain ⟨l', e1, e2, e3⟩ := h3 l hl hb
    rw [List.drop_eq_getElem_cons hk] at e3
    obtain ⟨l'', e4, e5, e6, e7, e8⟩ := key_num e2 ht e3
    rw [List.length_drop] at e8
    have hjj : j - 1 = b[k].toNat - 16 := by omega
    refine ⟨l'', ?_, e5, by rw [e6, List.drop_drop]⟩
    rw [e1, e4, hn, hjj]
    simp
theorem knows_start (b : List UInt8) : Knows b [] 0 := ⟨(fun p hp => by simp at hp), (fun p hp => by simp at hp), fun l hl h => ⟨l, rfl, hl, h⟩⟩
theorem knows_end {b : List UInt8} {out : List Pt} {k : Nat} (h : Knows b out k) (hk : b.length ≤ k) (hn : Cod.key out ≠ b) : ∀ l, Cod.AllN l → Cod.key l ≠ b := by
  intro l hl e
  obtain ⟨l', e1, _, e3⟩ := h.2.2 l hl e
  rw [List.drop_eq_nil_of_le hk] at e3
  rw [Cod.key_nil e3, List.append_nil] at e1
  rw [e1] at e
  exact hn e
end Go.Proofs.YtnlmiicbdhomaaaDoor
