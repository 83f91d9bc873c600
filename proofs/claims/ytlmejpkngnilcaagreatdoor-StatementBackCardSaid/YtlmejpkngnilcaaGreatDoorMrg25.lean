/- Parts of the proof, one behind the other: Plain: the fields of a day's text: where it has dashes, digits; the pieces between dashes; the number of digits. -/
import Derived.Test.YtlmejpkngnilcaaGreatDoorMrg22
import Derived.Lib.Split
import Derived.Lib.Atoi
import Derived.Laws.RangeString
import Derived.Laws.RangeAny
import Derived.Shelf.GgClosure.StringsIndexFunc
namespace Go.Proofs.YtlmejpkngnilcaaGreatDoor.Prs

def dig (c : UInt8) : Bool := decide (48 ≤ c.toNat) && decide (c.toNat ≤ 57)
theorem dig_iff {c : UInt8} : dig c = true ↔ 48 ≤ c.toNat ∧ c.toNat ≤ 57 := by unfold dig; simp
def digs (l : List UInt8) : Bool := l.all dig
def dval (n : Nat) (l : List UInt8) : Nat := l.foldl (fun a c => a * 10 + (c.toNat - 48)) n
theorem dval_snoc (n : Nat) (l : List UInt8) (c : UInt8) : dval n (l ++ [c]) = dval n l * 10 + (c.toNat - 48) := by simp [dval]
theorem dval_bound (l : List UInt8) (h : digs l = true) : dval 0 l < 10 ^ l.length := by
  have key : ∀ (l : List UInt8) (n : Nat), digs l = true → dval n l < (n + 1) * 10 ^ l.length := by
    intro l
    induction l with
    | nil => intro n _; simp [dval]
    | cons c l ih =>
      intro n h
      unfold digs at h
      rw [List.all_cons, Bool.and_eq_true, dig_iff] at h
      have h1 := ih (n * 10 + (c.toNat - 48)) h.2
      have e : dval n (c :: l) = dval (n * 10 + (c.toNat - 48)) l := rfl
      have h2 : (n * 10 + (c.toNat - 48) + 1) * 10 ^ l.length ≤ ((n + 1) * 10) * 10 ^ l.length := Nat.mul_le_mul_right _ (by omega)
      rw [e, List.length_cons, Nat.pow_succ, Nat.mul_comm (10 ^ l.length), ← Nat.mul_assoc]
      omega
  have := key l 0 h
  simpa using this
theorem dec_dval : ∀ (l : List UInt8) (n : Nat), digs l = true → Lib.decFrom n l = some (dval n l) := by
  intro l
  induction l with
  | nil => intro n _; rfl
  | cons c l ih =>
    intro n h
    unfold digs at h
    rw [List.all_cons, Bool.and_eq_true, dig_iff] at h
    have e : Lib.digitVal c = some (c.toNat - 48) := by unfold Lib.digitVal; rw [if_pos h.1]
    rw [Lib.decFrom, e]
    exact ih _ h.2
theorem atoi_digs {l : List UInt8} (h : digs l = true) (h0 : 0 < l.length) : Lib.atoi l = some ((dval 0 l : Nat) : Int) := by
  cases l with
  | nil => simp at h0
  | cons c l =>
    have h' := h
    unfold digs at h'
    rw [List.all_cons, Bool.and_eq_true, dig_iff] at h'
    have e1 : (c == 45) = false := by
      rw [beq_eq_false_iff_ne]; rintro rfl
      have : (45 : UInt8).toNat = 45 := rfl
      omega
    have e2 : (c == 43) = false := by
      rw [beq_eq_false_iff_ne]; rintro rfl
      have : (43 : UInt8).toNat = 43 := rfl
      omega
    rw [Lib.atoi, e1, e2]
    simp only [Bool.false_eq_true, if_false]
    unfold Lib.decNat
    rw [if_neg (by simp), dec_dval _ _ h]
    rfl
/-- What the program asks of a rune. -/
def odd (r : Nat) : Bool := decide (r < 48) || decide (57 < r)
theorem odd_digs (s : ByteArray) : (decide (0 ≤ Lib.idxFunc odd true s)) = !digs s.data.toList := by
  have key : ∀ (f pos : Nat), s.size ≤ pos + f → (decide (0 ≤ Lib.idxFuncFrom odd true s f pos)) = !digs (s.data.toList.drop pos) := by
    intro f
    induction f with
    | zero =>
      intro pos h
      rw [List.drop_eq_nil_of_le (by simpa using h)]
      rfl
    | succ f ih =>
      intro pos h
      by_cases hp : pos < s.size
      · have hd : s.data.toList.drop pos = s[pos] :: s.data.toList.drop (pos + 1) := by
          rw [List.drop_eq_getElem_cons (by simpa using hp)]; rfl
        rw [Lib.idxFuncFrom, if_pos hp, hd]
        unfold digs
        rw [List.all_cons]
        by_cases ha : (s[pos]'hp).toNat < 128
        · rw [decode_ascii s pos hp ha]
          simp only
          by_cases hdg : dig s[pos] = true
          · have ho : odd (s[pos]'hp).toNat = false := by
              have := dig_iff.1 hdg
              unfold odd; simp; omega
            rw [ho, if_neg (by simp), hdg, Bool.true_and]
            have := ih (pos + 1) (by omega)
            unfold digs at this
            exact this
          · have ho : odd (s[pos]'hp).toNat = true := by
              have h1 : ¬ (48 ≤ (s[pos]'hp).toNat ∧ (s[pos]'hp).toNat ≤ 57) := fun h => hdg (dig_iff.2 h)
              unfold odd; simp; omega
            have hf : dig s[pos] = false := by simpa using hdg
            rw [ho, if_pos rfl, hf, Bool.false_and]
            simp
        · have hh := decode_high s pos hp (by omega)
          have ho : odd (Utf8.decode s pos).1 = true := by unfold odd; simp; omega
          have hf : dig s[pos] = false := by
            cases hd : dig s[pos] with
            | false => rfl
            | true => have := dig_iff.1 hd; omega
          rw [ho, if_pos rfl, hf, Bool.false_and]
          simp
      · rw [Lib.idxFuncFrom, if_neg hp, List.drop_eq_nil_of_le (by simp; omega)]
        rfl
  have := key s.size 0 (by omega)
  rw [List.drop_zero] at this
  exact this
theorem index_no : ∀ (l : List UInt8), (45 : UInt8) ∉ l → Lib.index l [45] = -1 := by
  intro l
  induction l with
  | nil => intro _; rfl
  | cons c l ih =>
    intro h
    rw [List.mem_cons, not_or] at h
    have e : (List.isPrefixOf [45] (c :: l)) = false := by simp [List.isPrefixOf, h.1]
    rw [Lib.index, e, ih h.2]; rfl
theorem index_at : ∀ (p r : List UInt8), (45 : UInt8) ∉ p → Lib.index (p ++ 45 :: r) [45] = (p.length : Int) := by
  intro p
  induction p with
  | nil => intro r _; rfl
  | cons c p ih =>
    intro r h
    rw [List.mem_cons, not_or] at h
    have e : (List.isPrefixOf [45] (c :: (p ++ 45 :: r))) = false := by simp [List.isPrefixOf, h.1]
    rw [List.cons_append, Lib.index, e, ih r h.2]
    have : ¬ (((p.length : Nat) : Int) == -1) = true := by simp
    rw [if_neg (by simp), if_neg this]
    simp
theorem parts_at (l : List UInt8) : (45 : UInt8) ∉ l ∨ ∃ p r, l = p ++ 45 :: r ∧ (45 : UInt8) ∉ p := by
  induction l with
  | nil => left; simp
  | cons c l ih =>
    by_cases hc : c = 45
    · subst hc; right; exact ⟨[], l, rfl, by simp⟩
    · rcases ih with h | ⟨p, r, rfl, h⟩
      · left; rw [List.mem_cons, not_or]; exact ⟨fun e => hc e.symm, h⟩
      · right; exact ⟨c :: p, r, rfl, by rw [List.mem_cons, not_or]; exact ⟨fun e => hc e.symm, h⟩⟩
theorem count_no {l : List UInt8} (h : (45 : UInt8) ∉ l) : Lib.count l [45] = 0 := Lib.count_miss (index_no l h)
theorem count_at {p r : List UInt8} (h : (45 : UInt8) ∉ p) : Lib.count (p ++ 45 :: r) [45] = 1 + Lib.count r [45] := by
  rw [Lib.count_hit (i := p.length) (by simp) (index_at p r h)]
  have e : (p ++ 45 :: r).drop (p.length + [(45 : UInt8)].length) = r := by
    have : p ++ 45 :: r = (p ++ [45]) ++ r := by simp
    rw [this]; exact List.drop_left' (by simp)
  rw [e]
theorem split_at (p r : List UInt8) (k : Nat) (h : (45 : UInt8) ∉ p) : Lib.splitK [45] 0 (k + 1) (p ++ 45 :: r) = p :: Lib.splitK [45] 0 k r := by
  have hi := index_at p r h
  have hne : ¬ (((p.length : Nat) : Int) == -1) = true := by simp
  rw [Lib.splitK, hi, if_neg hne]
  have e1 : (p ++ 45 :: r).take (((p.length : Nat) : Int).toNat + 0) = p := by simp
  have e : (p ++ 45 :: r).drop (((p.length : Nat) : Int).toNat + [(45 : UInt8)].length) = r := by
    have : p ++ 45 :: r = (p ++ [45]) ++ r := by simp
    rw [this]; exact List.drop_left' (by simp)
  rw [e1, e]
/-- Three pieces. -/
theorem three {l : List UInt8} (h : Lib.count l [45] = 2) : ∃ p q r, l = p ++ 45 :: (q ++ 45 :: r) ∧ (45 : UInt8) ∉ p ∧ (45 : UInt8) ∉ q ∧ (45 : UInt8) ∉ r ∧ Lib.splitK [45] 0 2 l = [p, q, r] := by
  rcases parts_at l with h0 | ⟨p, l1, rfl, hp⟩
  · rw [count_no h0] at h; omega
  · rw [count_at hp] at h
    rcases parts_at l1 with h1 | ⟨q, l2, rfl, hq⟩
    · rw [count_no h1] at h; omega
    · rw [count_at hq] at h
      rcases parts_at l2 with h2 | ⟨r, l3, rfl, hr⟩
      · refine ⟨p, q, l2, rfl, hp, hq, h2, ?_⟩
        rw [split_at p _ 1 hp, split_at q _ 0 hq]; rfl
      · rw [count_at hr] at h; omega
theorem same_cut : ∀ (p a r s : List UInt8), (45 : UInt8) ∉ p → (45 : UInt8) ∉ a → p ++ 45 :: r = a ++ 45 :: s → p = a ∧ r = s := by
  intro p
  induction p with
  | nil =>
    intro a r s _ ha h
    cases a with
    | nil => injection h with _ h; exact ⟨rfl, h⟩
    | cons c a => injection h with h1 h2; subst h1; exact absurd List.mem_cons_self ha
  | cons c p ih =>
    intro a r s hp ha h
    cases a with
    | nil => injection h with h1 h2; subst h1; exact absurd List.mem_cons_self hp
    | cons d a =>
      injection h with h1 h2
      subst h1
      obtain ⟨e1, e2⟩ := ih a r s (fun h => hp (List.mem_cons_of_mem _ h)) (fun h => ha (List.mem_cons_of_mem _ h)) h2
      exact ⟨by rw [e1], e2⟩
theorem digs_no {l : List UInt8} (h : digs l = true) : (45 : UInt8) ∉ l := by
  intro hm
  have := List.all_eq_true.1 h 45 hm
  rw [dig_iff] at this
  have e : (45 : UInt8).toNat = 45 := rfl
  omega
/-- A day's text has these fields. -/
def Fields (l p q r : List UInt8) : Prop := l = p ++ 45 :: (q ++ 45 :: r) ∧ p.length = 4 ∧ q.length = 2 ∧ r.length = 2 ∧ digs p = true ∧ digs q = true ∧ digs r = true
theorem fields_count {l p q r : List UInt8} (h : Fields l p q r) : Lib.count l [45] = 2 ∧ Lib.splitK [45] 0 2 l = [p, q, r] ∧ l.length = 10 := by
  obtain ⟨rfl, h1, h2, h3, d1, d2, d3⟩ := h
  refine ⟨?_, ?_, by simp; omega⟩
  · rw [count_at (digs_no d1), count_at (digs_no d2), count_no (digs_no d3)]
  · rw [split_at p _ 1 (digs_no d1), split_at q _ 0 (digs_no d2)]; rfl
theorem fields_same {l p q r a b c : List UInt8} (h : Fields l p q r) (h' : Fields l a b c) : p = a ∧ q = b ∧ r = c := by
  obtain ⟨e, h1, h2, h3, d1, d2, d3⟩ := h
  obtain ⟨e', g1, g2, g3, f1, f2, f3⟩ := h'
  rw [e] at e'
  obtain ⟨rfl, e2⟩ := same_cut _ _ _ _ (digs_no d1) (digs_no f1) e'
  obtain ⟨rfl, rfl⟩ := same_cut _ _ _ _ (digs_no d2) (digs_no f2) e2
  exact ⟨rfl, rfl, rfl⟩
/-- The reference's test of a byte. -/
def okAt (l : List UInt8) (i : Nat) : Prop := ∃ c, l[i]? = some c ∧ ((i = 4 ∨ i = 7) → c = 45) ∧ (¬ (i = 4 ∨ i = 7) → dig c = true)
theorem fields_ok {l p q r : List UInt8} (h : Fields l p q r) : ∀ i, i < 10 → okAt l i := by
  obtain ⟨rfl, h1, h2, h3, d1, d2, d3⟩ := h
  match p, h1 with
  | [p0, p1, p2, p3], _ =>
    match q, h2 with
    | [q0, q1], _ =>
      match r, h3 with
      | [r0, r1], _ =>
        simp only [digs, List.all_cons, List.all_nil, Bool.and_true, Bool.and_eq_true] at d1 d2 d3
        intro i hi
        have hc : i = 0 ∨ i = 1 ∨ i = 2 ∨ i = 3 ∨ i = 4 ∨ i = 5 ∨ i = 6 ∨ i = 7 ∨ i = 8 ∨ i = 9 := by omega
        rcases hc with rfl | rfl | rfl | rfl | rfl | rfl | rfl | rfl | rfl | rfl <;> refine ⟨_, rfl, ?_, ?_⟩ <;> intro h <;> simp_all
theorem ok_fields {l : List UInt8} (hl : l.length = 10) (h : ∀ i, i < 10 → okAt l i) : Fields l (l.take 4) ((l.drop 5).take 2) (l.drop 8) := by
  match l, hl with
  | [c0, c1, c2, c3, c4, c5, c6, c7, c8, c9], _ =>
    obtain ⟨_, e0, _, k0⟩ := h 0 (by omega)
    obtain ⟨_, e1, _, k1⟩ := h 1 (by omega)
    obtain ⟨_, e2, _, k2⟩ := h 2 (by omega)
    obtain ⟨_, e3, _, k3⟩ := h 3 (by omega)
    obtain ⟨_, e4, k4, _⟩ := h 4 (by omega)
    obtain ⟨_, e5, _, k5⟩ := h 5 (by omega)
    obtain ⟨_, e6, _, k6⟩ := h 6 (by omega)
    obtain ⟨_, e7, k7, _⟩ := h 7 (by omega)
    obtain ⟨_, e8, _, k8⟩ := h 8 (by omega)
    obtain ⟨_, e9, _, k9⟩ := h 9 (by omega)
    simp at e0 e1 e2 e3 e4 e5 e6 e7 e8 e9
    subst e0 e1 e2 e3 e4 e5 e6 e7 e8 e9
    have := k4 (by omega); subst this
    have := k7 (by omega); subst this
    refine ⟨rfl, rfl, rfl, rfl, ?_, ?_, ?_⟩
    · simp [digs, k0 (by omega), k1 (by omega), k2 (by omega), k3 (by omega)]
    · simp [digs, k5 (by omega), k6 (by omega)]
    · simp [digs, k8 (by omega), k9 (by omega)]
/-- Digits of a number spell it. -/
theorem dval_digW : ∀ (w n : Nat), n < 10 ^ w → dval 0 (Dig.digW w n) = n ∧ digs (Dig.digW w n) = true := by
  intro w
  induction w with
  | zero => intro n h; simp at h; subst h; exact ⟨rfl, rfl⟩
  | succ w ih =>
    intro n h
    obtain ⟨h1, h2⟩ := ih (n / 10) (by rw [Nat.pow_succ] at h; omega)
    rw [Dig.digW, dval_snoc, h1, Dig.dg_nat]
    refine ⟨by omega, ?_⟩
    unfold digs at h2 ⊢
    rw [List.all_append, h2]
    simp only [List.all_cons, List.all_nil, Bool.and_true, Bool.true_and]
    rw [dig_iff, Dig.dg_nat]; omega
end Go.Proofs.YtlmejpkngnilcaaGreatDoor.Prs
