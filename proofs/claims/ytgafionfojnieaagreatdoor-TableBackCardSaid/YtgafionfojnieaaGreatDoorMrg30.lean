/- Parts of the proof, one behind the other: Plain: what a block's bytes are, entry by entry; taking them apart. -/
import Derived.Test.YtgafionfojnieaaGreatDoorMrg17
import Derived.Test.YtgafionfojnieaaGreatDoorMrg27
namespace Go.Proofs.YtgafionfojnieaaGreatDoor
open Go.RowKit
namespace Blk
def cn (E i : Nat) (last k : List UInt8) : Nat := if i % E = 0 then 0 else common last k
def ents (E : Nat) : Nat → List UInt8 → List Pr → List UInt8
 | _, _, [] => []
 | i, last, p :: l => entry (cn E i last p.k) p ++ ents E (i + 1) p.k l
def hds (E : Nat) : Nat → Nat → List UInt8 → List Pr → List Nat
 | _, _, _, [] => []
 | i, o, last, p :: l => (if i % E = 0 then [o] else []) ++ hds E (i + 1) (o + (entry (cn E i last p.k) p).length) p.k l
theorem fold_eq (E : Nat) (l : List Pr) : ∀ s : St, (l.foldl (step E) s).out = s.out ++ ents E s.i s.last l ∧ (l.foldl (step E) s).heads = s.heads ++ hds E s.i s.out.length s.last l := by
 induction l with
 | nil => intro s; simp [ents, hds]
 | cons p l ih =>
   intro s
   obtain ⟨h1, h2⟩ := ih (step E s p)
   rw [List.foldl_cons, h1, h2]
   unfold step
   by_cases h0 : s.i % E = 0
   · simp [h0, ents, hds, cn, List.append_assoc]
   · simp [h0, ents, hds, cn, List.append_assoc]
theorem build_eq (E : Nat) (l : List Pr) : build E l = ents E 0 [] l ++ hb (hds E 0 0 [] l) ++ Frm.be4 (hds E 0 0 [] l).length ++ [UInt8.ofNat E] := by
 obtain ⟨h1, h2⟩ := fold_eq E l ⟨[], [], [], 0⟩
 unfold build run
 rw [h1, h2]
 simp
theorem hds_len (E : Nat) : ∀ (l : List Pr) (i o : Nat) (last : List UInt8), (hds E i o last l).length ≤ l.length := by
 intro l
 induction l with
 | nil => intro i o last; simp [hds]
 | cons p l ih =>
   intro i o last
   have := ih (i + 1) (o + (entry (cn E i last p.k) p).length) p.k
   unfold hds
   rw [List.length_append, List.length_cons]
   split <;> simp <;> omega
theorem common_take (a b : List UInt8) : a.take (common a b) = b.take (common a b) := by
 induction a generalizing b with
 | nil => simp [common]
 | cons x a ih =>
   cases b with
   | nil => simp [common]
   | cons y b =>
     unfold common
     split
     · rename_i h
       rw [List.take_succ_cons, List.take_succ_cons, h, ih b]
     · rfl
theorem cn_le (E i : Nat) (last k : List UInt8) : cn E i last k ≤ last.length ∧ cn E i last k ≤ k.length ∧ last.take (cn E i last k) = k.take (cn E i last k) := by
 unfold cn
 split
 · simp
 · exact ⟨(common_le last k).1, (common_le last k).2, common_take last k⟩
theorem entry_pos (n : Nat) (p : Pr) : 0 < (entry n p).length := by
 unfold entry Cod.number
 simp
 omega
structure WFb (b : List UInt8) (l : List Pr) : Prop where
 eq : b = build 16 l
 ok : err 16 l = 0
 bd : ∀ p ∈ l, p.k.length ≤ 100000 ∧ p.v.length ≤ 100000
theorem WFb.few {b : List UInt8} {l : List Pr} (h : WFb b l) : l.length ≤ 20000 ∧ srt l = true := by
 have := h.ok
 unfold err at this
 split at this
 · cases this
 · rename_i h1
   split at this
   · rename_i h2; exact ⟨by omega, h2⟩
   · cases this
theorem hb_len' (l : List Nat) : (hb l).length = 4 * l.length := by rw [hb_len]; omega
def many (b : List UInt8) : Nat := Frm.num4 ((b.drop (b.length - 5)).take 4)
theorem tail_of {b : List UInt8} {l : List Pr} (h : WFb b l) : 5 ≤ b.length ∧ many b = (hds 16 0 0 [] l).length ∧ b[b.length - 1]? = some 16 ∧ 4 * many b ≤ b.length - 5 ∧ b.take (b.length - 5 - 4 * many b) = ents 16 0 [] l ∧
   (b.drop (b.length - 5 - 4 * many b)).take (4 * many b) = hb (hds 16 0 0 [] l) := by
 have e := h.eq
 rw [build_eq] at e
 obtain ⟨H, hH⟩ : ∃ H, H = hds 16 0 0 [] l := ⟨_, rfl⟩
 obtain ⟨T, hT⟩ : ∃ T, T = ents 16 0 [] l := ⟨_, rfl⟩
 rw [← hH, ← hT] at e ⊢
 have hl : H.length ≤ 20000 := by rw [hH]; exact Nat.le_trans (hds_len _ _ _ _ _) h.few.1
 have hlen : b.length = T.length + 4 * H.length + 5 := by rw [e]; simp [hb_len', Frm.be4]; omega
 have hm : many b = H.length := by
   unfold many
   have e1 : b.length - 5 = (T ++ hb H).length := by rw [hlen, List.length_append, hb_len']; omega
   rw [e1, e, List.append_assoc, List.drop_left', List.take_append_of_le_length (by simp [Frm.be4]), List.take_of_length_le (by simp [Frm.be4]), Frm.num4_be4 _ (by omega)]
   rfl
 refine ⟨by omega, hm, ?_, by omega, ?_, ?_⟩
 · have e1 : b.length - 1 = (T ++ hb H ++ Frm.be4 H.length).length := by rw [hlen]; simp [hb_len', Frm.be4]; omega
   rw [e1, e, List.getElem?_append_right (Nat.le_refl _)]
   simp
 · have e1 : b.length - 5 - 4 * many b = T.length := by omega
   rw [e1, e, List.append_assoc, List.append_assoc, List.take_left']
   rfl
 · have e1 : b.length - 5 - 4 * H.length = T.length := by omega
   rw [hm, e1, e, List.append_assoc, List.append_assoc, List.drop_left' rfl, List.take_left']
   exact hb_len' H
def WRel (b : List UInt8) (o : List Pr) (last rest : List UInt8) : Prop := ∀ l0, WFb b l0 → ∃ l2, l0 = o ++ l2 ∧ rest = ents 16 o.length last l2
theorem ents_take {E i : Nat} {last rest : List UInt8} {l : List Pr} (h : rest = ents E i last l) (hr : rest ≠ []) (hb : last.length < 18446744073709551616) (hl : ∀ p ∈ l, p.k.length < 18446744073709551616 ∧ p.v.length < 18446744073709551616) :
   ∃ p l2 R1 R2, l = p :: l2 ∧ Cod.take rest = some (cn E i last p.k, R1) ∧ cutT (Cod.take R1) = some (p.k.drop (cn E i last p.k), R2) ∧ cutT (Cod.take R2) = some (p.v, ents E (i + 1) p.k l2) ∧ last.take (cn E i last p.k) ++ p.k.drop (cn E i last p.k) = p.k := by
 cases l with
 | nil => exact absurd h hr
 | cons p l2 =>
   obtain ⟨h1, h2, h3⟩ := cn_le E i last p.k
   obtain ⟨g1, g2⟩ := hl p (by simp)
   refine ⟨p, l2, Cod.text (p.k.drop (cn E i last p.k)) ++ (Cod.text p.v ++ ents E (i + 1) p.k l2), Cod.text p.v ++ ents E (i + 1) p.k l2, rfl, ?_, ?_, ?_, ?_⟩
   · rw [h, ents, entry, List.append_assoc, List.append_assoc]
     exact Cod.take_of (by omega) _
   · exact Frm.cutT_of _ _ (by rw [List.length_drop]; omega)
   · exact Frm.cutT_of _ _ g2
   · rw [h3, List.take_append_drop]
theorem ents_nil {E i : Nat} {last : List UInt8} {l : List Pr} (h : [] = ents E i last l) : l = [] := by
 cases l with
 | nil => rfl
 | cons p l =>
   have := entry_pos (cn E i last p.k) p
   have h2 := congrArg List.length h
   rw [ents, List.length_append] at h2
   simp at h2
   omega
section
variable {b last rest R1 R2 R3 k v : List UInt8} {o : List Pr} {n : Nat}
theorem WRel.start : WRel b [] [] (b.take (b.length - 5 - 4 * many b)) := fun l0 h => ⟨l0, rfl, (tail_of h).2.2.2.2.1⟩
theorem WRel.next (h : WRel b o last rest) (hr : rest ≠ []) (hb : last.length < 18446744073709551616) {l0 : List Pr} (hw : WFb b l0) :
   ∃ p l2 R1 R2, l0 = o ++ p :: l2 ∧ Cod.take rest = some (cn 16 o.length last p.k, R1) ∧ cutT (Cod.take R1) = some (p.k.drop (cn 16 o.length last p.k), R2) ∧ cutT (Cod.take R2) = some (p.v, ents 16 (o.length + 1) p.k l2) ∧ last.take (cn 16 o.length last p.k) ++ p.k.drop (cn 16 o.length last p.k) = p.k ∧ cn 16 o.length last p.k ≤ last.length := by
 obtain ⟨l2, e1, e2⟩ := h l0 hw
 obtain ⟨p, l3, R1, R2, a1, a2, a3, a4, a5⟩ := ents_take e2 hr hb (fun p hp => by have := hw.bd p (by rw [e1]; simp [hp]); omega)
 exact ⟨p, l3, R1, R2, by rw [e1, a1], a2, a3, a4, a5, (cn_le _ _ _ _).1⟩
theorem WRel.step (h : WRel b o last rest) (hr : rest ≠ []) (hb : last.length < 18446744073709551616) (h1 : Cod.take rest = some (n, R1)) (h2 : cutT (Cod.take R1) = some (k, R2)) (h3 : cutT (Cod.take R2) = some (v, R3)) : WRel b (o ++ [⟨last.take n ++ k, v⟩]) (last.take n ++ k) R3 := fun l0 hw => by
 obtain ⟨p, l2, S1, S2, e, a1, a2, a3, a4, _⟩ := h.next hr hb hw
 rw [h1] at a1
 injection a1 with a1; injection a1 with b1 b2
 subst b2
 rw [h2] at a2
 injection a2 with a2; injection a2 with c1 c2
 subst c2
 rw [h3] at a3
 injection a3 with a3; injection a3 with d1 d2
 refine ⟨l2, ?_, ?_⟩
 · rw [e, b1, c1, a4, d1]
   obtain ⟨pk, pv⟩ := p
   simp
 · rw [b1, c1, a4, d2]; simp
theorem WRel.fin (h : WRel b o last []) {l0 : List Pr} (hw : WFb b l0) : l0 = o := by
 obtain ⟨l2, e1, e2⟩ := h l0 hw
 rw [ents_nil e2, List.append_nil] at e1
 exact e1
theorem WFb.small (hl : b.length < 5) (l0 : List Pr) : ¬ WFb b l0 := fun hw => by have := (tail_of hw).1; omega
theorem WFb.much (hl : (b.length - 5) / 4 < many b) (l0 : List Pr) : ¬ WFb b l0 := fun hw => by have := (tail_of hw).2.2.2.1; omega
end
end Blk
end Go.Proofs.YtgafionfojnieaaGreatDoor
