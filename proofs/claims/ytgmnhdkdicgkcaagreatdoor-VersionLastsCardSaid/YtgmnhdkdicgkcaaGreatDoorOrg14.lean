/- Parts of the proof, one behind the other: The contracts of TakeText, both. -/
import Derived.Test.YtgmnhdkdicgkcaaGreatDoorOrg05
import Derived.Deep.RegionHeld
import Derived.Deep.RegionHeldLaw
namespace Go.Proofs.YtgmnhdkdicgkcaaGreatDoor
open Go.RowKit
open Lib (hid)
def cutT (v : Option (Nat × List UInt8)) : Option (List UInt8 × List UInt8) := match v with
 | none => none
 | some (n, r) => if n ≤ r.length then some (r.take n, r.drop n) else none
def TakenT (w : World) (v : Option (List UInt8 × List UInt8)) (e : Ending) (w' : World) : Prop :=
 Below w.heap.size w w' ∧ match v with
 | none => e = .returned (.tuple #[.slice none 0 0, .slice none 0 0, .int .i64 3])
 | some (t, r) => ∃ A c B d, e = .returned (.tuple #[.slice A t.length c, .slice B r.length d, .int .i64 0]) ∧ RdB w' w'.heap.size A t ∧ RdB w' w'.heap.size B r
theorem takenT_none {w w' : World} {e : Ending} (h : TakenT w none e w') : Below w.heap.size w w' ∧ e = .returned (.tuple #[.slice none 0 0, .slice none 0 0, .int .i64 3]) := h
theorem takenT_some {w w' : World} {e : Ending} {t r : List UInt8} (h : TakenT w (some (t, r)) e w') : Below w.heap.size w w' ∧ ∃ A c B d, e = .returned (.tuple #[.slice A t.length c, .slice B r.length d, .int .i64 0]) ∧ RdB w' w'.heap.size A t ∧ RdB w' w'.heap.size B r := h
theorem ret_takt {A B : Option Addr} {k k' m m' c d : Nat} (hk : k = k') (hm : m = m') : Ending.returned (.tuple #[.slice A k c, .slice B m d, .int .i64 0]) = .returned (.tuple #[.slice A k' c, .slice B m' d, .int .i64 0]) := by rw [hk, hm]
theorem rdB_keep {w w' : World} {A : Option Addr} {l : List UInt8} (h : RdB w w.heap.size A l) (hb : Below w.heap.size w w') : RdB w' w'.heap.size A l ∧ Below w.heap.size w w' := ⟨(h.below hb (Nat.le_refl _)).more hb.size, hb⟩
set_option maxHeartbeats 1000000 in
set_option maxRecDepth 100000 in
theorem text_part (A : Option Addr) (c n : Nat) (r : List UInt8) (w : World) (hn : n < 18446744073709551616) (h : RdB w w.heap.size A r) (hl : r.length ≤ 140737488355328) (hc : r.length ≤ c) (hcc : c ≤ 9223372036854775807) :
   Calls Tryz.prog 110 #[.int .u64 (n : Int), .slice A r.length c] w (TakenT w (cutT (some (n, r)))) := by
 by_cases hnr : (r.length : Int) < (n : Int)
 · have e : cutT (some (n, r)) = none := by unfold cutT; simp only; rw [if_neg (by omega)]
   rw [e]
   go_enter Tryz.func110, Tryz.ntmps110
   go_wp2
   refine bodyPost_ret (results_tmp3 rfl _ _ _) rfl ?_
   exact ⟨Below.refl _ _, rfl⟩
 · have e : cutT (some (n, r)) = some (r.take n, r.drop n) := by unfold cutT; simp only; rw [if_pos (by omega)]
   rw [e]
   have ht : RdB w w.heap.size A (r.take n) := h.take (by omega)
   have htl : n = (r.take n).length := by rw [List.length_take]; omega
   have hdl : r.length - n = (r.drop n).length := by simp
   obtain ⟨t, htt⟩ : ∃ t, t = r.take n := ⟨_, rfl⟩
   rw [← htt] at ht htl ⊢
   have htl2 : t.length ≤ 140737488355328 := by omega
   have hn1 : n ≤ r.length := by omega
   have hn2 : n ≤ c := by omega
   have HL := hid htl2
   have HT := hid ht
   have HTL := hid htl
   have HDL := hid hdl
   have HH := hid h
   clear ht htl hdl htt e h htl2 hl
   cases A with
   | none =>
     have hr0 : r = [] := by
       cases r with
       | nil => rfl
       | cons b r => obtain ⟨ad, h, _⟩ := HH.out.2 (by simp); cases h
     subst hr0
     have hn0 : n = 0 := by simpa using hn1
     subst hn0
     by_cases hc0 : c = 0
     · subst hc0
       go_enter Tryz.func110, Tryz.ntmps110
       go_wp2
       go_region_held (fun w' => RdB w' w'.heap.size none t ∧ Below w.heap.size w w')
         (first | exact rdB_keep HT.out ((Below.refl _ _).drew) | exact rdB_keep HT.out B3)
         (first
           | (go_at_call 84; refine (clone_cut none 0 0 t _ HTL.out (by go_split_ands; assumption) HL.out).mono ?_; rintro e w3 ⟨A3, c3, rfl, ho3, hb3⟩; have B3 := Below.trans (b := _) (by go_split_ands; assumption : Below w.heap.size w _) (hb3.mono (by go_split_ands; exact Below.size (by assumption)))))
       go_wp2
       refine bodyPost_ret (results_tmp3 rfl _ _ _) rfl ?_
       exact ⟨B3, A3, c3, none, 0, rfl, ho3.rd, RdB.nil⟩
     · have hc1 : 0 < c := by omega
       go_enter Tryz.func110, Tryz.ntmps110
       go_wp2
       go_region_held (fun w' => RdB w' w'.heap.size none t ∧ Below w.heap.size w w')
         (first | exact rdB_keep HT.out ((Below.refl _ _).drew) | exact rdB_keep HT.out B3)
         (first
           | (go_at_call 84; refine (clone_cut none 0 c t _ HTL.out (by go_split_ands; assumption) HL.out).mono ?_; rintro e w3 ⟨A3, c3, rfl, ho3, hb3⟩; have B3 := Below.trans (b := _) (by go_split_ands; assumption : Below w.heap.size w _) (hb3.mono (by go_split_ands; exact Below.size (by assumption)))))
       go_wp2
       refine bodyPost_ret (results_tmp3 rfl _ _ _) rfl ?_
       exact ⟨B3, A3, c3, none, c, rfl, ho3.rd, RdB.nil⟩
   | some ad =>
     have q := HH.out.drop (k := n) (cap := c) hn1 hc
     by_cases hcn : c = n
     · subst hcn
       rw [if_pos rfl] at q
       have HQ := hid q; clear q
       go_enter Tryz.func110, Tryz.ntmps110
       go_wp2
       go_region_held (fun w' => RdB w' w'.heap.size (some ad) t ∧ Below w.heap.size w w')
         (first | exact rdB_keep HT.out ((Below.refl _ _).drew) | exact rdB_keep HT.out B3)
         (first
           | (go_at_call 84; refine (clone_cut (some ad) c c t _ HTL.out (by go_split_ands; assumption) HL.out).mono ?_; rintro e w3 ⟨A3, c3, rfl, ho3, hb3⟩; have B3 := Below.trans (b := _) (by go_split_ands; assumption : Below w.heap.size w _) (hb3.mono (by go_split_ands; exact Below.size (by assumption)))))
       go_wp2
       refine bodyPost_ret (results_tmp3 rfl _ _ _) rfl ?_
       exact ⟨B3, A3, c3, some ad, 0, ret_takt rfl (by have := HDL.out; omega), ho3.rd, (HQ.out.below B3 (Nat.le_refl _)).more B3.size⟩
     · have hcn2 : n < c := by omega
       rw [if_neg hcn] at q
       have HQ := hid q; clear q
       go_enter Tryz.func110, Tryz.ntmps110
       go_wp2
       go_region_held (fun w' => RdB w' w'.heap.size (some ad) t ∧ Below w.heap.size w w')
         (first | exact rdB_keep HT.out ((Below.refl _ _).drew) | exact rdB_keep HT.out B3)
         (first
           | (go_at_call 84; refine (clone_cut (some ad) n c t _ HTL.out (by go_split_ands; assumption) HL.out).mono ?_; rintro e w3 ⟨A3, c3, rfl, ho3, hb3⟩; have B3 := Below.trans (b := _) (by go_split_ands; assumption : Below w.heap.size w _) (hb3.mono (by go_split_ands; exact Below.size (by assumption)))))
       go_wp2
       refine bodyPost_ret (results_tmp3 rfl _ _ _) rfl ?_
       exact ⟨B3, A3, c3, some (ad.add n), c - n, ret_takt rfl HDL.out, ho3.rd, (HQ.out.below B3 (Nat.le_refl _)).more B3.size⟩
theorem step_append_bd {P : Program} (w : World) {ops : Array Oper} {o : Oper} {a : Act} {K : Act → World → Prop} {Q : Exit → Act → World → Prop} {E : Prop} (hgd : o.guard = none) (d : Option Tmp) (hd : o.dst = d) (s x : Operand) {t e : TypeId} (T : BT P t e)
   (ho : o.op = .call { callee := .builtin .append, args := #[s, x], argTypes := #[t, t] })
   (base : Nat) (A : Option Addr) (c : Nat) (l : List UInt8) (hs : a.eval s = .slice A l.length c) (hown : Own w base e A c l)
   (B : Nat) (A2 : Option Addr) (m c2 : Nat) (l2 : List UInt8) (hx : a.eval x = .slice A2 m c2) (hm : m = l2.length) (hr : RdB w B A2 l2) (hlen : l.length + l2.length ≤ 140737488355328) (hbase : base ≤ w.heap.size)
   (h : ∀ A' c' L w', L = l ++ l2 → Own w' base e A' c' L → w.grownBy w' (blk A) → (blk A' = blk A ∨ blk A' = some w.heap.size) → K (a.put d (.slice A' L.length c')) w') :
   if Region.wanted o (yielded ops a.tmps) = true then Oper.wp P o a w K Q else E := by
 subst hd
 exact step_append_b w hgd s x T ho base A c l hs hown B A2 m c2 l2 hx hm hr hlen hbase h
end Go.Proofs.YtgmnhdkdicgkcaaGreatDoor
