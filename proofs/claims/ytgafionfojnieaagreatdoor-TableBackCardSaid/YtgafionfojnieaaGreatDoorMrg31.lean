/- Parts of the proof, one behind the other: The contract of table.inner (written by gen_tbld.py). -/
import Derived.Test.YtgafionfojnieaaGreatDoorMrg22
import Derived.Test.YtgafionfojnieaaGreatDoorMrg26
import Derived.BigRegion
import Derived.Deep.RegionWith
import Derived.Deep.RegionLaw
namespace Go.Proofs.YtgafionfojnieaaGreatDoor
open Go.RowKit
open Lib (hid)
theorem step_call_d {P : Program} {w : World} {ops : Array Oper} {o : Oper} {a : Act} {K : Act → World → Prop} {Q : Exit → Act → World → Prop} {E : Prop} (hgd : o.guard = none) (d : Option Tmp) (hd : o.dst = d) {f : Nat} (x y : Operand) {ats : Array TypeId}
   (ho : o.op = .call { callee := .value (.func f), args := #[x, y], argTypes := ats }) (vx vy : Value) (hx : a.eval x = vx) (hy : a.eval y = vy) (hen : ∀ args w, (callFunc f args).run P w = .ok (.enter f args) w) (R : Ending → World → Prop) (hc : Calls P f #[vx, vy] w R)
   (h : ∀ e w', R e w' → ∃ v, e = .returned v ∧ K (a.put d v) w') : if Region.wanted o (yielded ops a.tmps) = true then Oper.wp P o a w K Q else E := by
 subst hd hx hy
 have hw : Region.wanted o (yielded ops a.tmps) = true := by simp [Region.wanted, hgd]
 rw [if_pos hw]
 unfold Oper.wp execOp
 have e1 : a.eval (.func f) = .func (.func f) #[] #[] := rfl
 simp [ho, resolve, invoke, Deferred.ofValue, e1, hen]
 rw [Oper.upon_enter]
 refine hc.mono ?_
 intro e w' hr
 obtain ⟨v, rfl, hk⟩ := h e w' hr
 exact hk
structure FI (w : World) (r : Rv) (X : World) : Prop where
 box : X.heap[w.heap.size]? = some (.cells #[.slice r.kA r.k.length r.kc, .int .i64 r.seq, .bool r.del, .slice r.vA r.v.length r.vc] 35)
 pair : X.heap[w.heap.size + 1]? = some (.cells #[.slice none 0 0, .slice none 0 0] 77)
 below : Below w.heap.size w X
 size : w.heap.size + 2 ≤ X.heap.size
section
variable {w X X' : World} {r : Rv}
theorem FI.on (h : FI w r X) (hb : Below X.heap.size X X') : FI w r X' := ⟨(hb.block _ (by have := h.size; omega)).trans h.box, (hb.block _ (by have := h.size; omega)).trans h.pair, h.below.trans (hb.mono h.below.size), Nat.le_trans h.size hb.size⟩
theorem FI.alloc (h : FI w r X) (o : Obj) : FI w r (X.alloc o) := h.on ((Below.refl _ _).alloc (Nat.le_refl _) _)
theorem FI.drew (h : FI w r X) : FI w r X.drew := h.on ((Below.refl _ _).drew)
theorem FI.grown (h : FI w r X) {row : Option Nat} (hg : X.grownBy X' row) (hr : ∀ g, row = some g → w.heap.size + 2 ≤ g) : FI w r X' :=
 ⟨(hg.block _ (by have := h.size; omega) (fun e => by have := hr _ e.symm; omega)).trans h.box, (hg.block _ (by have := h.size; omega) (fun e => by have := hr _ e.symm; omega)).trans h.pair, h.below.grown hg h.below.size (fun g e => by have := hr g e; omega), Nat.le_trans h.size hg.size⟩
theorem FI.cells (h : FI w r X) : X.cell? ⟨w.heap.size, 0, none⟩ = some (.slice r.kA r.k.length r.kc) ∧ X.cell? ⟨w.heap.size, 1, none⟩ = some (.int .i64 r.seq) ∧ X.cell? ⟨w.heap.size, 2, none⟩ = some (.bool r.del) ∧ X.cell? ⟨w.heap.size, 3, none⟩ = some (.slice r.vA r.v.length r.vc) ∧
   X.cell? ⟨w.heap.size + 1, 0, none⟩ = some (.slice none 0 0) ∧ X.cell? ⟨w.heap.size + 1, 1, none⟩ = some (.slice none 0 0) ∧ X.frozen? ⟨w.heap.size + 1, 0, none⟩ = false ∧ X.frozen? ⟨w.heap.size + 1, 1, none⟩ = false := by
 refine ⟨?_, ?_, ?_, ?_, ?_, ?_, frozen_of_row _ _ _ _ _ h.pair, frozen_of_row _ _ _ _ _ h.pair⟩
 · rw [cell_of_row _ _ _ _ _ (0, 0) h.box]; rfl
 · rw [cell_of_row _ _ _ _ _ (0, 0) h.box]; rfl
 · rw [cell_of_row _ _ _ _ _ (0, 0) h.box]; rfl
 · rw [cell_of_row _ _ _ _ _ (0, 0) h.box]; rfl
 · rw [cell_of_row _ _ _ _ _ (0, 0) h.pair]; rfl
 · rw [cell_of_row _ _ _ _ _ (0, 0) h.pair]; rfl
theorem FI.new (w : World) (r : Rv) : FI w r ((w.alloc (.cells #[.slice r.kA r.k.length r.kc, .int .i64 r.seq, .bool r.del, .slice r.vA r.v.length r.vc] 35)).alloc (.cells #[.slice none 0 0, .slice none 0 0] 77)) := by
 refine ⟨(Below.heap_alloc _ _ _ (by simp)).trans (World.alloc_heap_new w _), ?_, ((Below.refl _ _).alloc (Nat.le_refl _) _).alloc (by simp) _, by simp⟩
 have := World.alloc_heap_new (w.alloc (.cells #[.slice r.kA r.k.length r.kc, .int .i64 r.seq, .bool r.del, .slice r.vA r.v.length r.vc] 35)) (.cells #[.slice none 0 0, .slice none 0 0] 77)
 simpa only [World.size_alloc] using this
end
set_option maxHeartbeats 8000000 in
set_option maxRecDepth 100000 in
theorem inner_false (kA : Option Addr) (kc : Nat) (k : List UInt8) (seq : Int) (vA : Option Addr) (vc : Nat) (v : List UInt8) (w : World) (h : RdB w w.heap.size kA k) (hv0 : RdB w w.heap.size vA v) (hk : k.length ≤ 100000) (hv : v.length ≤ 100000) (h1 : 1 ≤ seq) (h2 : seq ≤ 1099511627776) :
   Calls Tryz.prog 42 #[.agg #[.slice kA k.length kc, .int .i64 seq, .bool false, .slice vA v.length vc]] w (InnerP w ⟨Tb.ikey k seq, 0 :: v⟩) := by
 have KI : Hid (∀ X : World, Below w.heap.size w X → w.heap.size ≤ X.heap.size → Calls Tryz.prog 77 #[.slice kA k.length kc, .int .i64 seq] X (GivesB X (Tb.ikey k seq))) := hid (fun X hb hz => ikeyT_any kA kc k seq X ((h.below hb (Nat.le_refl _)).more hz) hk h1 h2)
 have HV := hid hv0
 have hKl := Tb.ikey_len k seq hk h1 h2
 obtain ⟨K, hK⟩ : ∃ K, K = Tb.ikey k seq := ⟨_, rfl⟩
 rw [← hK] at KI hKl ⊢
 clear hK h hv0
 have FN := FI.new w ⟨kA, kc, k, seq, false, vA, vc, v⟩
 go_enter Tryz.func42, Tryz.ntmps42
 go_wp2_with fail
 obtain ⟨W, hW⟩ : ∃ W, W = (w.alloc (.cells #[.slice kA k.length kc, .int .i64 seq, .bool false, .slice vA v.length vc] 35)).alloc (.cells #[.slice none 0 0, .slice none 0 0] 77) := ⟨_, rfl⟩
 try simp only at FN
 rw [← hW] at FN ⊢
 have HZW : Hid (W.heap.size = w.heap.size + 2) := hid (by rw [hW]; simp)
 obtain ⟨q0, q1, q2, q3, g0, g1, f0, f1⟩ := FN.cells
 try simp only at q0 q1 q2 q3
 have FL := hid FN.drew
 obtain ⟨qd0, qd1, qd2, qd3, gd0, gd1, fd0, fd1⟩ := (FN.alloc (.cells #[.int .u8 0] 5)).cells
 try simp only at qd0 qd1 qd2 qd3
 clear FN hW
 go_region_law (first
   | (refine step_call_d (by rfl) (some 10) (by rfl) (.tmp 7) (.tmp 9) (by rfl) (.slice kA k.length kc) (.int .i64 seq) rfl rfl (enters_of Tryz.func77 (by kernel_rfl) rfl) _ (KI.out W.drew FL.out.below FL.out.below.size) ?_; rintro e w1 ⟨A1, c1, rfl, ho1, hb1⟩; refine ⟨_, rfl, ?_⟩
      have F1 := hid (FL.out.on hb1); have HO1 := hid ho1; have HB1 := hid hb1
      obtain ⟨qa0, qa1, qa2, qa3, ga0, ga1, fa0, fa1⟩ := F1.out.cells
      try simp only at qa0 qa1 qa2 qa3
      obtain ⟨qc0, qc1, qc2, qc3, gc0, gc1, fc0, fc1⟩ := (F1.out.alloc (.cells #[.int .u8 0] 5)).cells
      try simp only at qc0 qc1 qc2 qc3
      have hz1 : w.heap.size + 2 ≤ w1.heap.size := F1.out.size
      clear ho1 hb1)
   | (refine step_call_d (by rfl) (some 10) (by rfl) (.tmp 7) (.tmp 9) (by rfl) (.slice kA k.length kc) (.int .i64 seq) rfl rfl (enters_of Tryz.func77 (by kernel_rfl) rfl) _ (KI.out (W.drew.alloc (.cells #[.int .u8 0] 5)) (FL.out.alloc _).below (FL.out.alloc _).below.size) ?_; rintro e w1 ⟨A1, c1, rfl, ho1, hb1⟩; refine ⟨_, rfl, ?_⟩
      have F2 := hid ((FL.out.alloc (.cells #[.int .u8 0] 5)).on hb1); have HO2 := hid ho1
      have HN2 : Hid (Own w1 W.heap.size 5 (some ⟨W.heap.size, 0, none⟩) 1 [0]) := hid ((own_one (w := W.drew) (x := 0) (b := 0) rfl).below hb1)
      obtain ⟨qa0, qa1, qa2, qa3, ga0, ga1, fa0, fa1⟩ := F2.out.cells
      try simp only at qa0 qa1 qa2 qa3
      have hz1 : w.heap.size + 2 ≤ w1.heap.size := F2.out.size
      clear ho1 hb1)
   | (refine step_append_bd _ (by rfl) (some 15) (by rfl) (.tmp 12) (.tmp 14) bt (by rfl) w1.heap.size (some ⟨w1.heap.size, 0, none⟩) 1 [0] rfl (by exact own_one rfl) w.heap.size vA v.length vc v rfl rfl (by exact (HV.out.below F1.out.below (Nat.le_refl _)).alloc F1.out.below.size _) (by simp only [List.length_cons, List.length_nil]; omega) (by simp) ?_; intro A2 c2 L w9 hL ho2 hg2 hat2
      have HL := hid hL
      have FF := hid ((F1.out.alloc (.cells #[.int .u8 0] 5)).grown hg2 (fun g e => by simp [blk] at e; omega))
      have FV : Hid (Own w9 (w.heap.size + 2) 5 A2 c2 L) := hid (ho2.mono hz1)
      have FK : Hid (Own w9 (w.heap.size + 2) 5 A1 c1 K) := hid (((HO1.out.alloc _).kept hg2 (.inr (fun e => Nat.lt_irrefl _ (HO1.out.blk_ge w1.heap.size (e.trans rfl)).2))).mono FL.out.size)
      obtain ⟨qz0, qz1, qz2, qz3, gz0, gz1, fz0, fz1⟩ := FF.out.cells
      clear hL ho2 hg2 hat2)
   | (refine step_append_bd _ (by rfl) (some 15) (by rfl) (.tmp 12) (.tmp 14) bt (by rfl) W.heap.size (some ⟨W.heap.size, 0, none⟩) 1 [0] rfl (by exact HN2.out) w.heap.size vA v.length vc v rfl rfl (by exact HV.out.below F2.out.below (Nat.le_refl _)) (by simp only [List.length_cons, List.length_nil]; omega) (by rw [HZW.out]; exact hz1) ?_; intro A2 c2 L w9 hL ho2 hg2 hat2
      have HL := hid hL
      have FF := hid (F2.out.grown hg2 (fun g e => by have := HZW.out; simp [blk] at e; omega))
      have FV : Hid (Own w9 (w.heap.size + 2) 5 A2 c2 L) := hid (ho2.mono (Nat.le_of_eq HZW.out.symm))
      have FK : Hid (Own w9 (w.heap.size + 2) 5 A1 c1 K) := hid ((HO2.out.kept hg2 (.inr (fun e => by have := (HO2.out.blk_ge W.heap.size (e.trans rfl)).1; rw [World.size_alloc] at this; exact absurd this (Nat.not_succ_le_self _)))).mono (FL.out.alloc _).size)
      obtain ⟨qz0, qz1, qz2, qz3, gz0, gz1, fz0, fz1⟩ := FF.out.cells
      clear hL ho2 hg2 hat2))
 all_goals
   have HLV := HL.out
   go_wp2_with fail
   refine bodyPost_ret (results_cell_row rfl _ _ (w.heap.size + 1) 77 #[.slice A1 K.length c1, .slice A2 (v.length + 1) c2] (0, 0) _ rfl (heap_set2 FF.out.pair) Tryz.underlying77 rfl pair_size) rfl ?_
   refine ⟨A1, c1, A2, c2, ?_, ?_, ?_, (FF.out.below.setCell (by show w.heap.size ≤ w.heap.size + 1; omega) _).setCell (by show w.heap.size ≤ w.heap.size + 1; omega) _⟩
   · rfl
   · refine ((FK.out.mono (by omega)).cellput _ _ (fun h => ?_)).cellput _ _ (fun h => ?_)
     · have := (FK.out.blk_ge _ h).1; simp at this
     · have := (FK.out.blk_ge _ h).1; simp at this
   · have e2 : L = 0 :: v := by rw [HLV]; rfl
     rw [← e2]
     refine ((FV.out.mono (by omega)).cellput _ _ (fun h => ?_)).cellput _ _ (fun h => ?_)
     · have := (FV.out.blk_ge _ h).1; simp at this
     · have := (FV.out.blk_ge _ h).1; simp at this
set_option maxHeartbeats 8000000 in
set_option maxRecDepth 100000 in
theorem inner_true (kA : Option Addr) (kc : Nat) (k : List UInt8) (seq : Int) (vA : Option Addr) (vc : Nat) (v : List UInt8) (w : World) (h : RdB w w.heap.size kA k) (hv0 : RdB w w.heap.size vA v) (hk : k.length ≤ 100000) (hv : v.length ≤ 100000) (h1 : 1 ≤ seq) (h2 : seq ≤ 1099511627776) :
   Calls Tryz.prog 42 #[.agg #[.slice kA k.length kc, .int .i64 seq, .bool true, .slice vA v.length vc]] w (InnerP w ⟨Tb.ikey k seq, 1 :: v⟩) := by
 have KI : Hid (∀ X : World, Below w.heap.size w X → w.heap.size ≤ X.heap.size → Calls Tryz.prog 77 #[.slice kA k.length kc, .int .i64 seq] X (GivesB X (Tb.ikey k seq))) := hid (fun X hb hz => ikeyT_any kA kc k seq X ((h.below hb (Nat.le_refl _)).more hz) hk h1 h2)
 have HV := hid hv0
 have hKl := Tb.ikey_len k seq hk h1 h2
 obtain ⟨K, hK⟩ : ∃ K, K = Tb.ikey k seq := ⟨_, rfl⟩
 rw [← hK] at KI hKl ⊢
 clear hK h hv0
 have FN := FI.new w ⟨kA, kc, k, seq, true, vA, vc, v⟩
 go_enter Tryz.func42, Tryz.ntmps42
 go_wp2_with fail
 obtain ⟨W, hW⟩ : ∃ W, W = (w.alloc (.cells #[.slice kA k.length kc, .int .i64 seq, .bool true, .slice vA v.length vc] 35)).alloc (.cells #[.slice none 0 0, .slice none 0 0] 77) := ⟨_, rfl⟩
 try simp only at FN
 rw [← hW] at FN ⊢
 have HZW : Hid (W.heap.size = w.heap.size + 2) := hid (by rw [hW]; simp)
 obtain ⟨q0, q1, q2, q3, g0, g1, f0, f1⟩ := FN.cells
 try simp only at q0 q1 q2 q3
 have FL := hid FN.drew
 obtain ⟨qd0, qd1, qd2, qd3, gd0, gd1, fd0, fd1⟩ := (FN.alloc (.cells #[.int .u8 1] 5)).cells
 try simp only at qd0 qd1 qd2 qd3
 clear FN hW
 go_region_law (first
   | (refine step_call_d (by rfl) (some 10) (by rfl) (.tmp 7) (.tmp 9) (by rfl) (.slice kA k.length kc) (.int .i64 seq) rfl rfl (enters_of Tryz.func77 (by kernel_rfl) rfl) _ (KI.out W.drew FL.out.below FL.out.below.size) ?_; rintro e w1 ⟨A1, c1, rfl, ho1, hb1⟩; refine ⟨_, rfl, ?_⟩
      have F1 := hid (FL.out.on hb1); have HO1 := hid ho1; have HB1 := hid hb1
      obtain ⟨qa0, qa1, qa2, qa3, ga0, ga1, fa0, fa1⟩ := F1.out.cells
      try simp only at qa0 qa1 qa2 qa3
      obtain ⟨qc0, qc1, qc2, qc3, gc0, gc1, fc0, fc1⟩ := (F1.out.alloc (.cells #[.int .u8 1] 5)).cells
      try simp only at qc0 qc1 qc2 qc3
      have hz1 : w.heap.size + 2 ≤ w1.heap.size := F1.out.size
      clear ho1 hb1)
   | (refine step_call_d (by rfl) (some 10) (by rfl) (.tmp 7) (.tmp 9) (by rfl) (.slice kA k.length kc) (.int .i64 seq) rfl rfl (enters_of Tryz.func77 (by kernel_rfl) rfl) _ (KI.out (W.drew.alloc (.cells #[.int .u8 1] 5)) (FL.out.alloc _).below (FL.out.alloc _).below.size) ?_; rintro e w1 ⟨A1, c1, rfl, ho1, hb1⟩; refine ⟨_, rfl, ?_⟩
      have F2 := hid ((FL.out.alloc (.cells #[.int .u8 1] 5)).on hb1); have HO2 := hid ho1
      have HN2 : Hid (Own w1 W.heap.size 5 (some ⟨W.heap.size, 0, none⟩) 1 [1]) := hid ((own_one (w := W.drew) (x := 1) (b := 1) rfl).below hb1)
      obtain ⟨qa0, qa1, qa2, qa3, ga0, ga1, fa0, fa1⟩ := F2.out.cells
      try simp only at qa0 qa1 qa2 qa3
      have hz1 : w.heap.size + 2 ≤ w1.heap.size := F2.out.size
      clear ho1 hb1)
   | (refine step_append_bd _ (by rfl) (some 15) (by rfl) (.tmp 12) (.tmp 14) bt (by rfl) w1.heap.size (some ⟨w1.heap.size, 0, none⟩) 1 [1] rfl (by exact own_one rfl) w.heap.size vA v.length vc v rfl rfl (by exact (HV.out.below F1.out.below (Nat.le_refl _)).alloc F1.out.below.size _) (by simp only [List.length_cons, List.length_nil]; omega) (by simp) ?_; intro A2 c2 L w9 hL ho2 hg2 hat2
      have HL := hid hL
      have FF := hid ((F1.out.alloc (.cells #[.int .u8 1] 5)).grown hg2 (fun g e => by simp [blk] at e; omega))
      have FV : Hid (Own w9 (w.heap.size + 2) 5 A2 c2 L) := hid (ho2.mono hz1)
      have FK : Hid (Own w9 (w.heap.size + 2) 5 A1 c1 K) := hid (((HO1.out.alloc _).kept hg2 (.inr (fun e => Nat.lt_irrefl _ (HO1.out.blk_ge w1.heap.size (e.trans rfl)).2))).mono FL.out.size)
      obtain ⟨qz0, qz1, qz2, qz3, gz0, gz1, fz0, fz1⟩ := FF.out.cells
      clear hL ho2 hg2 hat2)
   | (refine step_append_bd _ (by rfl) (some 15) (by rfl) (.tmp 12) (.tmp 14) bt (by rfl) W.heap.size (some ⟨W.heap.size, 0, none⟩) 1 [1] rfl (by exact HN2.out) w.heap.size vA v.length vc v rfl rfl (by exact HV.out.below F2.out.below (Nat.le_refl _)) (by simp only [List.length_cons, List.length_nil]; omega) (by rw [HZW.out]; exact hz1) ?_; intro A2 c2 L w9 hL ho2 hg2 hat2
      have HL := hid hL
      have FF := hid (F2.out.grown hg2 (fun g e => by have := HZW.out; simp [blk] at e; omega))
      have FV : Hid (Own w9 (w.heap.size + 2) 5 A2 c2 L) := hid (ho2.mono (Nat.le_of_eq HZW.out.symm))
      have FK : Hid (Own w9 (w.heap.size + 2) 5 A1 c1 K) := hid ((HO2.out.kept hg2 (.inr (fun e => by have := (HO2.out.blk_ge W.heap.size (e.trans rfl)).1; rw [World.size_alloc] at this; exact absurd this (Nat.not_succ_le_self _)))).mono (FL.out.alloc _).size)
      obtain ⟨qz0, qz1, qz2, qz3, gz0, gz1, fz0, fz1⟩ := FF.out.cells
      clear hL ho2 hg2 hat2))
 all_goals
   have HLV := HL.out
   go_wp2_with fail
   refine bodyPost_ret (results_cell_row rfl _ _ (w.heap.size + 1) 77 #[.slice A1 K.length c1, .slice A2 (v.length + 1) c2] (0, 0) _ rfl (heap_set2 FF.out.pair) Tryz.underlying77 rfl pair_size) rfl ?_
   refine ⟨A1, c1, A2, c2, ?_, ?_, ?_, (FF.out.below.setCell (by show w.heap.size ≤ w.heap.size + 1; omega) _).setCell (by show w.heap.size ≤ w.heap.size + 1; omega) _⟩
   · rfl
   · refine ((FK.out.mono (by omega)).cellput _ _ (fun h => ?_)).cellput _ _ (fun h => ?_)
     · have := (FK.out.blk_ge _ h).1; simp at this
     · have := (FK.out.blk_ge _ h).1; simp at this
   · have e2 : L = 1 :: v := by rw [HLV]; rfl
     rw [← e2]
     refine ((FV.out.mono (by omega)).cellput _ _ (fun h => ?_)).cellput _ _ (fun h => ?_)
     · have := (FV.out.blk_ge _ h).1; simp at this
     · have := (FV.out.blk_ge _ h).1; simp at this
end Go.Proofs.YtgafionfojnieaaGreatDoor
