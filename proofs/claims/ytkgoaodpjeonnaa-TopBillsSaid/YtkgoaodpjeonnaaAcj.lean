/- Contracts of File and of Advance. -/
import Derived.Test.YtkgoaodpjeonnaaAci
import Derived.Test.YtkgoaodpjeonnaaBgF
namespace Go.Proofs.Ytkgoaodpjeonnaa
open Go.RowKit

/-- What File hands back, where the interest is an amount. -/
def FileOk (w : World) (ga : Nat) (lbp most least t : Int) (per due day inc wh bp v : Int) (e : Ending) (w' : World) : Prop :=
  ∃ L, LateOf due day L ∧ e = .returned (.tuple #[.agg #[.int .i64 (penV lbp most least (max (t - wh) 0) L), .int .i64 v, .int .i64 (max (t - wh) 0), .int .i64 0, .int .i64 (max (wh - t) 0), .int .i64 0], .int .i64 0]) ∧
    StepR w.heap.size day bp (max (wh - t) 0) ⟨per, due, day, inc, wh, penV lbp most least (max (t - wh) 0) L, v, max (t - wh) 0, due, 0, v⟩ w' ga ∧ But [ga] w w'
theorem file_boxes (w : World) (A : Option Addr) (n c : Nat) (ded cred lbp most least per due filed inc wh : Int) :
    Below w.heap.size w (((w.alloc (.cells #[.slice A n c, .int .i64 ded, .int .i64 cred, .int .i64 lbp, .int .i64 most, .int .i64 least] 24)).alloc (.cells #[.int .i64 per, .int .i64 due, .int .i64 filed, .int .i64 inc, .int .i64 wh] 26)).alloc (.cells #[.int .i64 0, .int .i64 0, .int .i64 0, .int .i64 0, .int .i64 0, .int .i64 0] 38)) ∧
    Box (((w.alloc (.cells #[.slice A n c, .int .i64 ded, .int .i64 cred, .int .i64 lbp, .int .i64 most, .int .i64 least] 24)).alloc (.cells #[.int .i64 per, .int .i64 due, .int .i64 filed, .int .i64 inc, .int .i64 wh] 26)).alloc (.cells #[.int .i64 0, .int .i64 0, .int .i64 0, .int .i64 0, .int .i64 0, .int .i64 0] 38)) w.heap.size A n c ded cred lbp most least ∧
    RBox (((w.alloc (.cells #[.slice A n c, .int .i64 ded, .int .i64 cred, .int .i64 lbp, .int .i64 most, .int .i64 least] 24)).alloc (.cells #[.int .i64 per, .int .i64 due, .int .i64 filed, .int .i64 inc, .int .i64 wh] 26)).alloc (.cells #[.int .i64 0, .int .i64 0, .int .i64 0, .int .i64 0, .int .i64 0, .int .i64 0] 38)) (w.heap.size + 1) per due filed inc wh ∧
    MB (((w.alloc (.cells #[.slice A n c, .int .i64 ded, .int .i64 cred, .int .i64 lbp, .int .i64 most, .int .i64 least] 24)).alloc (.cells #[.int .i64 per, .int .i64 due, .int .i64 filed, .int .i64 inc, .int .i64 wh] 26)).alloc (.cells #[.int .i64 0, .int .i64 0, .int .i64 0, .int .i64 0, .int .i64 0, .int .i64 0] 38)) (w.heap.size + 1 + 1) 0 0 0 0 0 0 := by
  refine ⟨(((Below.refl _ _).alloc (Nat.le_refl _) _).alloc (by simp) _).alloc (by simp; omega) _, ?_, ?_, ?_⟩
  · unfold Box; rw [Below.heap_alloc _ _ _ (by simp; omega), Below.heap_alloc _ _ _ (by simp)]; exact heap_alloc_new w _
  · unfold RBox; rw [Below.heap_alloc _ _ _ (by simp)]
    have := heap_alloc_new (w.alloc (.cells #[.slice A n c, .int .i64 ded, .int .i64 cred, .int .i64 lbp, .int .i64 most, .int .i64 least] 24)) (.cells #[.int .i64 per, .int .i64 due, .int .i64 filed, .int .i64 inc, .int .i64 wh] 26)
    simpa using this
  · unfold MB
    have := heap_alloc_new ((w.alloc (.cells #[.slice A n c, .int .i64 ded, .int .i64 cred, .int .i64 lbp, .int .i64 most, .int .i64 least] 24)).alloc (.cells #[.int .i64 per, .int .i64 due, .int .i64 filed, .int .i64 inc, .int .i64 wh] 26)) (.cells #[.int .i64 0, .int .i64 0, .int .i64 0, .int .i64 0, .int .i64 0, .int .i64 0] 38)
    simpa using this
theorem stepR_move {w w3 X : World} {ga gm : Nat} {day bp cr : Int} {p : Per} (h : StepR w3.heap.size day bp cr p X ga) (hz : w.heap.size ≤ w3.heap.size) (h1 : ga ≠ gm) (h2 : gm < w3.heap.size) {a b c d e f : Int} :
    StepR w.heap.size day bp cr p ((((((X.setCell ⟨gm, 0, none⟩ (.int .i64 a)).setCell ⟨gm, 1, none⟩ (.int .i64 b)).setCell ⟨gm, 2, none⟩ (.int .i64 c)).setCell ⟨gm, 3, none⟩ (.int .i64 d)).setCell ⟨gm, 4, none⟩ (.int .i64 e)).setCell ⟨gm, 5, none⟩ (.int .i64 f)) ga := by
  obtain ⟨gq, cq, hab, hpb, hq, hne⟩ := h
  have h3 : gq ≠ gm := by omega
  refine ⟨gq, cq, ?_, ?_, by omega, hne⟩
  · exact (((((hab.other (a := ⟨gm, 0, none⟩) h1 _).other (a := ⟨gm, 1, none⟩) h1 _).other (a := ⟨gm, 2, none⟩) h1 _).other (a := ⟨gm, 3, none⟩) h1 _).other (a := ⟨gm, 4, none⟩) h1 _).other (a := ⟨gm, 5, none⟩) h1 _
  · exact (((((hpb.other (a := ⟨gm, 0, none⟩) h3 _).other (a := ⟨gm, 1, none⟩) h3 _).other (a := ⟨gm, 2, none⟩) h3 _).other (a := ⟨gm, 3, none⟩) h3 _).other (a := ⟨gm, 4, none⟩) h3 _).other (a := ⟨gm, 5, none⟩) h3 _
theorem but_move {w w3 X : World} {ga gm : Nat} (hb : Below w.heap.size w w3) (h : But [ga] w3 X) (h2 : w.heap.size ≤ gm) {a b c d e f : Int} :
    But [ga] w ((((((X.setCell ⟨gm, 0, none⟩ (.int .i64 a)).setCell ⟨gm, 1, none⟩ (.int .i64 b)).setCell ⟨gm, 2, none⟩ (.int .i64 c)).setCell ⟨gm, 3, none⟩ (.int .i64 d)).setCell ⟨gm, 4, none⟩ (.int .i64 e)).setCell ⟨gm, 5, none⟩ (.int .i64 f)) := by
  have h0 : But [ga] w X := ((But.of_below hb).more (cs := [ga]) (bs := []) (by simp)).trans h
  have hg : gm ∈ [ga, gm] := by simp
  have hc := ((((((h0.more (cs := [ga, gm]) (by simp)).setCell (p := ⟨gm, 0, none⟩) hg (.int .i64 a)).setCell (p := ⟨gm, 1, none⟩) hg (.int .i64 b)).setCell (p := ⟨gm, 2, none⟩) hg (.int .i64 c)).setCell (p := ⟨gm, 3, none⟩) hg (.int .i64 d)).setCell (p := ⟨gm, 4, none⟩) hg (.int .i64 e)).setCell (p := ⟨gm, 5, none⟩) hg (.int .i64 f)
  exact ⟨hc.os, hc.tape, hc.output, hc.size, fun k hk hn => hc.block k hk (by simp at hn ⊢; exact ⟨hn, by omega⟩)⟩
set_option maxHeartbeats 2000000 in
set_option maxRecDepth 100000 in
theorem file_ok (ga : Nat) (A : Option Addr) (c : Nat) (l : List Br) (ded cred lbp most least per due filed inc wh day bp v : Int) (w : World) (ha : AB w ga day bp 0 none 0 0) (h : RdS w w.heap.size A l) (ok : SchOk l ded cred lbp most least) (rok : RetOk per due day inc wh) (b0 : 0 ≤ bp) (b1 : bp ≤ 100000)
    (hv : v = intV day bp due (max (taxV l ded cred inc - wh) 0)) (hv1 : v ≤ 4611686018427387904) :
    Calls Try.prog 6 #[.pointer (some ⟨ga, 0, none⟩), .agg #[.slice A l.length c, .int .i64 ded, .int .i64 cred, .int .i64 lbp, .int .i64 most, .int .i64 least], .agg #[.int .i64 per, .int .i64 due, .int .i64 filed, .int .i64 inc, .int .i64 wh]] w (FileOk w ga lbp most least (taxV l ded cred inc) per due day inc wh bp v) := by
  have hmf : ∀ (fn : Fn) (first cap : Array Value) (w : World), (Instr.makeFunc fn first cap).run Try.prog w = .ok (.func fn first cap) w := fun _ _ _ _ => rfl
  have KB := Lib.hid (fun w h => bill_fun A c l ded cred lbp most least per due day inc wh w h ok rok)
  have HA := Lib.hid ha
  have HV := Lib.hid hv
  have HRD := Lib.hid h
  have hlt := ha.lt
  obtain ⟨a0, a1, a2, a3, a4, af⟩ := ha.cells
  obtain ⟨hb0, hs0, hr0, hm0⟩ := file_boxes w A l.length c ded cred lbp most least per due filed inc wh
  have a0' := (hb0.cell (p := ⟨ga, 0, none⟩) hlt).trans a0
  obtain ⟨hb0, hs0, hr0, hm0⟩ := file_boxes w A l.length c ded cred lbp most least per due day inc wh
  have HB0 := Lib.hid hb0; have HS0 := Lib.hid hs0; have HR0 := Lib.hid hr0; have HM0 := Lib.hid hm0
  clear af ha hv h a1 a2 a4 hb0 hs0 hr0 hm0
  go_enter Try.func6, Try.ntmps6
  go_wp2_with fail
  refine (KB.out _ ((HRD.out.below HB0.out (Nat.le_refl _)).more HB0.out.size)).mono ?_
  rintro e w1 ⟨⟨L, t0, t1, hL, L0, L1, rfl⟩, hb1⟩
  have HL := Lib.hid hL
  obtain ⟨T, hT⟩ : ∃ T, T = taxV l ded cred inc := ⟨_, rfl⟩
  rw [← hT] at t0 t1 HV ⊢
  obtain ⟨P, hP⟩ : ∃ P, P = max (T - wh) 0 := ⟨_, rfl⟩
  obtain ⟨X, hX⟩ : ∃ X, X = max (wh - T) 0 := ⟨_, rfl⟩
  rw [← hP] at HV
  rw [← hP, ← hX]
  obtain ⟨N, hN⟩ : ∃ N, N = penV lbp most least P L := ⟨_, rfl⟩
  rw [← hN]
  have HFIN : Hid (∀ e w', e = .returned (.tuple #[.agg #[.int .i64 N, .int .i64 v, .int .i64 P, .int .i64 0, .int .i64 X, .int .i64 0], .int .i64 0]) → StepR w.heap.size day bp X ⟨per, due, day, inc, wh, N, v, P, due, 0, v⟩ w' ga → But [ga] w w' → FileOk w ga lbp most least (taxV l ded cred inc) per due day inc wh bp v e w') := Lib.hid (fun e w' h1 h2 h3 => ⟨L, HL.out, by rw [← hT, h1, hN, hP, hX], by rw [← hT, ← hP, ← hX, ← hN]; exact h2, h3⟩)
  have hwh := rok.wh
  have x0 : 0 ≤ X := by omega
  have x1 : X ≤ 4611686018427387904 := by have := hwh.2; omega
  have p0 : 0 ≤ P := by omega
  have p1 : P ≤ 4611686018427387904 := by have := hwh.1; omega
  have d0 := rok.filed0
  have d1 := rok.filed1
  have s0 := rok.due0
  have HB1 := Lib.hid (HB0.out.trans (hb1.mono HB0.out.size))
  have HR1 := Lib.hid (HR0.out.on hb1)
  have HM1 := Lib.hid (HM0.out.keep (hb1.block _ HM0.out.lt))
  have hal : Below w1.heap.size w1 (w1.alloc (.cells #[.int .i64 T, .int .i64 P, .int .i64 N, .int .i64 X] 33)) := (Below.refl _ _).alloc (Nat.le_refl _) _
  have HB2 := Lib.hid (HB1.out.trans (hal.mono HB1.out.size))
  have HR2 := Lib.hid (HR1.out.on hal)
  have HM2 := Lib.hid (HM1.out.keep (hal.block _ HM1.out.lt))
  have HA2 := Lib.hid (HA.out.keep (HB2.out.block _ hlt))
  have HZ2 : Hid (ZBox (w1.alloc (.cells #[.int .i64 T, .int .i64 P, .int .i64 N, .int .i64 X] 33)) w1.heap.size T P N X) := Lib.hid (heap_alloc_new w1 _)
  obtain ⟨W2, hW2⟩ : ∃ W2, w1.alloc (.cells #[.int .i64 T, .int .i64 P, .int .i64 N, .int .i64 X] 33) = W2 := ⟨_, rfl⟩
  rw [hW2] at HB2 HR2 HM2 HA2 HZ2
  have HW2 := Lib.hid hW2
  have q0 := cell_of_row W2 (w.heap.size + 1) 0 _ _ (0, 0) HR2.out
  simp at q0
  rw [← hW2] at q0
  have hl1 := heap_lt HR1.out
  clear hW2 hal hb1 hL hT hP hX hN hwh a0 a3 a0' KB HRD HB0 HS0 HR0 HM0 HB1 HR1 HM1 rok ok
  go_wp2_with fail
  rw [HW2.out]
  refine (find_none ga day bp 0 per W2 HA2.out).mono ?_
  rintro e w3 ⟨rfl, hb3⟩
  have HB3 := Lib.hid (HB2.out.trans (hb3.mono HB2.out.size))
  have HR3 := Lib.hid (HR2.out.on hb3)
  have HM3 := Lib.hid (HM2.out.keep (hb3.block _ HM2.out.lt))
  have HA3 := Lib.hid (HA2.out.on hb3)
  have HZ3 := Lib.hid (HZ2.out.on hb3)
  have c3 := HA3.out.cells.2.2.2.1
  have KD := Lib.hid (does_file_ok ga (w.heap.size + 1) w1.heap.size day bp per due day inc wh T P N X v w3 ⟨HA3.out, HR3.out, HZ3.out, b0, b1, d0, d1, s0, p0, p1, x0, x1⟩ HV.out hv1)
  clear hb3 q0 hl1 HW2
  go_wp2_with fail
  refine KD.out.mono ?_
  rintro e w4 ⟨rfl, hR, hbt⟩
  have HSR := Lib.hid hR
  have HBT := Lib.hid hbt
  have HM4 := Lib.hid (HM3.out.keep (hbt.block _ HM3.out.lt (by simp; omega)))
  obtain ⟨n0, n1, n2, n3, n4, n5, nf⟩ := HM4.out.cells
  have nf0 := nf 0; have nf1 := nf 1; have nf2 := nf 2; have nf3 := nf 3; have nf4 := nf 4; have nf5 := nf 5
  clear nf hR hbt KD c3
  go_wp2_with fail
  refine bodyPost_ret (results_c2 rfl _ _ (w.heap.size + 1 + 1) 38 #[.int .i64 N, .int .i64 v, .int .i64 P, .int .i64 0, .int .i64 X, .int .i64 0] (0, 0) _ rfl ?hg Try.underlying38 rfl move_size) rfl ?_
  case hg => exact heap_set6 HM4.out
  refine HFIN.out _ _ rfl ?_ ?_
  · exact stepR_move HSR.out HB3.out.size (Nat.ne_of_lt (by omega)) HM3.out.lt
  · exact but_move HB3.out HBT.out (by omega)
theorem below_move {w X : World} {B gm : Nat} (h0 : Below B w X) (h2 : B ≤ gm) {a b c d e f : Int} :
    Below B w ((((((X.setCell ⟨gm, 0, none⟩ (.int .i64 a)).setCell ⟨gm, 1, none⟩ (.int .i64 b)).setCell ⟨gm, 2, none⟩ (.int .i64 c)).setCell ⟨gm, 3, none⟩ (.int .i64 d)).setCell ⟨gm, 4, none⟩ (.int .i64 e)).setCell ⟨gm, 5, none⟩ (.int .i64 f)) :=
  (((((h0.setCell (p := ⟨gm, 0, none⟩) h2 _).setCell (p := ⟨gm, 1, none⟩) h2 _).setCell (p := ⟨gm, 2, none⟩) h2 _).setCell (p := ⟨gm, 3, none⟩) h2 _).setCell (p := ⟨gm, 4, none⟩) h2 _).setCell (p := ⟨gm, 5, none⟩) h2 _
set_option maxHeartbeats 2000000 in
set_option maxRecDepth 100000 in
theorem file_over (ga : Nat) (A : Option Addr) (c : Nat) (l : List Br) (ded cred lbp most least per due filed inc wh day bp : Int) (w : World) (ha : AB w ga day bp 0 none 0 0) (h : RdS w w.heap.size A l) (ok : SchOk l ded cred lbp most least) (rok : RetOk per due day inc wh) (b0 : 0 ≤ bp) (b1 : bp ≤ 100000)
    (hv1 : 4611686018427387904 < intV day bp due (max (taxV l ded cred inc - wh) 0)) :
    Calls Try.prog 6 #[.pointer (some ⟨ga, 0, none⟩), .agg #[.slice A l.length c, .int .i64 ded, .int .i64 cred, .int .i64 lbp, .int .i64 most, .int .i64 least], .agg #[.int .i64 per, .int .i64 due, .int .i64 filed, .int .i64 inc, .int .i64 wh]] w (DoesOver w) := by
  have hmf : ∀ (fn : Fn) (first cap : Array Value) (w : World), (Instr.makeFunc fn first cap).run Try.prog w = .ok (.func fn first cap) w := fun _ _ _ _ => rfl
  have KB := Lib.hid (fun w h => bill_fun A c l ded cred lbp most least per due day inc wh w h ok rok)
  have HA := Lib.hid ha
  have HV := Lib.hid hv1
  have HRD := Lib.hid h
  have hlt := ha.lt
  obtain ⟨a0, a1, a2, a3, a4, af⟩ := ha.cells
  obtain ⟨hb0, hs0, hr0, hm0⟩ := file_boxes w A l.length c ded cred lbp most least per due filed inc wh
  have a0' := (hb0.cell (p := ⟨ga, 0, none⟩) hlt).trans a0
  obtain ⟨hb0, hs0, hr0, hm0⟩ := file_boxes w A l.length c ded cred lbp most least per due day inc wh
  have HB0 := Lib.hid hb0; have HS0 := Lib.hid hs0; have HR0 := Lib.hid hr0; have HM0 := Lib.hid hm0
  clear af ha hv1 h a1 a2 a4 hb0 hs0 hr0 hm0
  go_enter Try.func6, Try.ntmps6
  go_wp2_with fail
  refine (KB.out _ ((HRD.out.below HB0.out (Nat.le_refl _)).more HB0.out.size)).mono ?_
  rintro e w1 ⟨⟨L, t0, t1, hL, L0, L1, rfl⟩, hb1⟩
  obtain ⟨T, hT⟩ : ∃ T, T = taxV l ded cred inc := ⟨_, rfl⟩
  rw [← hT] at t0 t1 HV
  obtain ⟨P, hP⟩ : ∃ P, P = max (T - wh) 0 := ⟨_, rfl⟩
  obtain ⟨X, hX⟩ : ∃ X, X = max (wh - T) 0 := ⟨_, rfl⟩
  rw [← hP] at HV
  rw [← hT, ← hP, ← hX]
  obtain ⟨N, hN⟩ : ∃ N, N = penV lbp most least P L := ⟨_, rfl⟩
  rw [← hN]
  have hwh := rok.wh
  have x0 : 0 ≤ X := by omega
  have x1 : X ≤ 4611686018427387904 := by have := hwh.2; omega
  have p0 : 0 ≤ P := by omega
  have p1 : P ≤ 4611686018427387904 := by have := hwh.1; omega
  have d0 := rok.filed0
  have d1 := rok.filed1
  have s0 := rok.due0
  have HB1 := Lib.hid (HB0.out.trans (hb1.mono HB0.out.size))
  have HR1 := Lib.hid (HR0.out.on hb1)
  have HM1 := Lib.hid (HM0.out.keep (hb1.block _ HM0.out.lt))
  have hal : Below w1.heap.size w1 (w1.alloc (.cells #[.int .i64 T, .int .i64 P, .int .i64 N, .int .i64 X] 33)) := (Below.refl _ _).alloc (Nat.le_refl _) _
  have HB2 := Lib.hid (HB1.out.trans (hal.mono HB1.out.size))
  have HR2 := Lib.hid (HR1.out.on hal)
  have HM2 := Lib.hid (HM1.out.keep (hal.block _ HM1.out.lt))
  have HA2 := Lib.hid (HA.out.keep (HB2.out.block _ hlt))
  have HZ2 : Hid (ZBox (w1.alloc (.cells #[.int .i64 T, .int .i64 P, .int .i64 N, .int .i64 X] 33)) w1.heap.size T P N X) := Lib.hid (heap_alloc_new w1 _)
  obtain ⟨W2, hW2⟩ : ∃ W2, w1.alloc (.cells #[.int .i64 T, .int .i64 P, .int .i64 N, .int .i64 X] 33) = W2 := ⟨_, rfl⟩
  rw [hW2] at HB2 HR2 HM2 HA2 HZ2
  have HW2 := Lib.hid hW2
  have q0 := cell_of_row W2 (w.heap.size + 1) 0 _ _ (0, 0) HR2.out
  simp at q0
  rw [← hW2] at q0
  have hl1 := heap_lt HR1.out
  clear hW2 hal hb1 hL hT hP hX hN hwh a0 a3 a0' KB HRD HB0 HS0 HR0 HM0 HB1 HR1 HM1 rok ok
  go_wp2_with fail
  rw [HW2.out]
  refine (find_none ga day bp 0 per W2 HA2.out).mono ?_
  rintro e w3 ⟨rfl, hb3⟩
  have HB3 := Lib.hid (HB2.out.trans (hb3.mono HB2.out.size))
  have HR3 := Lib.hid (HR2.out.on hb3)
  have HM3 := Lib.hid (HM2.out.keep (hb3.block _ HM2.out.lt))
  have HA3 := Lib.hid (HA2.out.on hb3)
  have HZ3 := Lib.hid (HZ2.out.on hb3)
  have c3 := HA3.out.cells.2.2.2.1
  have KD := Lib.hid (does_file_over ga (w.heap.size + 1) w1.heap.size day bp per due day inc wh T P N X w3 ⟨HA3.out, HR3.out, HZ3.out, b0, b1, d0, d1, s0, p0, p1, x0, x1⟩ HV.out)
  clear hb3 q0 hl1 HW2
  go_wp2_with fail
  refine KD.out.mono ?_
  rintro e w4 ⟨rfl, hb4⟩
  have HM4 := Lib.hid (HM3.out.keep (hb4.block _ HM3.out.lt))
  have HB4 := Lib.hid (HB3.out.trans (hb4.mono HB3.out.size))
  obtain ⟨n0, n1, n2, n3, n4, n5, nf⟩ := HM4.out.cells
  have nf0 := nf 0; have nf1 := nf 1; have nf2 := nf 2; have nf3 := nf 3; have nf4 := nf 4; have nf5 := nf 5
  clear nf hb4 KD c3
  go_wp2_with fail
  refine bodyPost_ret (results_c2 rfl _ _ (w.heap.size + 1 + 1) 38 #[.int .i64 0, .int .i64 0, .int .i64 0, .int .i64 0, .int .i64 0, .int .i64 0] (0, 0) _ rfl ?hg Try.underlying38 rfl move_size) rfl ?_
  case hg => exact heap_set6 HM4.out
  exact ⟨rfl, below_move HB4.out (by omega)⟩
theorem within_at (n lo hi : Int) (h0 : lo ≤ n) (h1 : n ≤ hi) (w : World) : Calls Try.prog 10 #[.int .i64 n, .int .i64 lo, .int .i64 hi] w fun e w' => e = .returned (.bool true) ∧ w' = w :=
  (within_b n lo hi true (by simp [h0, h1]) w).mono fun _ _ ⟨h, h'⟩ => ⟨h, h'.symm⟩
theorem adv_boxes (w : World) (days : Int) : Below w.heap.size w ((w.alloc (.cells #[.int .i64 days] 3)).alloc (.cells #[.int .i64 0, .int .i64 0, .int .i64 0, .int .i64 0, .int .i64 0, .int .i64 0] 38)) ∧
    NB ((w.alloc (.cells #[.int .i64 days] 3)).alloc (.cells #[.int .i64 0, .int .i64 0, .int .i64 0, .int .i64 0, .int .i64 0, .int .i64 0] 38)) w.heap.size days ∧
    MB ((w.alloc (.cells #[.int .i64 days] 3)).alloc (.cells #[.int .i64 0, .int .i64 0, .int .i64 0, .int .i64 0, .int .i64 0, .int .i64 0] 38)) (w.heap.size + 1) 0 0 0 0 0 0 := by
  refine ⟨((Below.refl _ _).alloc (Nat.le_refl _) _).alloc (by simp) _, ?_, ?_⟩
  · unfold NB; rw [Below.heap_alloc _ _ _ (by simp)]; exact heap_alloc_new w _
  · unfold MB
    have := heap_alloc_new (w.alloc (.cells #[.int .i64 days] 3)) (.cells #[.int .i64 0, .int .i64 0, .int .i64 0, .int .i64 0, .int .i64 0, .int .i64 0] 38)
    simpa using this
/-- What an account is asked for ahead of Advance. -/
structure AdvPre (w : World) (ga gp : Nat) (day bp cr : Int) (c : Nat) (p : Per) (days : Int) : Prop where
  ab : AB w ga day bp cr (some ⟨gp, 0, none⟩) 1 c
  pb : PB w gp p
  b0 : 0 ≤ bp
  b1 : bp ≤ 100000
  d0 : 0 ≤ day
  y0 : 0 ≤ days
  y1 : days ≤ 36500
  d1 : day + days ≤ 3652058
  s0 : 0 ≤ p.since
  p0 : 0 ≤ p.o2
  p1 : p.o2 ≤ 4611686018427387904
  dn : p.done = 0
  a0 : 0 ≤ p.acc
  a1 : p.acc ≤ 4611686018427387904
  o1 : p.o1 = p.acc
def AdvOk (w : World) (ga : Nat) (m : Int) (e : Ending) (w' : World) : Prop := e = .returned (.tuple #[.agg #[.int .i64 0, .int .i64 m, .int .i64 0, .int .i64 0, .int .i64 0, .int .i64 0], .int .i64 0]) ∧ But [ga] w w'
set_option maxHeartbeats 2000000 in
set_option maxRecDepth 100000 in
theorem adv_ok (ga gp : Nat) (day bp cr : Int) (c : Nat) (p : Per) (days v : Int) (w : World) (h : AdvPre w ga gp day bp cr c p days) (hv : v = intV (day + days) bp p.since p.o2) (hv1 : v ≤ 4611686018427387904) :
    Calls Try.prog 8 #[.pointer (some ⟨ga, 0, none⟩), .int .i64 days] w (AdvOk w ga (v - p.acc)) := by
  obtain ⟨ab, pb, b0, b1, d0, y0, y1, d1, s0, p0, p1, dn, a0, a1, o1⟩ := h
  obtain ⟨hb0, hn0, hm0⟩ := adv_boxes w days
  have HB0 := Lib.hid hb0; have HM0 := Lib.hid hm0
  obtain ⟨W0, hW0⟩ : ∃ W0, (w.alloc (.cells #[.int .i64 days] 3)).alloc (.cells #[.int .i64 0, .int .i64 0, .int .i64 0, .int .i64 0, .int .i64 0, .int .i64 0] 38) = W0 := ⟨_, rfl⟩
  rw [hW0] at hb0 hn0 HB0 HM0
  have HA0 := Lib.hid (ab.on hb0)
  have KD : Hid (∀ X, Below W0.heap.size W0 X → Calls Try.prog 16 #[.pointer (some ⟨ga, 0, none⟩), .func (.func 23) #[] #[.pointer (some ⟨w.heap.size, 0, none⟩)]] X (DoesOk ga 0 (v - p.acc) 0 0 0 0 (day + days) bp cr { p with o1 := v, acc := v } X)) :=
    Lib.hid (fun X hX => does_adv_ok ga gp w.heap.size day bp cr c p days v X ⟨(ab.on hb0).on hX, (pb.on hb0).on hX, (hX.block _ (heap_lt hn0)).trans hn0, b0, b1, d0, y0, d1, s0, p0, p1, dn, a0, a1, o1⟩ hv hv1)
  obtain ⟨m, hm⟩ : ∃ m, m = v - p.acc := ⟨_, rfl⟩
  rw [← hm] at KD ⊢
  have hne : ga ≠ w.heap.size + 1 := by have := ab.lt; omega
  have KW := Lib.hid (within_at days 0 36500 y0 y1)
  have n0 := cell_of_row W0 w.heap.size 0 _ _ (0, 0) hn0
  simp at n0
  have g0 := HA0.out.cells.1
  have HW0 := Lib.hid hW0
  have hgt : decide (3652058 < day + days) = false := decide_eq_false (by omega)
  have hsum : IntKind.i64.wrap (day + days) = day + days := IntWalk.i64_in _ (by omega)
  clear hv hm dn a0 a1 o1 s0 p0 p1 hb0 hn0 hm0 ab pb hW0
  go_enter Try.func8, Try.ntmps8
  go_wp2_with fail
  rw [HW0.out]
  go_quiet ((go_at_call 10; exact Calls.quiet_of_same (KW.out _)))
  rename_i nq
  have HQ := Lib.hid (below_dr (k := nq) (Below.refl W0.heap.size W0))
  go_wp2_with fail
  refine (KD.out _ HQ.out).mono ?_
  rintro e w4 ⟨rfl, hR, hbt⟩
  have HBT := Lib.hid hbt
  have HM4 := Lib.hid (HM0.out.keep ((hbt.block _ (by simpa using HM0.out.lt) (by simp; omega)).trans (HQ.out.block _ HM0.out.lt)))
  obtain ⟨n0, n1, n2, n3, n4, n5, nf⟩ := HM4.out.cells
  have nf0 := nf 0; have nf1 := nf 1; have nf2 := nf 2; have nf3 := nf 3; have nf4 := nf 4; have nf5 := nf 5
  clear nf hR hbt KD
  go_wp2_with fail
  refine bodyPost_ret (results_c2 rfl _ _ (w.heap.size + 1) 38 #[.int .i64 0, .int .i64 m, .int .i64 0, .int .i64 0, .int .i64 0, .int .i64 0] (0, 0) _ rfl ?hg Try.underlying38 rfl move_size) rfl ?_
  case hg => exact heap_set6 HM4.out
  exact ⟨rfl, but_move (HB0.out.trans (HQ.out.mono HB0.out.size)) HBT.out (by omega)⟩
set_option maxHeartbeats 2000000 in
set_option maxRecDepth 100000 in
theorem adv_over (ga gp : Nat) (day bp cr : Int) (c : Nat) (p : Per) (days : Int) (w : World) (h : AdvPre w ga gp day bp cr c p days) (hv1 : 4611686018427387904 < intV (day + days) bp p.since p.o2) :
    Calls Try.prog 8 #[.pointer (some ⟨ga, 0, none⟩), .int .i64 days] w (DoesOver w) := by
  obtain ⟨ab, pb, b0, b1, d0, y0, y1, d1, s0, p0, p1, dn, a0, a1, o1⟩ := h
  obtain ⟨hb0, hn0, hm0⟩ := adv_boxes w days
  have HB0 := Lib.hid hb0; have HM0 := Lib.hid hm0
  obtain ⟨W0, hW0⟩ : ∃ W0, (w.alloc (.cells #[.int .i64 days] 3)).alloc (.cells #[.int .i64 0, .int .i64 0, .int .i64 0, .int .i64 0, .int .i64 0, .int .i64 0] 38) = W0 := ⟨_, rfl⟩
  rw [hW0] at hb0 hn0 HB0 HM0
  have HA0 := Lib.hid (ab.on hb0)
  have KD : Hid (∀ X, Below W0.heap.size W0 X → Calls Try.prog 16 #[.pointer (some ⟨ga, 0, none⟩), .func (.func 23) #[] #[.pointer (some ⟨w.heap.size, 0, none⟩)]] X (DoesOver X)) :=
    Lib.hid (fun X hX => does_adv_over ga gp w.heap.size day bp cr c p days X ⟨(ab.on hb0).on hX, (pb.on hb0).on hX, (hX.block _ (heap_lt hn0)).trans hn0, b0, b1, d0, y0, d1, s0, p0, p1, dn, a0, a1, o1⟩ hv1)
  have hne : ga ≠ w.heap.size + 1 := by have := ab.lt; omega
  have KW := Lib.hid (within_at days 0 36500 y0 y1)
  have n0 := cell_of_row W0 w.heap.size 0 _ _ (0, 0) hn0
  simp at n0
  have g0 := HA0.out.cells.1
  have HW0 := Lib.hid hW0
  have hgt : decide (3652058 < day + days) = false := decide_eq_false (by omega)
  have hsum : IntKind.i64.wrap (day + days) = day + days := IntWalk.i64_in _ (by omega)
  clear hv1 dn a0 a1 o1 s0 p0 p1 hb0 hn0 hm0 ab pb hW0
  go_enter Try.func8, Try.ntmps8
  go_wp2_with fail
  rw [HW0.out]
  go_quiet ((go_at_call 10; exact Calls.quiet_of_same (KW.out _)))
  rename_i nq
  have HQ := Lib.hid (below_dr (k := nq) (Below.refl W0.heap.size W0))
  go_wp2_with fail
  refine (KD.out _ HQ.out).mono ?_
  rintro e w4 ⟨rfl, hb4⟩
  have HB4 := Lib.hid (HB0.out.trans ((HQ.out.trans (hb4.mono (by simp))).mono HB0.out.size))
  have HM4 := Lib.hid (HM0.out.keep ((hb4.block _ (by simpa using HM0.out.lt)).trans (HQ.out.block _ HM0.out.lt)))
  obtain ⟨n0, n1, n2, n3, n4, n5, nf⟩ := HM4.out.cells
  have nf0 := nf 0; have nf1 := nf 1; have nf2 := nf 2; have nf3 := nf 3; have nf4 := nf 4; have nf5 := nf 5
  clear nf hb4 KD
  go_wp2_with fail
  refine bodyPost_ret (results_c2 rfl _ _ (w.heap.size + 1) 38 #[.int .i64 0, .int .i64 0, .int .i64 0, .int .i64 0, .int .i64 0, .int .i64 0] (0, 0) _ rfl ?hg Try.underlying38 rfl move_size) rfl ?_
  case hg => exact heap_set6 HM4.out
  exact ⟨rfl, below_move HB4.out (by omega)⟩
end Go.Proofs.Ytkgoaodpjeonnaa
