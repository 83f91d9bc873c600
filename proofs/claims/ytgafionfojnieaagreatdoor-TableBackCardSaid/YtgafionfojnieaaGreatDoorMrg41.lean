/- Parts of the proof, one behind the other: The contract of table.record (written by a program). -/
import Derived.Test.YtgafionfojnieaaGreatDoorMrg40
namespace Go.Proofs.YtgafionfojnieaaGreatDoor
open Go.RowKit
open Lib (hid)
set_option maxHeartbeats 4000000 in
set_option maxRecDepth 100000 in
theorem record_any (p : Pv) (w : World) (base : Nat) (hbase : base ≤ w.heap.size) (hk : HBs w base p.kA p.k) (hkc : p.k.length ≤ p.kc) (hkm : p.kc ≤ 9223372036854775807) (hv : HBs w base p.vA p.v) (hvc : p.v.length ≤ p.vc) (hvm : p.vc ≤ 9223372036854775807) (hkl : p.k.length ≤ 70000) (hvl : p.v.length ≤ 70000) :
   Calls Tryz.prog 26 #[.agg #[.slice p.kA p.k.length p.kc, .slice p.vA p.v.length p.vc]] w (RecP w base p) := by
 obtain ⟨W2, hW2⟩ : ∃ W2, W2 = (w.alloc (.cells #[.slice p.kA p.k.length p.kc, .slice p.vA p.v.length p.vc] 77)).alloc (.cells #[.slice none 0 0, .int .i64 0, .bool false, .slice none 0 0] 35) := ⟨_, rfl⟩
 have hb2 : Below w.heap.size w W2 := by rw [hW2]; exact below_al2 _ _ _
 have hz2 : W2.heap.size = w.heap.size + 2 := by rw [hW2]; simp
 have y0 : W2.heap[w.heap.size]? = some (.cells #[.slice p.kA p.k.length p.kc, .slice p.vA p.v.length p.vc] 77) := by
   rw [hW2, heap_alloc_old _ _ (by simp)]; exact heap_alloc_new w _
 have y1 : W2.heap[w.heap.size + 1]? = some (.cells #[.slice none 0 0, .int .i64 0, .bool false, .slice none 0 0] 35) := by
   rw [hW2]
   have := heap_alloc_new (w.alloc (.cells #[.slice p.kA p.k.length p.kc, .slice p.vA p.v.length p.vc] 77)) (.cells #[.slice none 0 0, .int .i64 0, .bool false, .slice none 0 0] 35)
   simpa using this
 have KP := hid (parts_any p.kA p.kc p.k W2 (hk.below hb2).rd (by omega) hkc hkm)
 have HV := hid (hv.below hb2)
 have HVW := hid hv
 have HY0 := hid y0
 have HY1 := hid y1
 have HB2 := hid hb2
 have HZ2 := hid hz2
 have HHB := hid hbase
 have hbc0 := cell_of_row W2 w.heap.size 0 _ _ (0, 0) y0
 simp only [List.getElem?_toArray, List.getElem?_cons_zero] at hbc0
 have HW2 := hid hW2
 rw [hW2] at hbc0
 obtain ⟨kA, kc, k, vA, vc, v⟩ := p
 simp only at KP HV hkc hkm hvc hvm hkl hvl hbc0 HY0 HW2 ⊢
 clear hk hv hb2 hz2 y0 y1 hW2 hbase
 go_enter Tryz.func26, Tryz.ntmps26
 go_wp2_with fail
 rw [← HW2.out]
 refine KP.out.mono ?_
 intro e w1 hpp
 obtain ⟨hb1, hpp⟩ := hpp
 have HB1 := hid (HB2.out.trans (hb1.mono HB2.out.size))
 have hcw := (hb1.block (w.heap.size + 1) (by have := HZ2.out; omega)).trans HY1.out
 have hpx := (hb1.block w.heap.size (by have := HZ2.out; omega)).trans HY0.out
 have HCW := hid hcw
 have HV1 := hid (HV.out.below hb1)
 have q0 := cell_of_row w1 (w.heap.size + 1) 0 _ _ (0, 0) hcw
 have q1 := cell_of_row w1 (w.heap.size + 1) 1 _ _ (0, 0) hcw
 have q2 := cell_of_row w1 (w.heap.size + 1) 2 _ _ (0, 0) hcw
 have q3 := cell_of_row w1 (w.heap.size + 1) 3 _ _ (0, 0) hcw
 have f0 := frozen_of_row w1 (w.heap.size + 1) 0 _ _ hcw
 have f1 := frozen_of_row w1 (w.heap.size + 1) 1 _ _ hcw
 have f2 := frozen_of_row w1 (w.heap.size + 1) 2 _ _ hcw
 have f3 := frozen_of_row w1 (w.heap.size + 1) 3 _ _ hcw
 have r1 := cell_of_row w1 w.heap.size 1 _ _ (0, 0) hpx
 simp only [List.getElem?_toArray, List.getElem?_cons_zero, List.getElem?_cons_succ] at q0 q1 q2 q3 r1
 have HPX := hid hpx
 clear hcw hpx hb1 KP hbc0
 have tr : True := trivial
 rcases hpp with ⟨l, hall, hkey, LA, LC, rfl, hrp⟩ | ⟨hno, rfl⟩
 · have HKEY := hid hkey
   have HALL := hid hall
   by_cases h2 : l.length = 2
   · obtain ⟨p0, p1, rfl⟩ : ∃ p0 p1, l = [p0, p1] := by
       match l, h2 with
       | [a, b], _ => exact ⟨a, b, rfl⟩
     obtain ⟨b, off, rfl, hbl, c00, c01, c02⟩ := hrp.at_ (k := 0) (by simp)
     obtain ⟨b', off', e', _, c10, c11, c12⟩ := hrp.at_ (k := 1) (by simp)
     injection e' with e'; injection e' with e1 e2; subst e1 e2
     have hrd2 : True := trivial
     cases hrd2 with
     | intro =>
       have d00 : w1.cell? ⟨b, off, none⟩ = some (.bool p0.t) := by simpa using c00
       have d02 : w1.cell? ⟨b, off + 2, none⟩ = some (.string p0.s) := by simpa using c02
       have d10 : w1.cell? ⟨b, off + 3, none⟩ = some (.bool p1.t) := by simpa using c10
       have d11 : w1.cell? ⟨b, off + 3 + 1, none⟩ = some (.int .u64 (p1.n : Int)) := by simpa using c11
       clear c00 c01 c02 c10 c11 c12
       obtain ⟨t0, n0, s0⟩ := p0
       obtain ⟨t1, n1, s1⟩ := p1
       simp only at d00 d02 d10 d11
       clear hall hkey hrp
       rcases t0 with _ | _
       · have HNO : Hid (RecOf ⟨k, v⟩ none) := hid (recOf_no HALL.out HKEY.out (fun k n v d e _ _ => by injection e with e1 _; injection e1 with e1; cases e1))
         clear tr
         go_wp2_with fail
         refine bodyPost_ret (results_cb2 rfl _ _ (w.heap.size + 1) 35 #[.slice none 0 0, .int .i64 0, .bool false, .slice none 0 0] _ _ rfl (heap_set4 HCW.out) Tryz.underlying35 rfl rec_size) rfl ?_
         exact recP_no ((((HB1.out.setCell (by simp) _).setCell (by simp) _).setCell (by simp) _).setCell (by simp) _) HNO.out
       rcases t1 with _ | _
       case' true =>
         have HNO : Hid (RecOf ⟨k, v⟩ none) := hid (recOf_no HALL.out HKEY.out (fun k n v d e _ _ => by injection e with _ e1; injection e1 with e1 _; injection e1 with e1; cases e1))
         clear tr
         go_wp2_with fail
         refine bodyPost_ret (results_cb2 rfl _ _ (w.heap.size + 1) 35 #[.slice none 0 0, .int .i64 0, .bool false, .slice none 0 0] _ _ rfl (heap_set4 HCW.out) Tryz.underlying35 rfl rec_size) rfl ?_
         exact recP_no ((((HB1.out.setCell (by simp) _).setCell (by simp) _).setCell (by simp) _).setCell (by simp) _) HNO.out
       by_cases hn1 : (1099511627776 : Int) ≤ (n1 : Int)
       · have HNO : Hid (RecOf ⟨k, v⟩ none) := hid (recOf_no HALL.out HKEY.out (fun k n v d e hn _ => by injection e with _ e1; injection e1 with e1 _; injection e1 with _ e2 _; omega))
         clear tr
         go_wp2_with fail
         refine bodyPost_ret (results_cb2 rfl _ _ (w.heap.size + 1) 35 #[.slice none 0 0, .int .i64 0, .bool false, .slice none 0 0] _ _ rfl (heap_set4 HCW.out) Tryz.underlying35 rfl rec_size) rfl ?_
         exact recP_no ((((HB1.out.setCell (by simp) _).setCell (by simp) _).setCell (by simp) _).setCell (by simp) _) HNO.out
       rcases v with _ | ⟨hd, v⟩
       · have HNO : Hid (RecOf ⟨k, []⟩ none) := hid (recOf_no HALL.out HKEY.out (fun k n v d _ _ e => by cases e))
         clear tr
         go_wp2_with fail
         refine bodyPost_ret (results_cb2 rfl _ _ (w.heap.size + 1) 35 #[.slice none 0 0, .int .i64 0, .bool false, .slice none 0 0] _ _ rfl (heap_set4 HCW.out) Tryz.underlying35 rfl rec_size) rfl ?_
         exact recP_no ((((HB1.out.setCell (by simp) _).setCell (by simp) _).setCell (by simp) _).setCell (by simp) _) HNO.out
       obtain ⟨vg, voff, rfl, hvg, vcell⟩ := HV1.out.rd.at_ (k := 0) (by simp)
       simp only [List.getElem_cons_zero, Nat.add_zero] at vcell
       obtain ⟨x, hx⟩ : ∃ x, x = hd.toNat := ⟨_, rfl⟩
       rw [← hx] at vcell
       have HX := hid hx
       clear hx
       have hln : (hd :: v).length = v.length + 1 := rfl
       have HVL := hid hln
       obtain ⟨nv, hnv⟩ : ∃ nv, nv = v.length := ⟨_, rfl⟩
       rw [hln, ← hnv] at r1 hvc hvl
       have HNV := hid hnv
       have i0 : (0 : Int) < (nv : Int) + 1 := by omega
       have i1 : ((nv : Int) + 1 == 0) = false := by simp; omega
       clear hln hnv
       by_cases hx1 : (1 : Int) < (x : Int)
       · have HNO : Hid (RecOf ⟨k, hd :: v⟩ none) := hid (recOf_no HALL.out HKEY.out (fun k n v d _ _ e => by
             injection e with e1 _
             have h1 := HX.out
             rw [e1] at h1
             cases d <;> simp at h1 <;> omega))
         clear tr
         go_wp2_with fail
         refine bodyPost_ret (results_cb2 rfl _ _ (w.heap.size + 1) 35 #[.slice none 0 0, .int .i64 0, .bool false, .slice none 0 0] _ _ rfl (heap_set4 HCW.out) Tryz.underlying35 rfl rec_size) rfl ?_
         exact recP_no ((((HB1.out.setCell (by simp) _).setCell (by simp) _).setCell (by simp) _).setCell (by simp) _) HNO.out
       have hrun := run_bytes_of_string (P := Tryz.prog) w1.drew 9 22 5 s0 Tryz.underlying9 bt.sl bt.el
       obtain ⟨cap, hcap⟩ : ∃ cap, cap = grownCap w1.drew s0.size 0 5 := ⟨_, rfl⟩
       have hcap1 : s0.size ≤ cap := by rw [hcap]; exact grownCap_ge w1.drew s0.size 0 5
       have hs0 : s0.data.toList.length ≤ 70000 := by
         have h1 := key_text_len (p0 := ⟨true, n0, s0⟩) (l := [⟨false, n1, s1⟩]) rfl
         rw [HKEY.out] at h1
         exact Nat.le_trans h1 hkl
       have hs0' : s0.size = s0.data.toList.length := by simp
       rw [← hcap] at hrun
       obtain ⟨X9, hX9⟩ : ∃ X9, X9 = w1.drew.drew.alloc (.cells (bytesRow s0 cap) 5 ((bytesRow s0 cap).size, (bytesRow s0 cap).size + 1)) := ⟨_, rfl⟩
       rw [← hX9] at hrun
       have hb9 : Below w1.heap.size w1 X9 := by rw [hX9]; exact ((Below.refl _ _).drew.drew).alloc (Nat.le_refl _) _
       have hr9 : RdB X9 (w1.heap.size + 1) (some ⟨w1.heap.size, 0, none⟩) s0.data.toList := by rw [hX9]; exact rdB_bytesRow w1.drew s0 cap _ _
       have ht9 : X9.heap[w1.heap.size]? = some (.cells (bytesRow s0 cap) 5 ((bytesRow s0 cap).size, (bytesRow s0 cap).size + 1)) := by rw [hX9]; exact heap_alloc_new w1.drew.drew _
       have hz9 : X9.heap.size = w1.heap.size + 1 := by rw [hX9]; simp
       have HB9 := hid hb9
       have hhw : w.heap.size + 1 < w1.heap.size := (Array.getElem?_eq_some_iff.1 HCW.out).1
       have hcw9 := (hb9.block _ hhw).trans HCW.out
       have HCW9 := hid hcw9
       have q0 := cell_of_row X9 (w.heap.size + 1) 0 _ _ (0, 0) hcw9
       have q1 := cell_of_row X9 (w.heap.size + 1) 1 _ _ (0, 0) hcw9
       have q2 := cell_of_row X9 (w.heap.size + 1) 2 _ _ (0, 0) hcw9
       have q3 := cell_of_row X9 (w.heap.size + 1) 3 _ _ (0, 0) hcw9
       have f0 := frozen_of_row X9 (w.heap.size + 1) 0 _ _ hcw9
       have f1 := frozen_of_row X9 (w.heap.size + 1) 1 _ _ hcw9
       have f2 := frozen_of_row X9 (w.heap.size + 1) 2 _ _ hcw9
       have f3 := frozen_of_row X9 (w.heap.size + 1) 3 _ _ hcw9
       simp only [List.getElem?_toArray, List.getElem?_cons_zero, List.getElem?_cons_succ] at q0 q1 q2 q3
       have HKK : Hid (HBs X9 base (some ⟨w1.heap.size, 0, none⟩) s0.data.toList) := hid ⟨by rw [hz9]; exact hr9, fun _ g hg => by
         have : w1.heap.size = g := by simpa [blk] using hg
         exact .inr ⟨_, _, by rw [← this]; exact ht9⟩⟩
       have HV9 := hid (HV1.out.below hb9)
       have hbne : b ≠ w.heap.size + 1 := fun e => by
         subst e
         have h1 := d02
         have h2 : ∀ j, w1.cell? ⟨w.heap.size + 1, j, none⟩ ≠ some (.string s0) := fun j => by
           rw [cell_of_row w1 (w.heap.size + 1) j _ _ (0, 0) HCW.out]
           match j with
           | 0 => simp
           | 1 => simp
           | 2 => simp
           | 3 => simp
           | j + 4 => simp
         exact h2 _ h1
       have hvne : vg ≠ w.heap.size + 1 := fun e => by
         subst e
         have h1 := vcell
         have h2 : ∀ j, w1.cell? ⟨w.heap.size + 1, j, none⟩ ≠ some (.int .u8 (x : Int)) := fun j => by
           rw [cell_of_row w1 (w.heap.size + 1) j _ _ (0, 0) HCW.out]
           match j with
           | 0 => simp
           | 1 => simp
           | 2 => simp
           | 3 => simp
           | j + 4 => simp
         exact h2 _ h1
       have SX : ∀ X, Below w1.heap.size w1 X → X.cell? ⟨b, off + 2, none⟩ = some (.string s0) ∧ X.cell? ⟨b, off + 3 + 1, none⟩ = some (.int .u64 (n1 : Int)) ∧ X.cell? ⟨w.heap.size, 1, none⟩ = some (.slice (some ⟨vg, voff, none⟩) (nv + 1) vc) ∧ X.cell? ⟨vg, voff, none⟩ = some (.int .u8 (x : Int)) := fun X hb =>
         ⟨(hb.cell (p := ⟨b, off + 2, none⟩) hbl).trans d02, (hb.cell (p := ⟨b, off + 3 + 1, none⟩) hbl).trans d11, (hb.cell (p := ⟨w.heap.size, 1, none⟩) (by simp; omega)).trans r1, (hb.cell (p := ⟨vg, voff, none⟩) hvg).trans vcell⟩
       have HS1 := hid (SX w1.drew (Below.refl _ _).drew)
       have HS9 := hid (SX X9 hb9)
       have HSS : Hid (∀ a0 a1 a2 a3, ((((X9.setCell ⟨w.heap.size + 1, 0, none⟩ a0).setCell ⟨w.heap.size + 1, 1, none⟩ a1).setCell ⟨w.heap.size + 1, 2, none⟩ a2).setCell ⟨w.heap.size + 1, 3, none⟩ a3).cell? ⟨b, off + 2, none⟩ = some (.string s0) ∧ ((((X9.setCell ⟨w.heap.size + 1, 0, none⟩ a0).setCell ⟨w.heap.size + 1, 1, none⟩ a1).setCell ⟨w.heap.size + 1, 2, none⟩ a2).setCell ⟨w.heap.size + 1, 3, none⟩ a3).cell? ⟨b, off + 3 + 1, none⟩ = some (.int .u64 (n1 : Int)) ∧ ((((X9.setCell ⟨w.heap.size + 1, 0, none⟩ a0).setCell ⟨w.heap.size + 1, 1, none⟩ a1).setCell ⟨w.heap.size + 1, 2, none⟩ a2).setCell ⟨w.heap.size + 1, 3, none⟩ a3).cell? ⟨w.heap.size, 1, none⟩ = some (.slice (some ⟨vg, voff, none⟩) (nv + 1) vc) ∧ ((((X9.setCell ⟨w.heap.size + 1, 0, none⟩ a0).setCell ⟨w.heap.size + 1, 1, none⟩ a1).setCell ⟨w.heap.size + 1, 2, none⟩ a2).setCell ⟨w.heap.size + 1, 3, none⟩ a3).cell? ⟨vg, voff, none⟩ = some (.int .u8 (x : Int))) := hid (fun a0 a1 a2 a3 => by
         have hk : ∀ g o, g ≠ w.heap.size + 1 → ((((X9.setCell ⟨w.heap.size + 1, 0, none⟩ a0).setCell ⟨w.heap.size + 1, 1, none⟩ a1).setCell ⟨w.heap.size + 1, 2, none⟩ a2).setCell ⟨w.heap.size + 1, 3, none⟩ a3).cell? ⟨g, o, none⟩ = X9.cell? ⟨g, o, none⟩ := fun g o hg => World.cell?_of_block (by
           rw [heap_setD _ hg, heap_setD _ hg, heap_setD _ hg, heap_setD _ hg])
         obtain ⟨h1, h2, h3, h4⟩ := SX X9 hb9
         exact ⟨(hk _ _ hbne).trans h1, (hk _ _ hbne).trans h2, (hk _ _ (by omega)).trans h3, (hk _ _ hvne).trans h4⟩)
       have hnw : IntKind.i64.wrap (n1 : Int) = (n1 : Int) := by rw [IntKind.wrap_i64]; omega
       have hnw2 : IntKind.i64.wrap (1099511627776 - (n1 : Int)) = 1099511627776 - (n1 : Int) := by rw [IntKind.wrap_i64]; omega
       obtain ⟨dB, hdB⟩ : ∃ dB, dB = ((x : Int) == 1) := ⟨_, rfl⟩
       have HDB : Hid ((hd == 1) = dB) := hid (by
         rw [hdB, HX.out, Bool.eq_iff_iff, beq_iff_eq, beq_iff_eq, ← UInt8.toNat_inj]
         have : (1 : UInt8).toNat = 1 := rfl
         rw [this]; omega)
       have hdx : ((x : Int) == 1) = dB := hdB.symm
       have HRUN := hid hrun
       have HNW := hid hnw
       have HNW2 := hid hnw2
       have HDX := hid hdx
       have HCAP : Hid (s0.size ≤ cap) := hid hcap1
       have HS0 := hid hs0
       have HS0' := hid hs0'
       have j1 : (1 : Int) ≤ (nv : Int) + 1 := by omega
       have hx1' : decide ((1 : Int) < (x : Int)) = false := decide_eq_false hx1
       have hn1' : decide ((1099511627776 : Int) ≤ (n1 : Int)) = false := decide_eq_false hn1
       have hx2 : (x : Int) ≤ 1 := by omega
       have hn2 : (n1 : Int) < 1099511627776 := by omega
       clear hx1 hn1
       have j2 : (nv : Int) + 1 ≤ (vc : Int) := by omega
       clear hrun hnw hnw2 hdx
       clear hcap hX9 hb9 hr9 ht9 hz9 hcw9 hbne hvne SX hdB hcap1 hs0 hs0' tr
       by_cases hvc1 : vc = 1
       · subst hvc1
         have hnv0 : nv = 0 := by omega
         subst hnv0
         go_wp2_with fail
         have hrun := HRUN.out
         have hnw := HNW.out
         have hnw2 := HNW2.out
         have hdx := HDX.out
         go_region_held (fun X => X.cell? ⟨b, off + 2, none⟩ = some (.string s0) ∧ X.cell? ⟨b, off + 3 + 1, none⟩ = some (.int .u64 (n1 : Int)) ∧ X.cell? ⟨w.heap.size, 1, none⟩ = some (.slice (some ⟨vg, voff, none⟩) (0 + 1) 1) ∧ X.cell? ⟨vg, voff, none⟩ = some (.int .u8 (x : Int))) (first | exact HS1.out | exact HS9.out | exact HSS.out _ _ _ _) (fail)
         go_wp2_with fail
         refine bodyPost_ret (results_cb2 rfl _ _ (w.heap.size + 1) 35 #[.slice (some ⟨w1.heap.size, 0, none⟩) s0.size cap, .int .i64 (1099511627776 - (n1 : Int)), .bool dB, .slice (some ⟨vg, voff, none⟩) 0 0] _ _ rfl (heap_set4 HCW9.out) Tryz.underlying35 rfl rec_size) rfl ?_
         have hvt := HV9.out.tail (c := 1) (by have := HNV.out; omega)
         rw [if_pos rfl] at hvt
         have hb9' := HB1.out.trans (HB9.out.mono HB1.out.size)
         refine ⟨(((hb9'.setCell (by simp) _).setCell (by simp) _).setCell (by simp) _).setCell (by simp) _, .inr ⟨⟨some ⟨w1.heap.size, 0, none⟩, cap, s0.data.toList, 1099511627776 - (n1 : Int), dB, some ⟨vg, voff, none⟩, 0, v⟩, ?_, ?_, (HKK.out.set4 HCW9.out (by decide) (by have := HHB.out; omega)), ?_, (hvt.set4 HCW9.out (by decide) (by have := HHB.out; omega)), ?_, ?_, ?_⟩⟩
         · unfold Rv.val; simp only; rw [← HS0'.out, ← HNV.out]; rfl
         · have h1 := recOf_yes (p := ⟨k, hd :: v⟩) HALL.out HKEY.out rfl
           rw [HDB.out] at h1
           exact h1
         · show s0.data.toList.length ≤ cap; rw [← HS0'.out]; exact HCAP.out
         · show v.length ≤ 0; rw [← HNV.out]; omega
         · show s0.data.toList.length ≤ k.length
           have h1 := key_text_len (p0 := ⟨true, n0, s0⟩) (l := [⟨false, n1, s1⟩]) rfl
           rw [HKEY.out] at h1
           exact h1
         · show v.length ≤ (hd :: v).length; simp
       · have hvc2 : (1 : Int) < (vc : Int) := by omega
         go_wp2_with fail
         have hrun := HRUN.out
         have hnw := HNW.out
         have hnw2 := HNW2.out
         have hdx := HDX.out
         go_region_held (fun X => X.cell? ⟨b, off + 2, none⟩ = some (.string s0) ∧ X.cell? ⟨b, off + 3 + 1, none⟩ = some (.int .u64 (n1 : Int)) ∧ X.cell? ⟨w.heap.size, 1, none⟩ = some (.slice (some ⟨vg, voff, none⟩) (nv + 1) vc) ∧ X.cell? ⟨vg, voff, none⟩ = some (.int .u8 (x : Int))) (first | exact HS1.out | exact HS9.out | exact HSS.out _ _ _ _) (fail)
         go_wp2_with fail
         refine bodyPost_ret (results_cb2 rfl _ _ (w.heap.size + 1) 35 #[.slice (some ⟨w1.heap.size, 0, none⟩) s0.size cap, .int .i64 (1099511627776 - (n1 : Int)), .bool dB, .slice (some ⟨vg, voff + 1, none⟩) nv (vc - 1)] _ _ rfl (heap_set4 HCW9.out) Tryz.underlying35 rfl rec_size) rfl ?_
         have hvt := HV9.out.tail (c := vc) (by have := HNV.out; omega)
         rw [if_neg hvc1] at hvt
         have hb9' := HB1.out.trans (HB9.out.mono HB1.out.size)
         refine ⟨(((hb9'.setCell (by simp) _).setCell (by simp) _).setCell (by simp) _).setCell (by simp) _, .inr ⟨⟨some ⟨w1.heap.size, 0, none⟩, cap, s0.data.toList, 1099511627776 - (n1 : Int), dB, some ⟨vg, voff + 1, none⟩, (vc - 1), v⟩, ?_, ?_, (HKK.out.set4 HCW9.out (by decide) (by have := HHB.out; omega)), ?_, (hvt.set4 HCW9.out (by decide) (by have := HHB.out; omega)), ?_, ?_, ?_⟩⟩
         · unfold Rv.val; simp only; rw [← HS0'.out, ← HNV.out]; rfl
         · have h1 := recOf_yes (p := ⟨k, hd :: v⟩) HALL.out HKEY.out rfl
           rw [HDB.out] at h1
           exact h1
         · show s0.data.toList.length ≤ cap; rw [← HS0'.out]; exact HCAP.out
         · show v.length ≤ (vc - 1); rw [← HNV.out]; omega
         · show s0.data.toList.length ≤ k.length
           have h1 := key_text_len (p0 := ⟨true, n0, s0⟩) (l := [⟨false, n1, s1⟩]) rfl
           rw [HKEY.out] at h1
           exact h1
         · show v.length ≤ (hd :: v).length; simp
   · have l1 : ((l.length : Int) == 2) = false := by simp; omega
     have l2 : ((l.length : Int) != 2) = true := by simp; omega
     have HNO : Hid (RecOf ⟨k, v⟩ none) := hid (recOf_no HALL.out HKEY.out (fun k n v d e _ _ => h2 (by rw [e]; rfl)))
     clear h2
     go_wp2_with fail
     refine bodyPost_ret (results_cb2 rfl _ _ (w.heap.size + 1) 35 #[.slice none 0 0, .int .i64 0, .bool false, .slice none 0 0] _ _ rfl (heap_set4 HCW.out) Tryz.underlying35 rfl rec_size) rfl ?_
     exact recP_no ((((HB1.out.setCell (by simp) _).setCell (by simp) _).setCell (by simp) _).setCell (by simp) _) HNO.out
 · have HNO : Hid (RecOf ⟨k, v⟩ none) := hid (recOf_no1 hno)
   clear hno
   go_wp2_with fail
   refine bodyPost_ret (results_cb2 rfl _ _ (w.heap.size + 1) 35 #[.slice none 0 0, .int .i64 0, .bool false, .slice none 0 0] _ _ rfl (heap_set4 HCW.out) Tryz.underlying35 rfl rec_size) rfl ?_
   exact recP_no ((((HB1.out.setCell (by simp) _).setCell (by simp) _).setCell (by simp) _).setCell (by simp) _) HNO.out
end Go.Proofs.YtgafionfojnieaaGreatDoor
