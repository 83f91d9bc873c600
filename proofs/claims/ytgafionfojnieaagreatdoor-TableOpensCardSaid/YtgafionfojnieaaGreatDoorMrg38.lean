/- Parts of the proof, one behind the other: The contract of ref11.record (written by a program).; The contract of the reference's Build (written by a program).; Memory while a table's bytes are read; what the reference's Open gives.; Memory of a table while it is opened.; bytes.Equal.; A table that was opened, in memory; what it is of.; The contract of table.Open.; Plain: what the statements ask of a table's bytes.; Plain: where a key at a moment stands among records in order; what a list of the same records tells. -/
import Derived.Test.YtgafionfojnieaaGreatDoorMrg37
namespace Go.Proofs.YtgafionfojnieaaGreatDoor
open Go.RowKit
open Lib (hid)
set_option maxHeartbeats 4000000 in
set_option maxRecDepth 100000 in
theorem rrecord_any (p : Pv) (w : World) (base : Nat) (hbase : base ≤ w.heap.size) (hk : HBs w base p.kA p.k) (hkc : p.k.length ≤ p.kc) (hkm : p.kc ≤ 9223372036854775807) (hv : HBs w base p.vA p.v) (hvc : p.v.length ≤ p.vc) (hvm : p.vc ≤ 9223372036854775807) (hkl : p.k.length ≤ 70000) (hvl : p.v.length ≤ 70000) :
   Calls Tryz.prog 31 #[.agg #[.slice p.kA p.k.length p.kc, .slice p.vA p.v.length p.vc]] w (RecP w base p) := by
 obtain ⟨W2, hW2⟩ : ∃ W2, W2 = (w.alloc (.cells #[.slice p.kA p.k.length p.kc, .slice p.vA p.v.length p.vc] 77)).alloc (.cells #[.slice none 0 0, .int .i64 0, .bool false, .slice none 0 0] 35) := ⟨_, rfl⟩
 have hb2 : Below w.heap.size w W2 := by rw [hW2]; exact below_al2 _ _ _
 have hz2 : W2.heap.size = w.heap.size + 2 := by rw [hW2]; simp
 have y0 : W2.heap[w.heap.size]? = some (.cells #[.slice p.kA p.k.length p.kc, .slice p.vA p.v.length p.vc] 77) := by
   rw [hW2, heap_alloc_old _ _ (by simp)]; exact heap_alloc_new w _
 have y1 : W2.heap[w.heap.size + 1]? = some (.cells #[.slice none 0 0, .int .i64 0, .bool false, .slice none 0 0] 35) := by
   rw [hW2]
   have := heap_alloc_new (w.alloc (.cells #[.slice p.kA p.k.length p.kc, .slice p.vA p.v.length p.vc] 77)) (.cells #[.slice none 0 0, .int .i64 0, .bool false, .slice none 0 0] 35)
   simpa using this
 have KP := hid (rparts_any p.kA p.kc p.k W2 (hk.below hb2).rd (by omega))
 have HV := hid (hv.below hb2)
 have HVW := hid hv
 have HY0 := hid y0
 have HY1 := hid y1
 have HB2 := hid hb2
 have HZ2 := hid hz2
 have HHB := hid hbase
 have hbc0 := cell_of_row W2 w.heap.size 0 _ _ (0, 0) y0
 simp only [List.getElem?_toArray, List.getElem?_cons_zero] at hbc0
 have HW2 := hid hW2
 rw [hW2] at hbc0
 obtain ⟨kA, kc, k, vA, vc, v⟩ := p
 simp only at KP HV hkc hkm hvc hvm hkl hvl hbc0 HY0 HW2 ⊢
 clear hk hv hb2 hz2 y0 y1 hW2 hbase
 go_enter Tryz.func31, Tryz.ntmps31
 go_wp2_with fail
 rw [← HW2.out]
 refine KP.out.mono ?_
 intro e w1 hpp
 obtain ⟨hb1, hpp⟩ := hpp
 have HB1 := hid (HB2.out.trans (hb1.mono HB2.out.size))
 have hcw := (hb1.block (w.heap.size + 1) (by have := HZ2.out; omega)).trans HY1.out
 have hpx := (hb1.block w.heap.size (by have := HZ2.out; omega)).trans HY0.out
 have HCW := hid hcw
 have HV1 := hid (HV.out.below hb1)
 have q0 := cell_of_row w1 (w.heap.size + 1) 0 _ _ (0, 0) hcw
 have q1 := cell_of_row w1 (w.heap.size + 1) 1 _ _ (0, 0) hcw
 have q2 := cell_of_row w1 (w.heap.size + 1) 2 _ _ (0, 0) hcw
 have q3 := cell_of_row w1 (w.heap.size + 1) 3 _ _ (0, 0) hcw
 have f0 := frozen_of_row w1 (w.heap.size + 1) 0 _ _ hcw
 have f1 := frozen_of_row w1 (w.heap.size + 1) 1 _ _ hcw
 have f2 := frozen_of_row w1 (w.heap.size + 1) 2 _ _ hcw
 have f3 := frozen_of_row w1 (w.heap.size + 1) 3 _ _ hcw
 have r1 := cell_of_row w1 w.heap.size 1 _ _ (0, 0) hpx
 simp only [List.getElem?_toArray, List.getElem?_cons_zero, List.getElem?_cons_succ] at q0 q1 q2 q3 r1
 have HPX := hid hpx
 clear hcw hpx hb1 KP hbc0
 have tr : True := trivial
 rcases hpp with ⟨l, hall, hkey, LA, LC, rfl, hrp⟩ | ⟨hno, rfl⟩
 · have HKEY := hid hkey
   have HALL := hid hall
   by_cases h2 : l.length = 2
   · obtain ⟨p0, p1, rfl⟩ : ∃ p0 p1, l = [p0, p1] := by
       match l, h2 with
       | [a, b], _ => exact ⟨a, b, rfl⟩
     obtain ⟨b, off, rfl, hbl, c00, c01, c02⟩ := hrp.at_ (k := 0) (by simp)
     obtain ⟨b', off', e', _, c10, c11, c12⟩ := hrp.at_ (k := 1) (by simp)
     injection e' with e'; injection e' with e1 e2; subst e1 e2
     have hrd2 : True := trivial
     cases hrd2 with
     | intro =>
       have d00 : w1.cell? ⟨b, off, none⟩ = some (.bool p0.t) := by simpa using c00
       have d02 : w1.cell? ⟨b, off + 2, none⟩ = some (.string p0.s) := by simpa using c02
       have d10 : w1.cell? ⟨b, off + 3, none⟩ = some (.bool p1.t) := by simpa using c10
       have d11 : w1.cell? ⟨b, off + 3 + 1, none⟩ = some (.int .u64 (p1.n : Int)) := by simpa using c11
       clear c00 c01 c02 c10 c11 c12
       obtain ⟨t0, n0, s0⟩ := p0
       obtain ⟨t1, n1, s1⟩ := p1
       simp only at d00 d02 d10 d11
       clear hall hkey hrp
       rcases t0 with _ | _
       · have HNO : Hid (RecOf ⟨k, v⟩ none) := hid (recOf_no HALL.out HKEY.out (fun k n v d e _ _ => by injection e with e1 _; injection e1 with e1; cases e1))
         clear tr
         go_wp2_with fail
         refine bodyPost_ret (results_cb2 rfl _ _ (w.heap.size + 1) 35 #[.slice none 0 0, .int .i64 0, .bool false, .slice none 0 0] _ _ rfl (heap_set4 HCW.out) Tryz.underlying35 rfl rec_size) rfl ?_
         exact recP_no ((((HB1.out.setCell (by simp) _).setCell (by simp) _).setCell (by simp) _).setCell (by simp) _) HNO.out
       rcases t1 with _ | _
       case' true =>
         have HNO : Hid (RecOf ⟨k, v⟩ none) := hid (recOf_no HALL.out HKEY.out (fun k n v d e _ _ => by injection e with _ e1; injection e1 with e1 _; injection e1 with e1; cases e1))
         clear tr
         go_wp2_with fail
         refine bodyPost_ret (results_cb2 rfl _ _ (w.heap.size + 1) 35 #[.slice none 0 0, .int .i64 0, .bool false, .slice none 0 0] _ _ rfl (heap_set4 HCW.out) Tryz.underlying35 rfl rec_size) rfl ?_
         exact recP_no ((((HB1.out.setCell (by simp) _).setCell (by simp) _).setCell (by simp) _).setCell (by simp) _) HNO.out
       by_cases hn1 : (1099511627776 : Int) ≤ (n1 : Int)
       · have HNO : Hid (RecOf ⟨k, v⟩ none) := hid (recOf_no HALL.out HKEY.out (fun k n v d e hn _ => by injection e with _ e1; injection e1 with e1 _; injection e1 with _ e2 _; omega))
         clear tr
         go_wp2_with fail
         refine bodyPost_ret (results_cb2 rfl _ _ (w.heap.size + 1) 35 #[.slice none 0 0, .int .i64 0, .bool false, .slice none 0 0] _ _ rfl (heap_set4 HCW.out) Tryz.underlying35 rfl rec_size) rfl ?_
         exact recP_no ((((HB1.out.setCell (by simp) _).setCell (by simp) _).setCell (by simp) _).setCell (by simp) _) HNO.out
       rcases v with _ | ⟨hd, v⟩
       · have HNO : Hid (RecOf ⟨k, []⟩ none) := hid (recOf_no HALL.out HKEY.out (fun k n v d _ _ e => by cases e))
         clear tr
         go_wp2_with fail
         refine bodyPost_ret (results_cb2 rfl _ _ (w.heap.size + 1) 35 #[.slice none 0 0, .int .i64 0, .bool false, .slice none 0 0] _ _ rfl (heap_set4 HCW.out) Tryz.underlying35 rfl rec_size) rfl ?_
         exact recP_no ((((HB1.out.setCell (by simp) _).setCell (by simp) _).setCell (by simp) _).setCell (by simp) _) HNO.out
       obtain ⟨vg, voff, rfl, hvg, vcell⟩ := HV1.out.rd.at_ (k := 0) (by simp)
       simp only [List.getElem_cons_zero, Nat.add_zero] at vcell
       obtain ⟨x, hx⟩ : ∃ x, x = hd.toNat := ⟨_, rfl⟩
       rw [← hx] at vcell
       have HX := hid hx
       clear hx
       have hln : (hd :: v).length = v.length + 1 := rfl
       have HVL := hid hln
       obtain ⟨nv, hnv⟩ : ∃ nv, nv = v.length := ⟨_, rfl⟩
       rw [hln, ← hnv] at r1 hvc hvl
       have HNV := hid hnv
       have i0 : (0 : Int) < (nv : Int) + 1 := by omega
       have i1 : ((nv : Int) + 1 == 0) = false := by simp; omega
       clear hln hnv
       by_cases hx1 : (1 : Int) < (x : Int)
       · have HNO : Hid (RecOf ⟨k, hd :: v⟩ none) := hid (recOf_no HALL.out HKEY.out (fun k n v d _ _ e => by
             injection e with e1 _
             have h1 := HX.out
             rw [e1] at h1
             cases d <;> simp at h1 <;> omega))
         clear tr
         go_wp2_with fail
         refine bodyPost_ret (results_cb2 rfl _ _ (w.heap.size + 1) 35 #[.slice none 0 0, .int .i64 0, .bool false, .slice none 0 0] _ _ rfl (heap_set4 HCW.out) Tryz.underlying35 rfl rec_size) rfl ?_
         exact recP_no ((((HB1.out.setCell (by simp) _).setCell (by simp) _).setCell (by simp) _).setCell (by simp) _) HNO.out
       have hrun := run_bytes_of_string (P := Tryz.prog) w1.drew 9 22 5 s0 Tryz.underlying9 bt.sl bt.el
       obtain ⟨cap, hcap⟩ : ∃ cap, cap = grownCap w1.drew s0.size 0 5 := ⟨_, rfl⟩
       have hcap1 : s0.size ≤ cap := by rw [hcap]; exact grownCap_ge w1.drew s0.size 0 5
       have hs0 : s0.data.toList.length ≤ 70000 := by
         have h1 := key_text_len (p0 := ⟨true, n0, s0⟩) (l := [⟨false, n1, s1⟩]) rfl
         rw [HKEY.out] at h1
         exact Nat.le_trans h1 hkl
       have hs0' : s0.size = s0.data.toList.length := by simp
       rw [← hcap] at hrun
       obtain ⟨X9, hX9⟩ : ∃ X9, X9 = w1.drew.drew.alloc (.cells (bytesRow s0 cap) 5 ((bytesRow s0 cap).size, (bytesRow s0 cap).size + 1)) := ⟨_, rfl⟩
       rw [← hX9] at hrun
       have hb9 : Below w1.heap.size w1 X9 := by rw [hX9]; exact ((Below.refl _ _).drew.drew).alloc (Nat.le_refl _) _
       have hr9 : RdB X9 (w1.heap.size + 1) (some ⟨w1.heap.size, 0, none⟩) s0.data.toList := by rw [hX9]; exact rdB_bytesRow w1.drew s0 cap _ _
       have ht9 : X9.heap[w1.heap.size]? = some (.cells (bytesRow s0 cap) 5 ((bytesRow s0 cap).size, (bytesRow s0 cap).size + 1)) := by rw [hX9]; exact heap_alloc_new w1.drew.drew _
       have hz9 : X9.heap.size = w1.heap.size + 1 := by rw [hX9]; simp
       have HB9 := hid hb9
       have hhw : w.heap.size + 1 < w1.heap.size := (Array.getElem?_eq_some_iff.1 HCW.out).1
       have hcw9 := (hb9.block _ hhw).trans HCW.out
       have hrunB := run_bytes_of_string (P := Tryz.prog) (w1.alloc (.cells #[.slice none 0 0, .int .i64 0, .bool false, .slice none 0 0] 35)).drew 9 22 5 s0 Tryz.underlying9 bt.sl bt.el
       obtain ⟨capB, hcapB⟩ : ∃ cap, cap = grownCap (w1.alloc (.cells #[.slice none 0 0, .int .i64 0, .bool false, .slice none 0 0] 35)).drew s0.size 0 5 := ⟨_, rfl⟩
       have hcapB1 : s0.size ≤ capB := by rw [hcapB]; exact grownCap_ge (w1.alloc (.cells #[.slice none 0 0, .int .i64 0, .bool false, .slice none 0 0] 35)).drew s0.size 0 5
       rw [← hcapB] at hrunB
       obtain ⟨XB, hXB⟩ : ∃ XB, XB = (w1.alloc (.cells #[.slice none 0 0, .int .i64 0, .bool false, .slice none 0 0] 35)).drew.drew.alloc (.cells (bytesRow s0 capB) 5 ((bytesRow s0 capB).size, (bytesRow s0 capB).size + 1)) := ⟨_, rfl⟩
       rw [← hXB] at hrunB
       have hbB : Below w1.heap.size w1 XB := by rw [hXB]; exact (((Below.refl _ _).alloc (Nat.le_refl _) _).drew.drew).alloc (by simp) _
       have hrB : RdB XB (w1.heap.size + 2) (some ⟨w1.heap.size + 1, 0, none⟩) s0.data.toList := by
         rw [hXB]
         have := rdB_bytesRow (w1.alloc (.cells #[.slice none 0 0, .int .i64 0, .bool false, .slice none 0 0] 35)).drew s0 capB 5 ((bytesRow s0 capB).size, (bytesRow s0 capB).size + 1)
         simpa using this
       have htB : XB.heap[w1.heap.size + 1]? = some (.cells (bytesRow s0 capB) 5 ((bytesRow s0 capB).size, (bytesRow s0 capB).size + 1)) := by
         rw [hXB]
         have := heap_alloc_new (w1.alloc (.cells #[.slice none 0 0, .int .i64 0, .bool false, .slice none 0 0] 35)).drew.drew (.cells (bytesRow s0 capB) 5 ((bytesRow s0 capB).size, (bytesRow s0 capB).size + 1))
         simpa using this
       have hzB : XB.heap.size = w1.heap.size + 2 := by rw [hXB]; simp
       have hrZ : XB.heap[w1.heap.size]? = some (.cells #[.slice none 0 0, .int .i64 0, .bool false, .slice none 0 0] 35) := by
         rw [hXB, heap_alloc_old _ _ (by simp)]
         exact heap_alloc_new w1 _
       have hcwB := (hbB.block _ hhw).trans HCW.out
       have HBB := hid hbB
       have HRZ := hid hrZ
       have HCWB := hid hcwB
       have HRUNB := hid hrunB
       have HCAPB : Hid (s0.size ≤ capB) := hid hcapB1
       have HKB : Hid (HBs XB base (some ⟨w1.heap.size + 1, 0, none⟩) s0.data.toList) := hid ⟨by rw [hzB]; exact hrB, fun _ g hg => by
         have : w1.heap.size + 1 = g := by simpa [blk] using hg
         exact .inr ⟨_, _, by rw [← this]; exact htB⟩⟩
       have HCW9 := hid hcw9
       have HZ9 : Hid (w1.heap.size ≤ X9.heap.size) := hid (by rw [hz9]; simp)
       clear hrunB hcapB hcapB1 hXB hbB hrB htB hzB hrZ hcwB
       have q0 := cell_of_row XB w1.heap.size 0 _ _ (0, 0) HRZ.out
       have q1 := cell_of_row XB w1.heap.size 1 _ _ (0, 0) HRZ.out
       have q2 := cell_of_row XB w1.heap.size 2 _ _ (0, 0) HRZ.out
       have q3 := cell_of_row XB w1.heap.size 3 _ _ (0, 0) HRZ.out
       have f0 := frozen_of_row XB w1.heap.size 0 _ _ HRZ.out
       have f1 := frozen_of_row XB w1.heap.size 1 _ _ HRZ.out
       have f2 := frozen_of_row XB w1.heap.size 2 _ _ HRZ.out
       have f3 := frozen_of_row XB w1.heap.size 3 _ _ HRZ.out
       simp only [List.getElem?_toArray, List.getElem?_cons_zero, List.getElem?_cons_succ] at q0 q1 q2 q3
       have HKK : Hid (HBs X9 base (some ⟨w1.heap.size, 0, none⟩) s0.data.toList) := hid ⟨by rw [hz9]; exact hr9, fun _ g hg => by
         have : w1.heap.size = g := by simpa [blk] using hg
         exact .inr ⟨_, _, by rw [← this]; exact ht9⟩⟩
       have HV9 := hid (HV1.out.below hb9)
       have SX : ∀ X, Below w1.heap.size w1 X → X.cell? ⟨b, off + 2, none⟩ = some (.string s0) ∧ X.cell? ⟨b, off + 3 + 1, none⟩ = some (.int .u64 (n1 : Int)) ∧ X.cell? ⟨w.heap.size, 1, none⟩ = some (.slice (some ⟨vg, voff, none⟩) (nv + 1) vc) ∧ X.cell? ⟨vg, voff, none⟩ = some (.int .u8 (x : Int)) := fun X hb =>
         ⟨(hb.cell (p := ⟨b, off + 2, none⟩) hbl).trans d02, (hb.cell (p := ⟨b, off + 3 + 1, none⟩) hbl).trans d11, (hb.cell (p := ⟨w.heap.size, 1, none⟩) (by simp; omega)).trans r1, (hb.cell (p := ⟨vg, voff, none⟩) hvg).trans vcell⟩
       have HSX := hid SX
       have hnw : IntKind.i64.wrap (n1 : Int) = (n1 : Int) := by rw [IntKind.wrap_i64]; omega
       have hnw2 : IntKind.i64.wrap (1099511627776 - (n1 : Int)) = 1099511627776 - (n1 : Int) := by rw [IntKind.wrap_i64]; omega
       obtain ⟨dB, hdB⟩ : ∃ dB, dB = ((x : Int) == 1) := ⟨_, rfl⟩
       have HDB : Hid ((hd == 1) = dB) := hid (by
         rw [hdB, HX.out, Bool.eq_iff_iff, beq_iff_eq, beq_iff_eq, ← UInt8.toNat_inj]
         have : (1 : UInt8).toNat = 1 := rfl
         rw [this]; omega)
       have hdx : ((x : Int) == 1) = dB := hdB.symm
       have HRUN := hid hrun
       have HNW := hid hnw
       have HNW2 := hid hnw2
       have HDX := hid hdx
       have HCAP : Hid (s0.size ≤ cap) := hid hcap1
       have HS0 := hid hs0
       have HS0' := hid hs0'
       have j1 : (1 : Int) ≤ (nv : Int) + 1 := by omega
       have hx1' : decide ((1 : Int) < (x : Int)) = false := decide_eq_false hx1
       have hn1' : decide ((1099511627776 : Int) ≤ (n1 : Int)) = false := decide_eq_false hn1
       have hx2 : (x : Int) ≤ 1 := by omega
       have hn2 : (n1 : Int) < 1099511627776 := by omega
       clear hx1 hn1
       have j2 : (nv : Int) + 1 ≤ (vc : Int) := by omega
       clear hrun hnw hnw2 hdx
       clear hcap hX9 hb9 hr9 ht9 hz9 hcw9 SX hdB hcap1 hs0 hs0' tr
       by_cases hvc1 : vc = 1
       · subst hvc1
         have hnv0 : nv = 0 := by omega
         subst hnv0
         go_wp2_with fail
         have hrun := HRUN.out
         have hrunB := HRUNB.out
         have hnw := HNW.out
         have hnw2 := HNW2.out
         have hdx := HDX.out
         go_region_held (fun X => X.cell? ⟨b, off + 2, none⟩ = some (.string s0) ∧ X.cell? ⟨b, off + 3 + 1, none⟩ = some (.int .u64 (n1 : Int)) ∧ X.cell? ⟨w.heap.size, 1, none⟩ = some (.slice (some ⟨vg, voff, none⟩) (0 + 1) 1) ∧ X.cell? ⟨vg, voff, none⟩ = some (.int .u8 (x : Int))) (first | exact HSX.out _ (Below.refl _ _).drew | exact HSX.out _ HB9.out | exact HSX.out _ (HB9.out.alloc HZ9.out _) | exact HSX.out _ ((Below.refl _ _).alloc (Nat.le_refl _) _).drew | exact HSX.out _ HBB.out | exact HSX.out _ ((((HBB.out.setCell (Nat.le_refl _) _).setCell (Nat.le_refl _) _).setCell (Nat.le_refl _) _).setCell (Nat.le_refl _) _)) (fail)
         · obtain ⟨Y, hY⟩ : ∃ Y, Y = X9.alloc (.cells #[.slice (some ⟨w1.heap.size, 0, none⟩) s0.size cap, .int .i64 (1099511627776 - (n1 : Int)), .bool dB, .slice (some ⟨vg, voff, none⟩) 0 0] 35) := ⟨_, rfl⟩
           rw [← hY]
           have hbY : Below w1.heap.size w1 Y := by rw [hY]; exact HB9.out.alloc HZ9.out _
           have hrY : Y.heap[X9.heap.size]? = some (.cells #[.slice (some ⟨w1.heap.size, 0, none⟩) s0.size cap, .int .i64 (1099511627776 - (n1 : Int)), .bool dB, .slice (some ⟨vg, voff, none⟩) 0 0] 35) := by rw [hY]; exact heap_alloc_new X9 _
           have hkY : HBs Y base (some ⟨w1.heap.size, 0, none⟩) s0.data.toList := by rw [hY]; exact HKK.out.below ((Below.refl X9.heap.size X9).alloc (Nat.le_refl _) _)
           have hcwY := (hbY.block _ (Array.getElem?_eq_some_iff.1 HCW.out).1).trans HCW.out
           have q0 := cell_of_row Y (w.heap.size + 1) 0 _ _ (0, 0) hcwY
           have q1 := cell_of_row Y (w.heap.size + 1) 1 _ _ (0, 0) hcwY
           have q2 := cell_of_row Y (w.heap.size + 1) 2 _ _ (0, 0) hcwY
           have q3 := cell_of_row Y (w.heap.size + 1) 3 _ _ (0, 0) hcwY
           have f0 := frozen_of_row Y (w.heap.size + 1) 0 _ _ hcwY
           have f1 := frozen_of_row Y (w.heap.size + 1) 1 _ _ hcwY
           have f2 := frozen_of_row Y (w.heap.size + 1) 2 _ _ hcwY
           have f3 := frozen_of_row Y (w.heap.size + 1) 3 _ _ hcwY
           have s0' := cell_of_row Y (X9.heap.size) 0 _ _ (0, 0) hrY
           have s1' := cell_of_row Y (X9.heap.size) 1 _ _ (0, 0) hrY
           have s2' := cell_of_row Y (X9.heap.size) 2 _ _ (0, 0) hrY
           have s3' := cell_of_row Y (X9.heap.size) 3 _ _ (0, 0) hrY
           simp only [List.getElem?_toArray, List.getElem?_cons_zero, List.getElem?_cons_succ] at q0 q1 q2 q3 s0' s1' s2' s3'
           have HBY := hid hbY
           have HCWY := hid hcwY
           have HKY := hid hkY
           clear hY hbY hrY hkY hcwY hrun hrunB
           go_wp2_with fail
           refine bodyPost_ret (results_cb2 rfl _ _ (w.heap.size + 1) 35 #[.slice (some ⟨w1.heap.size, 0, none⟩) s0.size cap, .int .i64 (1099511627776 - (n1 : Int)), .bool dB, .slice (some ⟨vg, voff, none⟩) 0 0] _ _ rfl (heap_set4 HCWY.out) Tryz.underlying35 rfl rec_size) rfl ?_
           have hvt := (HV1.out.below HBY.out).tail (c := 1) (by have := HNV.out; omega)
           rw [if_pos rfl] at hvt
           have hb9' := HB1.out.trans (HBY.out.mono HB1.out.size)
           refine ⟨(((hb9'.setCell (by simp) _).setCell (by simp) _).setCell (by simp) _).setCell (by simp) _, .inr ⟨⟨some ⟨w1.heap.size, 0, none⟩, cap, s0.data.toList, 1099511627776 - (n1 : Int), dB, some ⟨vg, voff, none⟩, 0, v⟩, ?_, ?_, (HKY.out.set4 HCWY.out (by decide) (by have := HHB.out; omega)), ?_, (hvt.set4 HCWY.out (by decide) (by have := HHB.out; omega)), ?_, ?_, ?_⟩⟩
           · unfold Rv.val; simp only; rw [← HS0'.out, ← HNV.out]; rfl
           · have h1 := recOf_yes (p := ⟨k, hd :: v⟩) HALL.out HKEY.out rfl
             rw [HDB.out] at h1
             exact h1
           · show s0.data.toList.length ≤ cap; rw [← HS0'.out]; exact HCAP.out
           · show v.length ≤ 0; rw [← HNV.out]; omega
           · show s0.data.toList.length ≤ k.length
             have h1 := key_text_len (p0 := ⟨true, n0, s0⟩) (l := [⟨false, n1, s1⟩]) rfl
             rw [HKEY.out] at h1
             exact h1
           · show v.length ≤ (hd :: v).length; simp
         · obtain ⟨Y, hY⟩ : ∃ Y, Y = (((XB.setCell ⟨w1.heap.size, 0, none⟩ (.slice (some ⟨w1.heap.size + 1, 0, none⟩) s0.size capB)).setCell ⟨w1.heap.size, 1, none⟩ (.int .i64 (1099511627776 - (n1 : Int)))).setCell ⟨w1.heap.size, 2, none⟩ (.bool dB)).setCell ⟨w1.heap.size, 3, none⟩ (.slice (some ⟨vg, voff, none⟩) 0 0) := ⟨_, rfl⟩
           rw [← hY]
           have hbY : Below w1.heap.size w1 Y := by rw [hY]; exact (((HBB.out.setCell (Nat.le_refl _) _).setCell (Nat.le_refl _) _).setCell (Nat.le_refl _) _).setCell (Nat.le_refl _) _
           have hrY : Y.heap[w1.heap.size]? = some (.cells #[.slice (some ⟨w1.heap.size + 1, 0, none⟩) s0.size capB, .int .i64 (1099511627776 - (n1 : Int)), .bool dB, .slice (some ⟨vg, voff, none⟩) 0 0] 35) := by rw [hY]; exact heap_set4 HRZ.out
           have hkY : HBs Y base (some ⟨w1.heap.size + 1, 0, none⟩) s0.data.toList := by rw [hY]; exact HKB.out.set4 HRZ.out (by decide) (by have := HHB.out; have := HB1.out.size; omega)
           have hcwY := (hbY.block _ (Array.getElem?_eq_some_iff.1 HCW.out).1).trans HCW.out
           have q0 := cell_of_row Y (w.heap.size + 1) 0 _ _ (0, 0) hcwY
           have q1 := cell_of_row Y (w.heap.size + 1) 1 _ _ (0, 0) hcwY
           have q2 := cell_of_row Y (w.heap.size + 1) 2 _ _ (0, 0) hcwY
           have q3 := cell_of_row Y (w.heap.size + 1) 3 _ _ (0, 0) hcwY
           have f0 := frozen_of_row Y (w.heap.size + 1) 0 _ _ hcwY
           have f1 := frozen_of_row Y (w.heap.size + 1) 1 _ _ hcwY
           have f2 := frozen_of_row Y (w.heap.size + 1) 2 _ _ hcwY
           have f3 := frozen_of_row Y (w.heap.size + 1) 3 _ _ hcwY
           have s0' := cell_of_row Y (w1.heap.size) 0 _ _ (0, 0) hrY
           have s1' := cell_of_row Y (w1.heap.size) 1 _ _ (0, 0) hrY
           have s2' := cell_of_row Y (w1.heap.size) 2 _ _ (0, 0) hrY
           have s3' := cell_of_row Y (w1.heap.size) 3 _ _ (0, 0) hrY
           simp only [List.getElem?_toArray, List.getElem?_cons_zero, List.getElem?_cons_succ] at q0 q1 q2 q3 s0' s1' s2' s3'
           have HBY := hid hbY
           have HCWY := hid hcwY
           have HKY := hid hkY
           clear hY hbY hrY hkY hcwY hrun hrunB
           go_wp2_with fail
           refine bodyPost_ret (results_cb2 rfl _ _ (w.heap.size + 1) 35 #[.slice (some ⟨w1.heap.size + 1, 0, none⟩) s0.size capB, .int .i64 (1099511627776 - (n1 : Int)), .bool dB, .slice (some ⟨vg, voff, none⟩) 0 0] _ _ rfl (heap_set4 HCWY.out) Tryz.underlying35 rfl rec_size) rfl ?_
           have hvt := (HV1.out.below HBY.out).tail (c := 1) (by have := HNV.out; omega)
           rw [if_pos rfl] at hvt
           have hb9' := HB1.out.trans (HBY.out.mono HB1.out.size)
           refine ⟨(((hb9'.setCell (by simp) _).setCell (by simp) _).setCell (by simp) _).setCell (by simp) _, .inr ⟨⟨some ⟨w1.heap.size + 1, 0, none⟩, capB, s0.data.toList, 1099511627776 - (n1 : Int), dB, some ⟨vg, voff, none⟩, 0, v⟩, ?_, ?_, (HKY.out.set4 HCWY.out (by decide) (by have := HHB.out; omega)), ?_, (hvt.set4 HCWY.out (by decide) (by have := HHB.out; omega)), ?_, ?_, ?_⟩⟩
           · unfold Rv.val; simp only; rw [← HS0'.out, ← HNV.out]; rfl
           · have h1 := recOf_yes (p := ⟨k, hd :: v⟩) HALL.out HKEY.out rfl
             rw [HDB.out] at h1
             exact h1
           · show s0.data.toList.length ≤ capB; rw [← HS0'.out]; exact HCAPB.out
           · show v.length ≤ 0; rw [← HNV.out]; omega
           · show s0.data.toList.length ≤ k.length
             have h1 := key_text_len (p0 := ⟨true, n0, s0⟩) (l := [⟨false, n1, s1⟩]) rfl
             rw [HKEY.out] at h1
             exact h1
           · show v.length ≤ (hd :: v).length; simp
       · have hvc2 : (1 : Int) < (vc : Int) := by omega
         go_wp2_with fail
         have hrun := HRUN.out
         have hrunB := HRUNB.out
         have hnw := HNW.out
         have hnw2 := HNW2.out
         have hdx := HDX.out
         go_region_held (fun X => X.cell? ⟨b, off + 2, none⟩ = some (.string s0) ∧ X.cell? ⟨b, off + 3 + 1, none⟩ = some (.int .u64 (n1 : Int)) ∧ X.cell? ⟨w.heap.size, 1, none⟩ = some (.slice (some ⟨vg, voff, none⟩) (nv + 1) vc) ∧ X.cell? ⟨vg, voff, none⟩ = some (.int .u8 (x : Int))) (first | exact HSX.out _ (Below.refl _ _).drew | exact HSX.out _ HB9.out | exact HSX.out _ (HB9.out.alloc HZ9.out _) | exact HSX.out _ ((Below.refl _ _).alloc (Nat.le_refl _) _).drew | exact HSX.out _ HBB.out | exact HSX.out _ ((((HBB.out.setCell (Nat.le_refl _) _).setCell (Nat.le_refl _) _).setCell (Nat.le_refl _) _).setCell (Nat.le_refl _) _)) (fail)
         · obtain ⟨Y, hY⟩ : ∃ Y, Y = X9.alloc (.cells #[.slice (some ⟨w1.heap.size, 0, none⟩) s0.size cap, .int .i64 (1099511627776 - (n1 : Int)), .bool dB, .slice (some ⟨vg, voff + 1, none⟩) nv (vc - 1)] 35) := ⟨_, rfl⟩
           rw [← hY]
           have hbY : Below w1.heap.size w1 Y := by rw [hY]; exact HB9.out.alloc HZ9.out _
           have hrY : Y.heap[X9.heap.size]? = some (.cells #[.slice (some ⟨w1.heap.size, 0, none⟩) s0.size cap, .int .i64 (1099511627776 - (n1 : Int)), .bool dB, .slice (some ⟨vg, voff + 1, none⟩) nv (vc - 1)] 35) := by rw [hY]; exact heap_alloc_new X9 _
           have hkY : HBs Y base (some ⟨w1.heap.size, 0, none⟩) s0.data.toList := by rw [hY]; exact HKK.out.below ((Below.refl X9.heap.size X9).alloc (Nat.le_refl _) _)
           have hcwY := (hbY.block _ (Array.getElem?_eq_some_iff.1 HCW.out).1).trans HCW.out
           have q0 := cell_of_row Y (w.heap.size + 1) 0 _ _ (0, 0) hcwY
           have q1 := cell_of_row Y (w.heap.size + 1) 1 _ _ (0, 0) hcwY
           have q2 := cell_of_row Y (w.heap.size + 1) 2 _ _ (0, 0) hcwY
           have q3 := cell_of_row Y (w.heap.size + 1) 3 _ _ (0, 0) hcwY
           have f0 := frozen_of_row Y (w.heap.size + 1) 0 _ _ hcwY
           have f1 := frozen_of_row Y (w.heap.size + 1) 1 _ _ hcwY
           have f2 := frozen_of_row Y (w.heap.size + 1) 2 _ _ hcwY
           have f3 := frozen_of_row Y (w.heap.size + 1) 3 _ _ hcwY
           have s0' := cell_of_row Y (X9.heap.size) 0 _ _ (0, 0) hrY
           have s1' := cell_of_row Y (X9.heap.size) 1 _ _ (0, 0) hrY
           have s2' := cell_of_row Y (X9.heap.size) 2 _ _ (0, 0) hrY
           have s3' := cell_of_row Y (X9.heap.size) 3 _ _ (0, 0) hrY
           simp only [List.getElem?_toArray, List.getElem?_cons_zero, List.getElem?_cons_succ] at q0 q1 q2 q3 s0' s1' s2' s3'
           have HBY := hid hbY
           have HCWY := hid hcwY
           have HKY := hid hkY
           clear hY hbY hrY hkY hcwY hrun hrunB
           go_wp2_with fail
           refine bodyPost_ret (results_cb2 rfl _ _ (w.heap.size + 1) 35 #[.slice (some ⟨w1.heap.size, 0, none⟩) s0.size cap, .int .i64 (1099511627776 - (n1 : Int)), .bool dB, .slice (some ⟨vg, voff + 1, none⟩) nv (vc - 1)] _ _ rfl (heap_set4 HCWY.out) Tryz.underlying35 rfl rec_size) rfl ?_
           have hvt := (HV1.out.below HBY.out).tail (c := vc) (by have := HNV.out; omega)
           rw [if_neg hvc1] at hvt
           have hb9' := HB1.out.trans (HBY.out.mono HB1.out.size)
           refine ⟨(((hb9'.setCell (by simp) _).setCell (by simp) _).setCell (by simp) _).setCell (by simp) _, .inr ⟨⟨some ⟨w1.heap.size, 0, none⟩, cap, s0.data.toList, 1099511627776 - (n1 : Int), dB, some ⟨vg, voff + 1, none⟩, (vc - 1), v⟩, ?_, ?_, (HKY.out.set4 HCWY.out (by decide) (by have := HHB.out; omega)), ?_, (hvt.set4 HCWY.out (by decide) (by have := HHB.out; omega)), ?_, ?_, ?_⟩⟩
           · unfold Rv.val; simp only; rw [← HS0'.out, ← HNV.out]; rfl
           · have h1 := recOf_yes (p := ⟨k, hd :: v⟩) HALL.out HKEY.out rfl
             rw [HDB.out] at h1
             exact h1
           · show s0.data.toList.length ≤ cap; rw [← HS0'.out]; exact HCAP.out
           · show v.length ≤ (vc - 1); rw [← HNV.out]; omega
           · show s0.data.toList.length ≤ k.length
             have h1 := key_text_len (p0 := ⟨true, n0, s0⟩) (l := [⟨false, n1, s1⟩]) rfl
             rw [HKEY.out] at h1
             exact h1
           · show v.length ≤ (hd :: v).length; simp
         · obtain ⟨Y, hY⟩ : ∃ Y, Y = (((XB.setCell ⟨w1.heap.size, 0, none⟩ (.slice (some ⟨w1.heap.size + 1, 0, none⟩) s0.size capB)).setCell ⟨w1.heap.size, 1, none⟩ (.int .i64 (1099511627776 - (n1 : Int)))).setCell ⟨w1.heap.size, 2, none⟩ (.bool dB)).setCell ⟨w1.heap.size, 3, none⟩ (.slice (some ⟨vg, voff + 1, none⟩) nv (vc - 1)) := ⟨_, rfl⟩
           rw [← hY]
           have hbY : Below w1.heap.size w1 Y := by rw [hY]; exact (((HBB.out.setCell (Nat.le_refl _) _).setCell (Nat.le_refl _) _).setCell (Nat.le_refl _) _).setCell (Nat.le_refl _) _
           have hrY : Y.heap[w1.heap.size]? = some (.cells #[.slice (some ⟨w1.heap.size + 1, 0, none⟩) s0.size capB, .int .i64 (1099511627776 - (n1 : Int)), .bool dB, .slice (some ⟨vg, voff + 1, none⟩) nv (vc - 1)] 35) := by rw [hY]; exact heap_set4 HRZ.out
           have hkY : HBs Y base (some ⟨w1.heap.size + 1, 0, none⟩) s0.data.toList := by rw [hY]; exact HKB.out.set4 HRZ.out (by decide) (by have := HHB.out; have := HB1.out.size; omega)
           have hcwY := (hbY.block _ (Array.getElem?_eq_some_iff.1 HCW.out).1).trans HCW.out
           have q0 := cell_of_row Y (w.heap.size + 1) 0 _ _ (0, 0) hcwY
           have q1 := cell_of_row Y (w.heap.size + 1) 1 _ _ (0, 0) hcwY
           have q2 := cell_of_row Y (w.heap.size + 1) 2 _ _ (0, 0) hcwY
           have q3 := cell_of_row Y (w.heap.size + 1) 3 _ _ (0, 0) hcwY
           have f0 := frozen_of_row Y (w.heap.size + 1) 0 _ _ hcwY
           have f1 := frozen_of_row Y (w.heap.size + 1) 1 _ _ hcwY
           have f2 := frozen_of_row Y (w.heap.size + 1) 2 _ _ hcwY
           have f3 := frozen_of_row Y (w.heap.size + 1) 3 _ _ hcwY
           have s0' := cell_of_row Y (w1.heap.size) 0 _ _ (0, 0) hrY
           have s1' := cell_of_row Y (w1.heap.size) 1 _ _ (0, 0) hrY
           have s2' := cell_of_row Y (w1.heap.size) 2 _ _ (0, 0) hrY
           have s3' := cell_of_row Y (w1.heap.size) 3 _ _ (0, 0) hrY
           simp only [List.getElem?_toArray, List.getElem?_cons_zero, List.getElem?_cons_succ] at q0 q1 q2 q3 s0' s1' s2' s3'
           have HBY := hid hbY
           have HCWY := hid hcwY
           have HKY := hid hkY
           clear hY hbY hrY hkY hcwY hrun hrunB
           go_wp2_with fail
           refine bodyPost_ret (results_cb2 rfl _ _ (w.heap.size + 1) 35 #[.slice (some ⟨w1.heap.size + 1, 0, none⟩) s0.size capB, .int .i64 (1099511627776 - (n1 : Int)), .bool dB, .slice (some ⟨vg, voff + 1, none⟩) nv (vc - 1)] _ _ rfl (heap_set4 HCWY.out) Tryz.underlying35 rfl rec_size) rfl ?_
           have hvt := (HV1.out.below HBY.out).tail (c := vc) (by have := HNV.out; omega)
           rw [if_neg hvc1] at hvt
           have hb9' := HB1.out.trans (HBY.out.mono HB1.out.size)
           refine ⟨(((hb9'.setCell (by simp) _).setCell (by simp) _).setCell (by simp) _).setCell (by simp) _, .inr ⟨⟨some ⟨w1.heap.size + 1, 0, none⟩, capB, s0.data.toList, 1099511627776 - (n1 : Int), dB, some ⟨vg, voff + 1, none⟩, (vc - 1), v⟩, ?_, ?_, (HKY.out.set4 HCWY.out (by decide) (by have := HHB.out; omega)), ?_, (hvt.set4 HCWY.out (by decide) (by have := HHB.out; omega)), ?_, ?_, ?_⟩⟩
           · unfold Rv.val; simp only; rw [← HS0'.out, ← HNV.out]; rfl
           · have h1 := recOf_yes (p := ⟨k, hd :: v⟩) HALL.out HKEY.out rfl
             rw [HDB.out] at h1
             exact h1
           · show s0.data.toList.length ≤ capB; rw [← HS0'.out]; exact HCAPB.out
           · show v.length ≤ (vc - 1); rw [← HNV.out]; omega
           · show s0.data.toList.length ≤ k.length
             have h1 := key_text_len (p0 := ⟨true, n0, s0⟩) (l := [⟨false, n1, s1⟩]) rfl
             rw [HKEY.out] at h1
             exact h1
           · show v.length ≤ (hd :: v).length; simp
   · have l1 : ((l.length : Int) == 2) = false := by simp; omega
     have l2 : ((l.length : Int) != 2) = true := by simp; omega
     have HNO : Hid (RecOf ⟨k, v⟩ none) := hid (recOf_no HALL.out HKEY.out (fun k n v d e _ _ => h2 (by rw [e]; rfl)))
     clear h2
     go_wp2_with fail
     refine bodyPost_ret (results_cb2 rfl _ _ (w.heap.size + 1) 35 #[.slice none 0 0, .int .i64 0, .bool false, .slice none 0 0] _ _ rfl (heap_set4 HCW.out) Tryz.underlying35 rfl rec_size) rfl ?_
     exact recP_no ((((HB1.out.setCell (by simp) _).setCell (by simp) _).setCell (by simp) _).setCell (by simp) _) HNO.out
 · have HNO : Hid (RecOf ⟨k, v⟩ none) := hid (recOf_no1 hno)
   clear hno
   go_wp2_with fail
   refine bodyPost_ret (results_cb2 rfl _ _ (w.heap.size + 1) 35 #[.slice none 0 0, .int .i64 0, .bool false, .slice none 0 0] _ _ rfl (heap_set4 HCW.out) Tryz.underlying35 rfl rec_size) rfl ?_
   exact recP_no ((((HB1.out.setCell (by simp) _).setCell (by simp) _).setCell (by simp) _).setCell (by simp) _) HNO.out
theorem two_keep {W w' : World} {b o p : Nat} {x0 x1 x2 x3 y0 y1 y2 y3 : Value} (h : W.cell? ⟨b, o, none⟩ = some x0 ∧ W.cell? ⟨b, o + 1, none⟩ = some x1 ∧ W.cell? ⟨b, o + 2, none⟩ = some x2 ∧ W.cell? ⟨b, o + 3, none⟩ = some x3 ∧
   W.cell? ⟨b, p, none⟩ = some y0 ∧ W.cell? ⟨b, p + 1, none⟩ = some y1 ∧ W.cell? ⟨b, p + 2, none⟩ = some y2 ∧ W.cell? ⟨b, p + 3, none⟩ = some y3) (hb : b < W.heap.size) (hw : Below W.heap.size W w') :
   w'.cell? ⟨b, o, none⟩ = some x0 ∧ w'.cell? ⟨b, o + 1, none⟩ = some x1 ∧ w'.cell? ⟨b, o + 2, none⟩ = some x2 ∧ w'.cell? ⟨b, o + 3, none⟩ = some x3 ∧
   w'.cell? ⟨b, p, none⟩ = some y0 ∧ w'.cell? ⟨b, p + 1, none⟩ = some y1 ∧ w'.cell? ⟨b, p + 2, none⟩ = some y2 ∧ w'.cell? ⟨b, p + 3, none⟩ = some y3 ∧ Below W.heap.size W w' :=
 ⟨(hw.cell (p := ⟨b, o, none⟩) hb).trans h.1, (hw.cell (p := ⟨b, o + 1, none⟩) hb).trans h.2.1, (hw.cell (p := ⟨b, o + 2, none⟩) hb).trans h.2.2.1, (hw.cell (p := ⟨b, o + 3, none⟩) hb).trans h.2.2.2.1,
   (hw.cell (p := ⟨b, p, none⟩) hb).trans h.2.2.2.2.1, (hw.cell (p := ⟨b, p + 1, none⟩) hb).trans h.2.2.2.2.2.1, (hw.cell (p := ⟨b, p + 2, none⟩) hb).trans h.2.2.2.2.2.2.1, (hw.cell (p := ⟨b, p + 3, none⟩) hb).trans h.2.2.2.2.2.2.2, hw⟩
structure KR (w : World) (l : List Rv) (k : Nat) (KA : Option Addr) (KC : Nat) (wr : World) : Prop where
 keys : OwnS Bs.cells 1 wr w.heap.size 22 KA KC ((l.take k).map Rv.bs)
 below : Below w.heap.size w wr
 size : w.heap.size ≤ wr.heap.size
 ord : ∀ i (hi : i < l.length), 0 < i → i < k → Tb.ahead (l[i - 1]'(by omega)) l[i] = true
theorem KR.call {w wr w2 : World} {l : List Rv} {k : Nat} {KA : Option Addr} {KC : Nat} (h : KR w l k KA KC wr) (hb : Below wr.heap.size wr w2) : KR w l k KA KC w2 :=
 ⟨h.keys.below hb, h.below.trans (hb.mono h.size), Nat.le_trans h.size hb.size, h.ord⟩
set_option maxHeartbeats 8000000 in
set_option maxRecDepth 100000 in
theorem rtbuild_any (A : Option Addr) (c : Nat) (l : List Rv) (size bits : Int) (w : World) (h : RdRv w w.heap.size A l) (hl : l.length ≤ 1000000) (hkv : ∀ r ∈ l, r.k.length ≤ 1000000 ∧ r.v.length ≤ 1000000) :
   Calls Tryz.prog 32 #[.slice A l.length c, .int .i64 size, .int .i64 bits] w (GivesR w (Tb.build l size bits).1 (Tb.build l size bits).2) := by
 by_cases b1 : size < 64
 · have HG := hid (@gives_bad w w l size bits (by simp [b1]) (Below.refl _ _))
   go_enter Tryz.func32, Tryz.ntmps32
   go_wp2_with fail
   go_ret2
   exact HG.out
 by_cases b2 : 32768 < size
 · have HG := hid (@gives_bad w w l size bits (by simp [b2]) (Below.refl _ _))
   go_enter Tryz.func32, Tryz.ntmps32
   go_wp2_with fail
   go_ret2
   exact HG.out
 by_cases b3 : bits < 1
 · have HG := hid (@gives_bad w w l size bits (by simp [b3]) (Below.refl _ _))
   go_enter Tryz.func32, Tryz.ntmps32
   go_wp2_with fail
   go_ret2
   exact HG.out
 by_cases b4 : 32 < bits
 · have HG := hid (@gives_bad w w l size bits (by simp [b4]) (Below.refl _ _))
   go_enter Tryz.func32, Tryz.ntmps32
   go_wp2_with fail
   go_ret2
   exact HG.out
 by_cases b5 : (l.length : Int) < 1
 · have HG := hid (@gives_bad w w l size bits (by omega) (Below.refl _ _))
   go_enter Tryz.func32, Tryz.ntmps32
   go_wp2_with fail
   go_ret2
   exact HG.out
 by_cases b6 : 20000 < (l.length : Int)
 · have HG := hid (@gives_bad w w l size bits (by omega) (Below.refl _ _))
   go_enter Tryz.func32, Tryz.ntmps32
   go_wp2_with fail
   go_ret2
   exact HG.out
 have hl2 : l.length ≤ 20000 := by omega
 have hp : 0 < l.length := by omega
 have HH := hid h
 have HKV := hid hkv
 have HB6 : Hid (¬ size < 64 ∧ ¬ 32768 < size ∧ ¬ bits < 1 ∧ ¬ 32 < bits) := hid ⟨b1, b2, b3, b4⟩
 obtain ⟨b, off, hA, hbl, hrow⟩ := h.row4 hp
 subst hA
 have HROW := hid hrow
 have q0 := (hrow 0 hp).2.1
 rw [Nat.zero_mul, Nat.add_zero] at q0
 obtain ⟨s0, hs0⟩ : ∃ s0, s0 = l[0].seq := ⟨_, rfl⟩
 rw [← hs0] at q0
 have HQ0 := hid q0
 have HLO : Hid (Tb.lowK l 0 = s0 ∧ Tb.highK l 0 = s0) := hid ⟨by rw [hs0]; exact Tb.lowK_zero l hp, by rw [hs0]; exact Tb.highK_zero l hp⟩
 clear h hkv hrow b5 hs0 q0
 go_enter Tryz.func32, Tryz.ntmps32
 go_wp2_with fail
 go_loopw [8, 9] (fun i _ wr => ∃ (k : Nat), k ≤ l.length ∧ i = .int .i64 (k : Int) ∧ Hid (∀ j (hj : j < l.length), j < k → Tb.right l[j] = true) ∧ Hid (Below w.heap.size w wr)) (fun i _ _ => l.length - (intOf i).toNat)
 case atStart => exact ⟨0, by omega, rfl, hid (fun j _ h => by omega), hid (Below.refl _ _)⟩
 case round =>
   obtain ⟨k, hk, rfl, HRK, HB⟩ := hrel
   by_cases hlt : k < l.length
   · obtain ⟨r, hrv⟩ : ∃ r, r = l[k] := ⟨_, rfl⟩
     have hmem : r ∈ l := by rw [hrv]; exact List.getElem_mem hlt
     obtain ⟨c0, c1, c2, c3⟩ := HROW.out k hlt
     rw [← hrv] at c0 c1 c2 c3
     have r0 := (HB.out.cell (p := ⟨b, off + k * 4, none⟩) hbl).trans c0
     have r1 := (HB.out.cell (p := ⟨b, off + k * 4 + 1, none⟩) hbl).trans c1
     have r2 := (HB.out.cell (p := ⟨b, off + k * 4 + 2, none⟩) hbl).trans c2
     have r3 := (HB.out.cell (p := ⟨b, off + k * 4 + 3, none⟩) hbl).trans c3
     have KRT := hid (rrightT_any r (HKV.out r hmem).1 (HKV.out r hmem).2 wr)
     obtain ⟨rt, hrt⟩ : ∃ rt, rt = Tb.right r := ⟨_, rfl⟩
     rw [← hrt] at KRT
     have HRT := hid hrt
     have HRV := hid hrv
     clear c0 c1 c2 c3 hmem hrv hrt
     obtain ⟨kA, kc, kk, seq, del, vA, vc, vv⟩ := r
     simp only [Rv.val] at r0 r1 r2 r3 KRT
     rcases rt with _ | _
     · have HG : Hid (∀ w', Below w.heap.size w w' → GivesR w (Tb.build l size bits).1 (Tb.build l size bits).2 (.returned (.tuple #[.slice none 0 0, .int .i64 1])) w') := hid (fun w' hb' => gives_bad (.inr (.inr (.inr (.inr (.inr (.inr (List.any_eq_true.2 ⟨l[k], List.getElem_mem hlt, by rw [← HRV.out, ← HRT.out]; rfl⟩))))))) hb')
       go_wp2_with fail
       refine KRT.out.mono ?_
       rintro e w1 ⟨rfl, hb1⟩
       have HB1 := hid (HB.out.trans (hb1.mono HB.out.size))
       clear hb1
       go_wp2_with fail
       go_ret2
       exact HG.out _ HB1.out
     · go_wp2_with fail
       refine KRT.out.mono ?_
       rintro e w1 ⟨rfl, hb1⟩
       have HB1 := hid (HB.out.trans (hb1.mono HB.out.size))
       clear hb1 r0 r1 r2 r3
       go_wp2_with fail
       go_roundw
       case rel => exact ⟨k + 1, by omega, by go_num, hid (fun j hj h1 => by
         by_cases hjk : j = k
         · subst hjk; rw [← HRV.out, ← HRT.out]
         · exact HRK.out j hj (by omega)), HB1⟩
       case measure => simp [intOf]; omega
   · obtain rfl : k = l.length := by omega
     have hr : ∀ r ∈ l, Tb.right r = true := fun r hr => by
       obtain ⟨j, hj, rfl⟩ := List.mem_iff_getElem.1 hr
       exact HRK.out j hj hj
     have HR := hid hr
     have hany : l.any (fun r => !Tb.right r) = false := by
       rw [List.any_eq_false]
       intro r hm; simp [hr r hm]
     have HNO : Hid (¬ (size < 64 ∨ 32768 < size ∨ bits < 1 ∨ 32 < bits ∨ l.length < 1 ∨ 20000 < l.length ∨ l.any (fun r => !Tb.right r) = true)) := hid (by
       rw [hany]
       have := HB6.out
       rintro (h1 | h1 | h1 | h1 | h1 | h1 | h1)
       · omega
       · omega
       · omega
       · omega
       · omega
       · omega
       · cases h1)
     have q1 := (HB.out.cell (p := ⟨b, off + 1, none⟩) hbl).trans HQ0.out
     have hone : (1 : Int) ≤ (l.length : Int) := by omega
     have HK0 : Hid (KR w l 0 none 0 wr) := hid ⟨OwnS.nil _ _ _, HB.out, HB.out.size, fun i _ h0 h1 => by omega⟩
     clear hr hany HRK HB
     go_wp2_with fail
     go_loopw [10, 11, 12, 13] (fun lo hi ks i wr => ∃ (k : Nat) (KA : Option Addr) (KC : Nat) (L H : Int), k ≤ l.length ∧ i = .int .i64 (k : Int) ∧ ks = .slice KA k KC ∧ lo = .int .i64 L ∧ hi = .int .i64 H ∧ Hid (L = Tb.lowK l k ∧ H = Tb.highK l k) ∧ Hid (KR w l k KA KC wr)) (fun _ _ _ i _ => l.length - (intOf i).toNat)
     case atStart => exact ⟨0, none, 0, s0, s0, by omega, rfl, rfl, rfl, rfl, hid ⟨HLO.out.1.symm, HLO.out.2.symm⟩, HK0⟩
     case round =>
       obtain ⟨k, KA, KC, L, H, hk, rfl, rfl, rfl, rfl, HLH, HKR⟩ := hrel
       clear HK0 q1
       by_cases hlt : k < l.length
       · obtain ⟨r, hrv⟩ : ∃ r, r = l[k] := ⟨_, rfl⟩
         have hmem : r ∈ l := by rw [hrv]; exact List.getElem_mem hlt
         have HRT := hid (HR.out r hmem)
         have hbb := HKR.out.below
         have hbz := HKR.out.size
         obtain ⟨c0, c1, c2, c3⟩ := HROW.out k hlt
         rw [← hrv] at c0 c1 c2 c3
         have r0 := (hbb.cell (p := ⟨b, off + k * 4, none⟩) hbl).trans c0
         have r1 := (hbb.cell (p := ⟨b, off + k * 4 + 1, none⟩) hbl).trans c1
         have r2 := (hbb.cell (p := ⟨b, off + k * 4 + 2, none⟩) hbl).trans c2
         have r3 := (hbb.cell (p := ⟨b, off + k * 4 + 3, none⟩) hbl).trans c3
         have HRV := hid hrv
         have HMEM := hid hmem
         have HC0 : Hid (∀ w', Below w.heap.size w w' → w'.cell? ⟨b, off + k * 4, none⟩ = some (.slice r.kA r.k.length r.kc) ∧ w'.cell? ⟨b, off + k * 4 + 1, none⟩ = some (.int .i64 r.seq)) := hid (fun w' hb' => ⟨(hb'.cell (p := ⟨b, off + k * 4, none⟩) hbl).trans c0, (hb'.cell (p := ⟨b, off + k * 4 + 1, none⟩) hbl).trans c1⟩)
         clear c0 c1 c2 c3 hmem hrv
         obtain ⟨kA, kc, kk, seq, del, vA, vc, vv⟩ := r
         simp only at r0 r1 r2 r3 HC0
         by_cases h0 : 0 < k
         case' pos =>
           obtain ⟨j, hj⟩ : ∃ j, k = j + 1 := ⟨k - 1, by omega⟩
           have hjl : j < l.length := by omega
           obtain ⟨r', hr'⟩ : ∃ r', r' = l[j] := ⟨_, rfl⟩
           have hmem' : r' ∈ l := by rw [hr']; exact List.getElem_mem hjl
           obtain ⟨c0, c1, c2, c3⟩ := HROW.out j hjl
           rw [← hr'] at c0 c1 c2 c3
           have p0 := (hbb.cell (p := ⟨b, off + j * 4, none⟩) hbl).trans c0
           have p1 := (hbb.cell (p := ⟨b, off + j * 4 + 1, none⟩) hbl).trans c1
           have p2 := (hbb.cell (p := ⟨b, off + j * 4 + 2, none⟩) hbl).trans c2
           have p3 := (hbb.cell (p := ⟨b, off + j * 4 + 3, none⟩) hbl).trans c3
           have KO : Hid (∀ w', Below wr.heap.size wr w' → Calls Tryz.prog 67 #[r'.val, (⟨kA, kc, kk, seq, del, vA, vc, vv⟩ : Rv).val] w' fun e w'' => e = .returned (.bool (Tb.ahead r' ⟨kA, kc, kk, seq, del, vA, vc, vv⟩)) ∧ Below w'.heap.size w' w'') := hid (fun w' hb' => by
             have hb2 : Below w.heap.size w w' := hbb.trans (hb'.mono hbz)
             exact aheadT_any _ _ w' (((HH.out.ok r' hmem').below hb2 (Nat.le_refl _)).more hb2.size) (((HH.out.ok _ HMEM.out).below hb2 (Nat.le_refl _)).more hb2.size))
           have HJ : Hid (j + 1 = k ∧ ∀ (h : j < l.length), r' = l[j]) := hid ⟨hj.symm, fun _ => hr'⟩
           clear hr' hmem' c0 c1 c2 c3
           obtain ⟨o, ho⟩ : ∃ o, o = Tb.ahead r' ⟨kA, kc, kk, seq, del, vA, vc, vv⟩ := ⟨_, rfl⟩
           rw [← ho] at KO
           have HOI := hid ho
           clear ho
           obtain ⟨kA', kc', kk', seq', del', vA', vc', vv'⟩ := r'
           simp only [Rv.val] at p0 p1 p2 p3 KO
           have hb3 : b < wr.heap.size := Nat.lt_of_lt_of_le hbl hbz
           have HKEEP := hid (fun (w' : World) => two_keep (w' := w') ⟨p0, p1, p2, p3, r0, r1, r2, r3⟩ hb3)
           have hk0 : (0 : Int) < (k : Int) := by omega
           have hk1 : decide ((0 : Int) < (k : Int)) = true := decide_eq_true hk0
           have hsum : IntKind.i64.wrap ((k : Int) - 1) = (j : Int) := by rw [IntKind.wrap_i64]; omega
           have hj0 : (0 : Int) ≤ (j : Int) := by omega
           have hj1 : (j : Int) < (l.length : Int) := by omega
           have HBB := hid hbb
           have HBZ := hid hbz
           clear hj hbb hbz hb3
           rcases o with _ | _
           case false =>
             have HTEN : Hid (∀ w', Below w.heap.size w w' → GivesR w (Tb.build l size bits).1 (Tb.build l size bits).2 (.returned (.tuple #[.slice none 0 0, .int .i64 10])) w') := hid (fun w' hb' => by
               refine gives_ten HNO.out (Tb.sorted_no (i := k) hlt h0 ?_) hb'
               obtain ⟨e1, e2⟩ := HJ.out
               subst e1
               show Tb.ahead l[j] l[j + 1] = false
               rw [← e2 hjl, ← HRV.out]
               exact HOI.out.symm)
             clear hjl
             go_wp2_with fail
             go_region_held (fun w' => w'.cell? ⟨b, off + j * 4, none⟩ = some (.slice kA' kk'.length kc') ∧ w'.cell? ⟨b, off + j * 4 + 1, none⟩ = some (.int .i64 seq') ∧ w'.cell? ⟨b, off + j * 4 + 2, none⟩ = some (.bool del') ∧ w'.cell? ⟨b, off + j * 4 + 3, none⟩ = some (.slice vA' vv'.length vc') ∧ w'.cell? ⟨b, off + k * 4, none⟩ = some (.slice kA kk.length kc) ∧ w'.cell? ⟨b, off + k * 4 + 1, none⟩ = some (.int .i64 seq) ∧ w'.cell? ⟨b, off + k * 4 + 2, none⟩ = some (.bool del) ∧ w'.cell? ⟨b, off + k * 4 + 3, none⟩ = some (.slice vA vv.length vc) ∧ Below wr.heap.size wr w')
           (first | exact HKEEP.out _ ((Below.refl _ _).drew) | exact HKEEP.out _ B3)
           (first | (go_at_call 67; refine (KO.out _ (by go_split_ands; assumption)).mono ?_; rintro e w1 ⟨rfl, hb1⟩; have B3 := Below.trans (b := _) (by go_split_ands; assumption : Below wr.heap.size wr _) (hb1.mono (by go_split_ands; exact Below.size (by assumption)))))
             go_wp2_with fail
             go_ret2
             exact HTEN.out _ (HBB.out.trans (B3.mono HBZ.out))
           have HORD : Hid (∀ i (hi : i < l.length), 0 < i → i < k + 1 → Tb.ahead (l[i - 1]'(Nat.lt_of_le_of_lt (Nat.sub_le i 1) hi)) l[i] = true) := hid (fun i hi h1 h2 => by
             by_cases hik : i = k
             · obtain ⟨e1, e2⟩ := HJ.out
               subst hik
               subst e1
               show Tb.ahead l[j] l[j + 1] = true
               rw [← e2 hjl, ← HRV.out]
               exact HOI.out.symm
             · exact HKR.out.ord i hi h1 (by omega))
           clear hjl
           go_wp2_with fail
           go_region_held (fun w' => w'.cell? ⟨b, off + j * 4, none⟩ = some (.slice kA' kk'.length kc') ∧ w'.cell? ⟨b, off + j * 4 + 1, none⟩ = some (.int .i64 seq') ∧ w'.cell? ⟨b, off + j * 4 + 2, none⟩ = some (.bool del') ∧ w'.cell? ⟨b, off + j * 4 + 3, none⟩ = some (.slice vA' vv'.length vc') ∧ w'.cell? ⟨b, off + k * 4, none⟩ = some (.slice kA kk.length kc) ∧ w'.cell? ⟨b, off + k * 4 + 1, none⟩ = some (.int .i64 seq) ∧ w'.cell? ⟨b, off + k * 4 + 2, none⟩ = some (.bool del) ∧ w'.cell? ⟨b, off + k * 4 + 3, none⟩ = some (.slice vA vv.length vc) ∧ Below wr.heap.size wr w')
           (first | exact HKEEP.out _ ((Below.refl _ _).drew) | exact HKEEP.out _ B3)
           (first | (go_at_call 67; refine (KO.out _ (by go_split_ands; assumption)).mono ?_; rintro e w1 ⟨rfl, hb1⟩; have B3 := Below.trans (b := _) (by go_split_ands; assumption : Below wr.heap.size wr _) (hb1.mono (by go_split_ands; exact Below.size (by assumption)))))
           obtain ⟨X, hXw⟩ : ∃ X, X = w1 := ⟨_, rfl⟩
           rw [← hXw] at B3 ⊢
           have HKX := hid (HKR.out.call B3)
           obtain ⟨x0, x1⟩ := HC0.out X HKX.out.below
           clear B3 hk1 r0 r1 r2 r3 KO HJ HOI HKEEP p0 p1 p2 p3 hsum hj0 hj1 HBB HBZ
           subst hXw
         case' neg =>
           have hk0 : ¬ ((0 : Int) < (k : Int)) := by omega
           have hk1 : decide ((0 : Int) < (k : Int)) = false := decide_eq_false hk0
           have HORD : Hid (∀ i (hi : i < l.length), 0 < i → i < k + 1 → Tb.ahead (l[i - 1]'(Nat.lt_of_le_of_lt (Nat.sub_le i 1) hi)) l[i] = true) := hid (fun i hi h1 h2 => by omega)
           go_wp2_with fail
           go_quiet (fail)
           refine drewN_any ?_
           intro X hbX hXh
           have HKX := hid (HKR.out.call hbX)
           obtain ⟨x0, x1⟩ := HC0.out X HKX.out.below
           clear hbX hXh hk1 r0 r1 r2 r3
         all_goals
           have HQL : Hid (((l.take k).map Rv.bs).length = k) := hid (by simp; omega)
           have HQK := hid HKX.out.keys
           obtain ⟨Q, hQ⟩ : ∃ Q, Q = (l.take k).map Rv.bs := ⟨_, rfl⟩
           rw [← hQ] at HQL HQK
           have HQE := hid hQ
           have hsX := HKX.out.size
           have hLOW := Tb.lowK_succ l k hlt
           have hHIG := Tb.highK_succ l k hlt
           rw [← HRV.out, ← HLH.out.1] at hLOW
           rw [← HRV.out, ← HLH.out.2] at hHIG
           have HLH2 : Hid (min L seq = Tb.lowK l (k + 1) ∧ max H seq = Tb.highK l (k + 1)) := hid ⟨hLOW.symm, hHIG.symm⟩
           have HKL : Hid (kk.length ≤ 1000000) := hid ((HKV.out _ HMEM.out).1)
           clear hQ hLOW hHIG
           go_wp2_with (at_builtin; refine wpList_append_s _ rfl _ _ bsT rfl w.heap.size KA KC Q (by show Value.slice KA k KC = Value.slice KA Q.length KC; rw [HQL.out]) (HQK.out.alloc _) (X.heap.size + 1) (some ⟨X.heap.size, 0, none⟩) 1 1 [⟨kA, kc, kk⟩] rfl rfl (rd_bs_new X ⟨kA, kc, kk⟩) (by rw [HQL.out]; simp; omega) (by rw [HQL.out]; unfold maxLen; simp; omega) (by simp; omega) ?_)
           intro KA' KC' LK w9 hLK hoK hgK hatK
           have hLKn : LK.length = k + 1 := by rw [hLK, List.length_append, HQL.out]; rfl
           have hLK2 : LK = (l.take (k + 1)).map Rv.bs := by
             rw [hLK, HQE.out, List.take_succ_eq_append_getElem hlt, ← HRV.out]
             simp [Rv.bs]
           rw [hLK2] at hoK
           have HKN : Hid (KR w l (k + 1) KA' KC' w9) := hid ⟨hoK, ((HKX.out.below.alloc hsX _).grown hgK (by simp; omega) (fun g hg => (HQK.out.blk_ge g hg).1)), Nat.le_trans hsX (Nat.le_trans (by simp) hgK.size), HORD.out⟩
           rw [hLKn]
           clear hLK hLK2 hoK hgK hatK hLKn hsX x0 x1
           go_wp2_with fail
           go_roundw
           case rel => exact ⟨k + 1, KA', KC', _, _, by omega, by go_num, rfl, rfl, rfl, HLH2, HKN⟩
           case measure => simp [intOf]; omega
       · obtain rfl : k = l.length := by omega
         have HSO : Hid (Tb.sorted l = true) := hid (Tb.sorted_yes (fun i hi h0 => HKR.out.ord i hi h0 hi))
         have KP := hid (part_any (some ⟨b, off, none⟩) c l size wr ((HH.out.below HKR.out.below (Nat.le_refl _)).more HKR.out.size) hl2 HR.out)
         go_wp2_with fail
         refine KP.out.mono ?_
         rintro e w2 ⟨GA, gc, gs, rfl, hgr, hgs⟩
         have hs64 : 64 ≤ size := by have := HB6.out; omega
         obtain ⟨hclo, hnil⟩ := Tb.close_run size hs64 l hp
         obtain ⟨PP, hPP⟩ : ∃ PP, PP = (Tb.parts size l).1 := ⟨_, rfl⟩
         have hpb := Tb.parts_bytes size l HR.out l.length (Nat.le_refl _)
         have hpl := Tb.parts_len size l l.length (Nat.le_refl _)
         have hplen := Tb.parts_lens size l l.length (Nat.le_refl _)
         have hpp := Tb.parts_pos size hs64 l hp
         rw [List.take_length] at hpb hpl hplen
         rw [← hPP] at hclo hnil hpb hpl hplen hpp hgs
         have hgsl : gs.length = PP.length := by rw [← hgs, List.length_map]
         have hgl2 : gs.length ≤ 20000 := by omega
         have hgl0 : 0 < gs.length := by rw [hgsl]; exact List.length_pos_iff.2 hpp
         have HGS : Hid (∀ k (hk : k < gs.length), ∃ hk2 : k < PP.length, PP[k] = gs[k].pr) := hid (fun k hk => ⟨by omega, by subst hgs; simp⟩)
         have HCLO := hid hclo
         have HNIL := hid hnil
         have HPB := hid hpb
         have HPLEN := hid hplen
         have HPP := hid hPP
         have HGL := hid hgsl
         have HGR := hid hgr
         obtain ⟨gA, hGA, hgAlt, hcells⟩ := hgr.at_ hgl0
         have HCELLS := hid hcells
         have HGALT := hid hgAlt
         subst hGA
         have HRK : Hid (RdBs w2 wr.heap.size KA ((l.take l.length).map Rv.bs)) := hid ⟨HKR.out.keys.rd.below hgr.below (Nat.le_refl _), fun p hp => by
           obtain ⟨r, hr, rfl⟩ := List.mem_map.1 hp
           rw [List.take_length] at hr
           exact (((HH.out.ok r hr).key.below HKR.out.below (Nat.le_refl _)).more HKR.out.size).below hgr.below (Nat.le_refl _)⟩
         have HRK2 : Hid (RdBs w2 w2.heap.size KA (l.map Rv.bs)) := hid (by
           have h1 := HRK.out.more hgr.below.size
           rwa [List.take_length] at h1)
         have HBW2 : Hid (Below w.heap.size w w2) := hid (HKR.out.below.trans (hgr.below.mono HKR.out.size))
         have HE0 : Hid (ER w2 w2.heap.size none 0 [] none 0 [] w2) := hid ⟨Own.nil _ _ _, OwnS.nil _ _ _, (fun q hq => by cases hq), (fun q hq => by cases hq), (fun g hg => by cases hg), Below.refl _ _, Nat.le_refl _⟩
         clear hs64 hclo hnil hpb hpl hplen hpp hgs hgsl hPP hgr hcells KP hgAlt
         go_wp2_with fail
         go_loopw [14, 15, 17, 18, 19, 20, 21, 22] (fun oo xx i _ _ _ _ _ w3 => ∃ (k : Nat) (OA : Option Addr) (OC : Nat) (out : List UInt8) (XA : Option Addr) (XC : Nat) (IX : List Pv), k ≤ gs.length ∧ i = .int .i64 (k : Int) ∧ oo = .slice OA out.length OC ∧ xx = .slice XA IX.length XC ∧ Hid (out = (Tb.emits (PP.take k)).out ∧ IX.map Pv.pr = (Tb.emits (PP.take k)).index ∧ ∀ j (hj : j < PP.length), j < k → Tb.fits (Tb.blkB 16 PP[j]) = true) ∧ Hid (ER w2 w2.heap.size OA OC out XA XC IX w3)) (fun _ _ i _ _ _ _ _ _ => gs.length - (intOf i).toNat)
         case atStart => exact ⟨0, none, 0, [], none, 0, [], by omega, rfl, rfl, rfl, hid ⟨rfl, rfl, fun j _ h => by omega⟩, HE0⟩
         case round =>
           obtain ⟨k, OA, OC, out, XA, XC, IX, hk, rfl, rfl, rfl, HC, HER⟩ := hrel
           clear HE0
           by_cases hlt : k < gs.length
           · obtain ⟨g, hg⟩ : ∃ g, g = gs[k] := ⟨_, rfl⟩
             have hgm : g ∈ gs := by rw [hg]; exact List.getElem_mem hlt
             have hgc := HCELLS.out k hlt
             rw [← hg] at hgc
             have hb3 := HER.out.below
             have cg := (hb3.cell (p := ⟨gA, k, none⟩) HGALT.out).trans hgc
             have hrd := HGR.out.rdp hgm
             obtain ⟨hk2, hPk⟩ := HGS.out k hlt
             rw [← hg] at hPk
             have HPK := hid hPk
             have hPm : g.pr ∈ PP := by rw [← hPk]; exact List.getElem_mem hk2
             have hgb := HPB.out _ hPm
             have hgn := HNIL.out _ hPm
             have hgl := HPLEN.out _ hPm
             have hpl0 : 0 < g.ps.length := List.length_pos_iff.2 (fun e => hgn (by unfold Gv.pr; rw [e]; rfl))
             have hgll : g.ps.length ≤ 20000 := by unfold Gv.pr at hgl; rw [List.length_map] at hgl; omega
             have hsz : ∀ p ∈ g.ps, p.k.length ≤ 100000 ∧ p.v.length ≤ 100000 := fun p hp => by
               have := hgb p.pr (List.mem_map.2 ⟨p, hp, rfl⟩)
               exact ⟨Nat.le_trans this.1 (by omega), Nat.le_trans this.2 (by omega)⟩
             obtain ⟨gb, goff, hgA2, hgbl, hrow2⟩ := hrd.row2 hpl0
             have KB := rblk_bytes g.A g.c g.ps _ ((hrd.below hb3 (Nat.le_refl _)).more HER.out.size) (by omega) hsz
             rw [show g.ps.map Pv.pr = g.pr from rfl] at KB
             obtain ⟨BB, hBB⟩ : ∃ BB, BB = Tb.blkB 16 g.pr := ⟨_, rfl⟩
             rw [← hBB] at KB
             have HKB := hid KB
             have hBBl : BB.length ≤ 70368744177664 := by
               rw [hBB]
               exact Nat.le_trans (blkB_len 16 _ (fun p hp => by
                 have := hgb p hp
                 exact ⟨Nat.le_trans this.1 (by omega), Nat.le_trans this.2 (by omega)⟩)) (by unfold Gv.pr; rw [List.length_map]; omega)
             obtain ⟨n0, hn0⟩ : ∃ n0, g.ps.length = n0 + 1 := ⟨g.ps.length - 1, by omega⟩
             have clast := (hrow2 n0 (by omega)).1
             have HOKQ : Hid (RdB w2 w2.heap.size (g.ps[n0]'(by omega)).kA (g.ps[n0]'(by omega)).k ∧ (g.ps[n0]'(by omega)).k.length ≤ (g.ps[n0]'(by omega)).kc ∧ (g.ps[n0]'(by omega)).kc ≤ 9223372036854775807) := hid (by
               have h1 := hrd.ok _ (List.getElem_mem (by omega : n0 < g.ps.length))
               exact ⟨h1.key, h1.kc, h1.kcm⟩)
             have HLAST : Hid (((g.pr.getLast?).map Pr.k).getD [] = (g.ps[n0]'(by omega)).k) := hid (by
               unfold Gv.pr
               rw [List.getLast?_map, List.getLast?_eq_getElem?, List.getElem?_eq_getElem (by omega)]
               simp [hn0, Pv.pr])
             obtain ⟨q0, hq0⟩ : ∃ q0 : Pv, q0 = g.ps[n0]'(by omega) := ⟨_, rfl⟩
             rw [← hq0] at clast HOKQ HLAST
             have HCL := hid (fun (w' : World) (hb' : Below w2.heap.size w2 w') => (hb'.cell (p := ⟨gb, goff + n0 * 2, none⟩) hgbl).trans clast)
             have HCG := hid (fun (w' : World) (hb' : Below w2.heap.size w2 w') => (hb'.cell (p := ⟨gA, k, none⟩) HGALT.out).trans hgc)
             have HBB := hid hBB
             have HPM := hid hPm
             have HBBL := hid hBBl
             obtain ⟨pn, hpn⟩ : ∃ pn, pn = g.ps.length := ⟨_, rfl⟩
             rw [← hpn] at cg HCG HKB hgll hn0
             obtain ⟨gAd, hgAd⟩ : ∃ gAd, gAd = g.A := ⟨_, rfl⟩
             obtain ⟨gcd, hgcd⟩ : ∃ gcd, gcd = g.c := ⟨_, rfl⟩
             rw [← hgAd, ← hgcd] at cg HCG HKB
             rw [← hgAd] at hgA2
             subst hgA2
             have HN0 := hid hn0
             have HGBL := hid hgbl
             have HGLL := hid hgll
             clear hn0 hgbl hgll hBBl
             clear hgc hb3 hrd hPm hgb hgn hgl hpl0 hsz hrow2 clast KB hBB hq0 hpn hgAd hgcd hgm hg
             go_wp2_with fail
             refine HKB.out.mono ?_
             rintro e w4 ⟨A1, c1, xe, rfl, hoB, hb4⟩
             have HE4 := hid (HER.out.call hb4)
             have KF := hid (rfput_any 68 A1 c1 BB w4 hoB.rd HBBL.out)
             clear hoB hb4 cg
             go_wp2_with fail
             refine KF.out.mono ?_
             rintro e w5 ⟨hb5, ⟨hnf, rfl⟩ | ⟨hf, FA, fc, rfl, hoF⟩⟩
             · have HG := hid (gives_two (w := w) (w' := w5) (Tb.build_over HNO.out HSO.out (g := g.pr) (by rw [← HPP.out]; exact HPM.out) (by unfold Tb.fits; rw [← HBB.out]; exact hnf)) (HBW2.out.trans ((HE4.out.below.trans (hb5.mono HE4.out.size)).mono HBW2.out.size)))
               clear hnf hb5
               go_wp2_with fail
               go_ret2
               exact HG.out
             have hbl5 : BB.length ≤ 65536 := of_decide_eq_true hf
             obtain ⟨F, hF⟩ : ∃ F, F = Frm.put 68 BB := ⟨_, rfl⟩
             rw [← hF] at hoF ⊢
             have HFE : Hid (F = Tb.putL 68 BB) := hid (by unfold Tb.putL; rw [if_pos hbl5]; exact hF)
             have HFL : Hid (F.length ≤ 100000) := hid (by rw [HFE.out]; exact putL_len 68 BB)
             have HFT : Hid (Tb.fits BB = true) := hid hf
             have HE5 := hid (HE4.out.call hb5)
             have HXLT : Hid (∀ g, blk XA = some g → g < w4.heap.size) := hid (fun g hg => (HE4.out.idx.blk_ge g hg).2)
             have HOF5 := hid hoF
             have HBS5 : Hid (w2.heap.size ≤ w4.heap.size) := hid HE4.out.size
             have cg5 := HCG.out w5 HE5.out.below
             have cl5 := HCL.out w5 HE5.out.below
             have hpn1 : pn = n0 + 1 := HN0.out
             have hsum : IntKind.i64.wrap ((pn : Int) - 1) = (n0 : Int) := by have := HGLL.out; rw [IntKind.wrap_i64]; omega
             have hi0 : (0 : Int) ≤ (n0 : Int) := by omega
             have hi1 : (n0 : Int) < (pn : Int) := by omega
             have HOL : Hid (out.length ≤ 2000000000) := hid (by
               have h1 := (Tb.emits_bd PP HNIL.out HPB.out (by have := HGL.out; omega) k (by have := HGL.out; omega)).1
               rw [HC.out.1]; omega)
             clear hf hbl5 hF hb5 hoF HE4 KF hpn1
             go_wp2_with fail
             go_quiet (fail)
             refine drewN_any ?_
             intro X hbX hXh
             have HEX := hid (HE5.out.call hbX)
             have HOX := hid (HOF5.out.below hbX)
             have hl1 := HOL.out
             have hl2' := HFL.out
             have KN := hid (rnumsT_any X.heap.size 2 [out.length, F.length] (by simp) (by simp; omega) (X.alloc (.cells #[.int .i64 (out.length : Int), .int .i64 (F.length : Int)] 3)) (fun k hk => by
               match k, hk with
               | 0, _ => rw [cell_of_row _ X.heap.size 0 _ _ (0, 0) (heap_alloc_new X _)]; rfl
               | 1, _ => rw [cell_of_row _ X.heap.size 1 _ _ (0, 0) (heap_alloc_new X _)]; rfl) (by simp))
             clear hbX hXh cg5 cl5 hsum hi0 hi1 hl1 hl2' HE5 HOF5
             go_wp2_with fail
             refine KN.out.mono ?_
             rintro e w6 ⟨NA, nc, rfl, hoN, hb6⟩
             obtain ⟨NM, hNM⟩ : ∃ NM, NM = Tb.nums [out.length, F.length] := ⟨_, rfl⟩
             rw [← hNM] at hoN ⊢
             have hb16 : Below X.heap.size X w6 := ((Below.refl _ _).alloc (Nat.le_refl _) _).trans (hb6.mono (by simp))
             have HE6 := hid (HEX.out.call hb16)
             have HOF6 := hid (HOX.out.below hb16)
             have HNO6 : Hid (Own w6 w2.heap.size 5 NA nc NM) := hid (hoN.mono (by have := HEX.out.size; simp; omega))
             have HOFF : Hid (Off [blk OA, blk XA] (blk NA)) := hid (Off.fresh (n := X.heap.size) (fun g hg => by
               have h1 := (hoN.blk_ge g hg).1
               have h2 : X.heap.size + 1 ≤ g := by simpa using h1
               omega) (fun g hg => by
               simp only [List.mem_cons, List.not_mem_nil, or_false] at hg
               rcases hg with h1 | h1
               · exact (HEX.out.out.blk_ge g h1.symm).2
               · exact (HEX.out.idx.blk_ge g h1.symm).2))
             have HIXL : Hid (IX.length ≤ 20000) := hid (by
               have h1 := (Tb.emits_bd PP HNIL.out HPB.out (by have := HGL.out; omega) k (by have := HGL.out; omega)).2.1
               rw [← HC.out.2.1, List.length_map] at h1; omega)
             have HNME := hid hNM
             obtain ⟨q, hq⟩ : ∃ q : Pv, q = ⟨q0.kA, q0.kc, q0.k, NA, nc, NM⟩ := ⟨_, rfl⟩
             have HQE := hid hq
             clear hoN hNM hb6 hb16 HEX HOX KN hq
             go_wp2_with (at_builtin; refine wpList_append_s _ rfl _ _ pairT rfl w2.heap.size XA XC IX rfl (HE6.out.idx.alloc _) (w6.heap.size + 1) (some ⟨w6.heap.size, 0, none⟩) 1 1 [⟨q0.kA, q0.kc, q0.k, NA, nc, NM⟩] rfl rfl (rd_pair_new w6 ⟨q0.kA, q0.kc, q0.k, NA, nc, NM⟩) (by have := HIXL.out; simp; omega) (by have := HIXL.out; unfold maxLen; simp; omega) (by have := HE6.out.size; simp; omega) ?_)
             intro XA' XC' LX w7 hLX hoX hgX hatX
             rw [← HQE.out] at hLX
             have hbA : Below w6.heap.size w6 (w6.alloc (.cells #[.slice q0.kA q0.k.length q0.kc, .slice NA NM.length nc] 77)) := (Below.refl _ _).alloc (Nat.le_refl _) _
             have HE7 : Hid (ER w2 w2.heap.size OA OC out XA' XC' LX w7) := hid (by
               rw [hLX]
               exact (HE6.out.call hbA).app_idx (by rw [HQE.out]; exact HOKQ.out) (by rw [HQE.out]; exact HNO6.out.alloc _) (by rw [HQE.out]; exact HOFF.out) (by rw [← hLX]; exact hoX) hgX (by simpa using hatX))
             have HOF7 := hid ((HOF6.out.alloc _).kept hgX (by
               rcases hx : blk FA with _ | g
               · exact .inl rfl
               · refine .inr (fun e => ?_)
                 have h1 := (HOF6.out.blk_ge g hx).1
                 have h2 := HXLT.out g e.symm
                 omega))
             have HLX := hid hLX
             have hl1 := HOL.out
             have hl2' := HFL.out
             clear hLX hoX hgX hatX hbA HE6 HOF6 HNO6 HOFF
             go_wp2_with (at_builtin; refine wpList_append_b _ rfl _ _ bt rfl w2.heap.size OA OC out rfl HE7.out.out _ FA F.length fc F rfl rfl HOF7.out.rd (by omega) HE7.out.size ?_)
             intro OA' OC' LO w8 hLO hoO hgO hatO
             have HE8 := hid (HE7.out.app_out hoO hgO hatO)
             have HC2 : Hid (LO = (Tb.emits (PP.take (k + 1))).out ∧ LX.map Pv.pr = (Tb.emits (PP.take (k + 1))).index ∧ ∀ j (hj : j < PP.length), j < k + 1 → Tb.fits (Tb.blkB 16 PP[j]) = true) := hid (by
               have hkp : k < PP.length := by have := HGL.out; omega
               have hpk : PP[k] = g.pr := HPK.out
               rw [Tb.emits_succ PP k hkp, Tb.emit_eq _ _ (HNIL.out _ (List.getElem_mem hkp)), hpk, HLAST.out, ← HBB.out, ← HFE.out, ← HC.out.1]
               refine ⟨hLO, ?_, fun j hj h1 => ?_⟩
               · rw [HLX.out, List.map_append, HC.out.2.1, HQE.out, ← HNME.out]; rfl
               · by_cases hjk : j = k
                 · subst hjk; rw [hpk, ← HBB.out]; exact HFT.out
                 · exact HC.out.2.2 j hj (by omega))
             clear hLO hoO hgO hatO HE7 HOF7 hl1 hl2'
             go_wp2_with fail
             go_roundw
             case rel => exact ⟨k + 1, OA', OC', LO, XA', XC', LX, by omega, by go_num, rfl, rfl, HC2, HE8⟩
             case measure => simp [intOf]; omega
           · obtain rfl : k = gs.length := by omega
             obtain ⟨w3, hw3⟩ : ∃ w3, w3 = wr := ⟨_, rfl⟩
             subst hw3
             have hC := HC.out
             rw [show PP.take gs.length = PP by rw [HGL.out, List.take_length]] at hC
             have hfit : ∀ x ∈ PP, Tb.fits (Tb.blkB 16 x) = true := fun x hx => by
               obtain ⟨j, hj, rfl⟩ := List.mem_iff_getElem.1 hx
               exact hC.2.2 j hj (by have := HGL.out; omega)
             have hbd := Tb.emits_bd PP HNIL.out HPB.out (by have := HGL.out; omega) PP.length (Nat.le_refl _)
             rw [List.take_length] at hbd
             have HST : Hid ((⟨out, IX, [], 0, false⟩ : Wr).st = Tb.close (Tb.run size l)) := hid (by
               rw [HCLO.out, Tb.emits_form PP (by intro e; have h1 := HGL.out; rw [e] at h1; simp only [List.length_nil] at h1; omega) HNIL.out hfit]
               simp only [Wr.st, hC.2.1, ← hC.1]; rfl)
             have HOL : Hid (out.length ≤ 2000000000) := hid (by have h1 := hbd.1; rw [← hC.1] at h1; have h2 : PP.length ≤ 20000 := (by have := HGL.out; omega); omega)
             have HIXL : Hid (IX.length ≤ 20000 ∧ ∀ p ∈ IX, p.k.length ≤ 100000 ∧ p.v.length ≤ 100000) := hid ⟨by
               have h1 := hbd.2.1
               rw [← hC.2.1, List.length_map] at h1
               have := HGL.out; omega, fun p hp => by
               have h1 := hbd.2.2 p.pr (by rw [← hC.2.1]; exact List.mem_map.2 ⟨p, hp, rfl⟩)
               exact ⟨Nat.le_trans h1.1 (by omega), Nat.le_trans h1.2 (by omega)⟩⟩
             have hzE : ((bits.toNat : Nat) : Int) = bits := by have := HB6.out; omega
             obtain ⟨B, hB⟩ : ∃ B, B = Blm.build bits.toNat (l.map Rv.k) := ⟨_, rfl⟩
             have KBL := rbbuild_any bits.toNat (by have := HB6.out; omega) (by have := HB6.out; omega) KA KC (l.map Rv.bs) _ ((HRK2.out.below HER.out.below (Nat.le_refl _)).more HER.out.size) (by simp; omega) (fun p hp => by
               obtain ⟨r, hr, rfl⟩ := List.mem_map.1 hp
               have := (Tb.right_iff _).1 (HR.out r hr)
               exact ⟨by show 0 < r.k.length; omega, by show r.k.length ≤ 100000; omega⟩)
             rw [hzE, List.length_map, List.map_map, show (Bs.l ∘ Rv.bs) = Rv.k from rfl, ← hB] at KBL
             have HKBL := hid KBL
             have HBE := hid hB
             have HBL : Hid (B.length ≤ 70368744177664) := hid (by
               rw [hB, ← Blm.upto_all, Blm.upto_len]
               have h1 := HB6.out
               unfold Blm.size
               have : bits.toNat * (l.map Rv.k).length ≤ 32 * 20000 := Nat.mul_le_mul (by omega) (by simp; omega)
               omega)
             clear hC hfit hbd hzE KBL hB
             go_wp2_with fail
             refine HKBL.out.mono ?_
             rintro e w4 ⟨hb4, ⟨hbad, _⟩ | ⟨_, FA, fc, rfl, hoB⟩⟩
             · exact absurd rfl hbad
             have HE4 := hid (HER.out.call hb4)
             have HS4 : Hid (w3.heap.size ≤ w4.heap.size) := hid hb4.size
             have HOB4 := hid hoB
             obtain ⟨XX, hXX⟩ : ∃ XX, XX = Tb.blkB 16 (IX.map Pv.pr) := ⟨_, rfl⟩
             have KX := hid (rblk_bytes XA XC IX w4 HE4.out.rdpv (by have := HIXL.out.1; omega) HIXL.out.2)
             rw [← hXX] at KX
             have HXE := hid hXX
             have HXL : Hid (XX.length ≤ 70368744177664) := hid (by
               rw [hXX]
               refine Nat.le_trans (blkB_len 16 _ (fun p hp => ?_)) (by have := HIXL.out.1; simp; omega)
               obtain ⟨q, hq, rfl⟩ := List.mem_map.1 hp
               exact HIXL.out.2 q hq)
             clear hb4 hoB hXX HKBL
             go_wp2_with fail
             refine KX.out.mono ?_
             rintro e w5 ⟨XB, xc, xe, rfl, hoX, hb5⟩
             have HE5 := hid (HE4.out.call hb5)
             have HS5 : Hid (w4.heap.size ≤ w5.heap.size) := hid hb5.size
             have HOB5 := hid (HOB4.out.below hb5)
             have HOX5 := hid hoX
             clear hb5 hoX KX HE4 HOB4
             go_wp2_with fail
             have hlh := Tb.lohi_bd l HR.out hp l.length (Nat.le_refl _)
             rw [Tb.lowK_all, Tb.highK_all] at hlh
             have hLH := HLH.out
             rw [Tb.lowK_all, Tb.highK_all] at hLH
             obtain ⟨NL, hNL⟩ : ∃ NL : List Nat, NL = [size.toNat, bits.toNat, l.length, (Tb.low l).toNat, (Tb.high l).toNat] := ⟨_, rfl⟩
             have v0 : ((size.toNat : Nat) : Int) = size := by have := HB6.out; omega
             have v1 : ((bits.toNat : Nat) : Int) = bits := by have := HB6.out; omega
             have v3 : (((Tb.low l).toNat : Nat) : Int) = L := by rw [hLH.1]; omega
             have v4 : (((Tb.high l).toNat : Nat) : Int) = H := by rw [hLH.2]; omega
             have KN := hid (rnumsT_any w5.heap.size 5 [size.toNat, bits.toNat, l.length, (Tb.low l).toNat, (Tb.high l).toNat] (by simp) (by
                 intro n hn
                 have := HB6.out
                 simp only [List.mem_cons, List.not_mem_nil, or_false] at hn
                 rcases hn with h | h | h | h | h <;> omega)
               (w5.alloc (.cells #[.int .i64 size, .int .i64 bits, .int .i64 (l.length : Int), .int .i64 L, .int .i64 H] 3)) (fun k hk => by
                 match k, hk with
                 | 0, _ => rw [cell_of_row _ w5.heap.size 0 _ _ (0, 0) (heap_alloc_new w5 _)]; show _ = some (Value.int .i64 ((size.toNat : Nat) : Int)); rw [v0]; rfl
                 | 1, _ => rw [cell_of_row _ w5.heap.size 1 _ _ (0, 0) (heap_alloc_new w5 _)]; show _ = some (Value.int .i64 ((bits.toNat : Nat) : Int)); rw [v1]; rfl
                 | 2, _ => rw [cell_of_row _ w5.heap.size 2 _ _ (0, 0) (heap_alloc_new w5 _)]; rfl
                 | 3, _ => rw [cell_of_row _ w5.heap.size 3 _ _ (0, 0) (heap_alloc_new w5 _)]; show _ = some (Value.int .i64 (((Tb.low l).toNat : Nat) : Int)); rw [v3]; rfl
                 | 4, _ => rw [cell_of_row _ w5.heap.size 4 _ _ (0, 0) (heap_alloc_new w5 _)]; show _ = some (Value.int .i64 (((Tb.high l).toNat : Nat) : Int)); rw [v4]; rfl) (by simp))
             obtain ⟨N, hN⟩ : ∃ N, N = Tb.nums [size.toNat, bits.toNat, l.length, (Tb.low l).toNat, (Tb.high l).toNat] := ⟨_, rfl⟩
             rw [← hN] at KN
             have hNl : N.length ≤ 70368744177664 := by
               have := Tb.nums_len [size.toNat, bits.toNat, l.length, (Tb.low l).toNat, (Tb.high l).toNat] (by
                 intro n hn
                 have := HB6.out
                 simp only [List.mem_cons, List.not_mem_nil, or_false] at hn
                 rcases hn with h | h | h | h | h <;> omega) 5 (by simp)
               rw [List.take_of_length_le (by simp)] at this
               rw [hN]; omega
             have HNE := hid hN
             have HNLn := hid hNl
             clear hlh hLH hNL v0 v1 v3 v4 hN hNl
             have hbase5 := HE5.out.size
             refine KN.out.mono ?_
             rintro e w6 ⟨NA, nc, rfl, hoN, hb6⟩
             have hb56 : Below w5.heap.size w5 w6 := ((Below.refl _ _).alloc (Nat.le_refl _) _).trans (hb6.mono (by simp))
             have HE6 := hid (HE5.out.call hb56)
             have HS6 : Hid (w5.heap.size ≤ w6.heap.size) := hid hb56.size
             have HOB6 := hid (HOB5.out.below hb56)
             have HOX6 := hid (HOX5.out.below hb56)
             have HON6 := hid hoN
             clear hoN hb6 hb56 KN hbase5 HE5 HOB5 HOX5
             go_wp2_with fail
             have hbZ : Below w6.heap.size w6 ((w6.alloc (.cells #[.slice FA B.length fc, .slice XB XX.length xc, .slice NA N.length nc] 22)).alloc (.cells #[.int .u8 70, .int .u8 73, .int .u8 90] 5)) := ((Below.refl _ _).alloc (Nat.le_refl _) _).alloc (by simp) _
             have HE7 := hid (HE6.out.call hbZ)
             have HOB7 := hid (HOB6.out.below hbZ)
             have HOX7 := hid (HOX6.out.below hbZ)
             have HON7 := hid (HON6.out.below hbZ)
             have HGP7 : Hid (((w6.alloc (.cells #[.slice FA B.length fc, .slice XB XX.length xc, .slice NA N.length nc] 22)).alloc (.cells #[.int .u8 70, .int .u8 73, .int .u8 90] 5)).heap[w6.heap.size]? = some (.cells #[.slice FA B.length fc, .slice XB XX.length xc, .slice NA N.length nc] 22)) := hid (by
               have h1 := ((Below.refl _ _).alloc (Nat.le_refl _) (.cells #[.int .u8 70, .int .u8 73, .int .u8 90] 5) : Below (w6.alloc (.cells #[.slice FA B.length fc, .slice XB XX.length xc, .slice NA N.length nc] 22)).heap.size (w6.alloc (.cells #[.slice FA B.length fc, .slice XB XX.length xc, .slice NA N.length nc] 22)) _)
               exact (h1.block w6.heap.size (by simp)).trans (heap_alloc_new w6 _))
             have HGK7 : Hid (((w6.alloc (.cells #[.slice FA B.length fc, .slice XB XX.length xc, .slice NA N.length nc] 22)).alloc (.cells #[.int .u8 70, .int .u8 73, .int .u8 90] 5)).heap[w6.heap.size + 1]? = some (.cells #[.int .u8 70, .int .u8 73, .int .u8 90] 5)) := hid (by
               have h1 := heap_alloc_new (w6.alloc (.cells #[.slice FA B.length fc, .slice XB XX.length xc, .slice NA N.length nc] 22)) (.cells #[.int .u8 70, .int .u8 73, .int .u8 90] 5)
               simpa using h1)
             have HZ7 : Hid (((w6.alloc (.cells #[.slice FA B.length fc, .slice XB XX.length xc, .slice NA N.length nc] 22)).alloc (.cells #[.int .u8 70, .int .u8 73, .int .u8 90] 5)).heap.size = w6.heap.size + 2) := hid (by simp)
             obtain ⟨w7, hw7⟩ : ∃ w7, ((w6.alloc (.cells #[.slice FA B.length fc, .slice XB XX.length xc, .slice NA N.length nc] 22)).alloc (.cells #[.int .u8 70, .int .u8 73, .int .u8 90] 5)) = w7 := ⟨_, rfl⟩
             rw [hw7] at HE7 HOB7 HOX7 HON7 HGP7 HGK7 HZ7 ⊢
             obtain ⟨D, hD⟩ : ∃ D : List (UInt8 × Bs), D = [(70, ⟨FA, fc, B⟩), (73, ⟨XB, xc, XX⟩), (90, ⟨NA, nc, N⟩)] := ⟨_, rfl⟩
             have HD := hid hD
             have HF0 : Hid (FR w7 w2.heap.size w3.heap.size OA OC out w7) := hid ⟨HE7.out.out, fun _ _ _ => rfl, fun g hg => .inl (HER.out.out.blk_ge g hg).2, Below.refl _ _, HE7.out.size, Nat.le_refl _⟩
             clear hw7 hbZ hD
             go_loopw [14, 29, 30, 31] (fun oo i _ _ w8 => ∃ (k : Nat) (OA : Option Addr) (OC : Nat) (o2 : List UInt8), k ≤ 3 ∧ i = .int .i64 (k : Int) ∧ oo = .slice OA o2.length OC ∧ Hid (o2 = out ++ (D.take k).flatMap (fun p => Tb.putL p.1 p.2.l) ∧ ∀ j (hj : j < D.length), j < k → Tb.fits D[j].2.l = true) ∧ Hid (FR w7 w2.heap.size w3.heap.size OA OC o2 w8)) (fun _ i _ _ _ => 3 - (intOf i).toNat)
             case atStart => exact ⟨0, OA, OC, out, by omega, rfl, rfl, hid ⟨by simp, fun j _ h => by omega⟩, HF0⟩
             case round =>
               obtain ⟨k, OA4, OC4, o2, hk, rfl, rfl, HC4, HFR⟩ := hrel
               have HFC := hid (fun (hlt : k < 3) => four_cells HFR.out (Nat.le_trans HS4.out (Nat.le_trans HS5.out HS6.out)) HZ7.out HGP7.out HGK7.out HOB7.out HOX7.out HON7.out (Nat.le_refl _) HS4.out (Nat.le_trans HS4.out (Nat.le_trans HS5.out (by simp))) k hlt)
               have HFE := hid (four_end (tb_end HNO.out HSO.out ⟨out, IX, [], 0, false⟩ HST.out B XX N HBE.out HXE.out HNE.out) D HD.out)
               have HW8 : Hid (Below w.heap.size w wr) := hid (HBW2.out.trans ((HE7.out.below.trans HFR.out.below).mono HBW2.out.size))
               have HBWZ : Hid (w.heap.size ≤ w2.heap.size) := hid HBW2.out.size
               have HDE : Hid (∀ d, [((70, ⟨FA, fc, B⟩) : UInt8 × Bs), (73, ⟨XB, xc, XX⟩), (90, ⟨NA, nc, N⟩)][k]? = some d → ∃ h : k < D.length, D[k] = d) := hid (fun d hd => by
                 rw [← HD.out] at hd
                 obtain ⟨h1, h2⟩ := List.getElem?_eq_some_iff.1 hd
                 exact ⟨h1, h2⟩)
               have HDS : Hid (∀ d ∈ D, d.2.l.length ≤ 70368744177664) := hid (fun d hd => by
                 rw [HD.out] at hd
                 simp only [List.mem_cons, List.not_mem_nil, or_false] at hd
                 rcases hd with rfl | rfl | rfl
                 · exact HBL.out
                 · exact HXL.out
                 · exact HNLn.out)
               have HOL4 : Hid (o2.length ≤ 2000500000) := hid (by
                 have h1 := HOL.out
                 have h2 : ((D.take k).flatMap (fun p => Tb.putL p.1 p.2.l)).length ≤ k * 100000 := by
                   refine Nat.le_trans (len_flat (c := 100000) _ (fun p _ => putL_len p.1 p.2.l)) ?_
                   exact Nat.mul_le_mul_right _ (List.length_take_le _ _)
                 rw [HC4.out.1, List.length_append]
                 have h3 : k * 100000 ≤ 3 * 100000 := Nat.mul_le_mul_right _ hk
                 omega)
               by_cases hlt : k < 3
               · obtain ⟨d, hd, cp, ck, hrd⟩ := HFC.out hlt
                 obtain ⟨hdl, hde⟩ := HDE.out d hd
                 have hdm : d ∈ D := by rw [← hde]; exact List.getElem_mem hdl
                 have hds := HDS.out d hdm
                 have HDM := hid hdm
                 have HDL : Hid (∃ h : k < D.length, D[k] = d) := hid ⟨hdl, hde⟩
                 have HHH : Hid (∀ w', Below wr.heap.size wr w' → RdB w' w'.heap.size d.2.A d.2.l) := hid (fun w' hb => (hrd.below hb (Nat.le_refl _)).more hb.size)
                 have hi0 : (0 : Int) ≤ (k : Int) := by omega
                 have hi1 : (k : Int) < 3 := by omega
                 have HZW : Hid (w6.heap.size + 1 < wr.heap.size) := hid (by have := HFR.out.size; rw [HZ7.out] at this; omega)
                 have HKEEP : Hid (∀ w', Below wr.heap.size wr w' → w'.cell? ⟨w6.heap.size, k, none⟩ = some (.slice d.2.A d.2.l.length d.2.c) ∧ w'.cell? ⟨w6.heap.size + 1, k, none⟩ = some (.int .u8 (d.1.toNat : Int)) ∧ Below wr.heap.size wr w') := hid (fun w' hb =>
                   ⟨(hb.cell (p := ⟨w6.heap.size, k, none⟩) (by have := HZW.out; simp; omega)).trans cp, (hb.cell (p := ⟨w6.heap.size + 1, k, none⟩) (by have := HZW.out; simpa using this)).trans ck, hb⟩)
                 by_cases hfit : d.2.l.length ≤ 65536
                 · have KP : Hid (∀ w', Below wr.heap.size wr w' → _) := hid (fun w' hb => rfput_yes d.1 d.2.A d.2.c d.2.l w' (HHH.out w' hb) hfit)
                   have HC5 : Hid (o2 ++ Frm.put d.1 d.2.l = out ++ (D.take (k + 1)).flatMap (fun p => Tb.putL p.1 p.2.l) ∧ ∀ j (hj : j < D.length), j < k + 1 → Tb.fits D[j].2.l = true) := hid ⟨by
                     rw [List.take_succ_eq_append_getElem hdl, hde, List.flatMap_append, HC4.out.1, List.append_assoc]
                     simp [Tb.putL, hfit], fun j hj h1 => by
                     by_cases hjk : j = k
                     · subst hjk; rw [hde]; simp [Tb.fits, hfit]
                     · exact HC4.out.2 j hj (by omega)⟩
                   have HPL : Hid ((Frm.put d.1 d.2.l).length ≤ 100000) := hid (by have := putL_len d.1 d.2.l; unfold Tb.putL at this; rwa [if_pos hfit] at this)
                   obtain ⟨F, hF⟩ : ∃ F, F = Frm.put d.1 d.2.l := ⟨_, rfl⟩
                   rw [← hF] at HC5 HPL KP
                   obtain ⟨⟨kx, dA, dc, dl⟩, hdd⟩ : ∃ d', d' = d := ⟨_, rfl⟩
                   subst hdd
                   simp only at cp ck HKEEP KP
                   obtain ⟨kn, hkn⟩ : ∃ kn, kn = kx.toNat := ⟨_, rfl⟩
                   rw [← hkn] at ck HKEEP KP
                   clear hF hd hdl hde hdm hds hrd hfit HDL HDM HHH hkn
                   go_wp2_with fail
                   go_region_held (fun w' => w'.cell? ⟨w6.heap.size, k, none⟩ = some (.slice dA dl.length dc) ∧ w'.cell? ⟨w6.heap.size + 1, k, none⟩ = some (.int .u8 (kn : Int)) ∧ Below wr.heap.size wr w')
                     (first | exact HKEEP.out _ ((Below.refl _ _).drew) | exact HKEEP.out _ B3)
                     (first | (go_at_call 69; refine (KP.out _ (by go_split_ands; assumption)).mono ?_; rintro e w1 ⟨FA5, fc5, rfl, ho5, hb1⟩; have B3 := Below.trans (b := _) (by go_split_ands; assumption : Below wr.heap.size wr _) (hb1.mono (by go_split_ands; exact Below.size (by assumption)))))
                   have HFR5 := hid (HFR.out.call B3)
                   have HOF := hid ho5
                   have hl1 := HOL4.out
                   have hl2' := HPL.out
                   clear cp ck B3 ho5 hb1 KP HKEEP
                   go_wp2_with (at_builtin; refine wpList_append_b _ rfl _ _ bt rfl w2.heap.size OA4 OC4 o2 rfl HFR5.out.out _ FA5 F.length fc5 F rfl rfl HOF.out.rd (by omega) (Nat.le_trans HFR5.out.base HFR5.out.size) ?_)
                   intro OA5 OC5 LO w9 hLO hoO hgO hatO
                   have HFR6 := hid (HFR5.out.app hoO hgO hatO)
                   rw [← hLO] at HC5
                   clear hLO hoO hgO hatO hl1 hl2' HFR5 HOF
                   go_wp2_with fail
                   go_roundw
                   case rel => exact ⟨k + 1, OA5, OC5, LO, by omega, by go_num, rfl, HC5, HFR6⟩
                   case measure => simp [intOf]; omega
                 · have KP : Hid (∀ w', Below wr.heap.size wr w' → _) := hid (fun w' hb => rfput_no d.1 d.2.A d.2.c d.2.l w' (HHH.out w' hb) hds hfit)
                   have HG : Hid (∀ w', Below wr.heap.size wr w' → GivesR w (Tb.build l size bits).1 (Tb.build l size bits).2 (.returned (.tuple #[.slice none 0 0, .int .i64 2])) w') := hid (fun w' hb => gives_two (HFE.out.2 d hdm hfit) (HW8.out.trans (hb.mono HW8.out.size)))
                   obtain ⟨⟨kx, dA, dc, dl⟩, hdd⟩ : ∃ d', d' = d := ⟨_, rfl⟩
                   subst hdd
                   simp only at cp ck HKEEP KP
                   obtain ⟨kn, hkn⟩ : ∃ kn, kn = kx.toNat := ⟨_, rfl⟩
                   rw [← hkn] at ck HKEEP KP
                   clear hd hdl hde hdm hds hrd hfit HDL HDM HHH hkn
                   go_wp2_with fail
                   go_region_held (fun w' => w'.cell? ⟨w6.heap.size, k, none⟩ = some (.slice dA dl.length dc) ∧ w'.cell? ⟨w6.heap.size + 1, k, none⟩ = some (.int .u8 (kn : Int)) ∧ Below wr.heap.size wr w')
                     (first | exact HKEEP.out _ ((Below.refl _ _).drew) | exact HKEEP.out _ B3)
                     (first | (go_at_call 69; refine (KP.out _ (by go_split_ands; assumption)).mono ?_; rintro e w1 ⟨rfl, hb1⟩; have B3 := Below.trans (b := _) (by go_split_ands; assumption : Below wr.heap.size wr _) (hb1.mono (by go_split_ands; exact Below.size (by assumption)))))
                   go_wp2_with fail
                   go_ret2
                   exact HG.out _ B3
               · obtain rfl : k = 3 := by omega
                 have h9 := (HFE.out.1 (HC4.out.2))
                 rw [← HC4.out.1] at h9
                 have HG := hid (gives_well (w := w) h9 HW8.out (HFR.out.out.mono HBWZ.out))
                 clear h9 hlt
                 go_wp2_with fail
                 go_ret2
                 exact HG.out
theorem recT : RT Tryz.prog 23 35 Rv.cells 4 64 (.agg #[.slice none 0 0, .int .i64 0, .bool false, .slice none 0 0]) :=
 ⟨Tryz.underlying23, by kernel_rfl, fun _ => rfl, fun _ u hu => by simp [Rv.cells] at hu; rcases hu with h | h | h | h <;> (subst h; rfl), by omega, rfl⟩
structure OpR (w1 : World) (base : Nat) (A : Option Addr) (c : Nat) (R : List Rv) (wr : World) : Prop where
 row : OwnS Rv.cells 4 wr base 35 A c R
 inn : ∀ r ∈ R, (HBs wr base r.kA r.k ∧ r.k.length ≤ r.kc ∧ HBs wr base r.vA r.v ∧ r.v.length ≤ r.vc) ∧ r.k.length ≤ 70000 ∧ r.v.length ≤ 70000
 below : Below base w1 wr
 size : base ≤ wr.heap.size
section
variable {w1 wr w2 : World} {base c c' : Nat} {A A' : Option Addr} {R : List Rv} {r : Rv}
theorem OpR.start (w1 : World) : OpR w1 w1.heap.size none 0 [] w1 := ⟨OwnS.nil _ _ _, (fun _ hr => by cases hr), Below.refl _ _, Nat.le_refl _⟩
theorem OpR.call (h : OpR w1 base A c R wr) (hb : Below wr.heap.size wr w2) : OpR w1 base A c R w2 :=
 ⟨h.row.below hb, fun r hr => by
   obtain ⟨⟨h1, h2, h3, h4⟩, h5⟩ := h.inn r hr
   exact ⟨⟨h1.below hb, h2, h3.below hb, h4⟩, h5⟩, h.below.trans (hb.mono h.size), Nat.le_trans h.size hb.size⟩
theorem OpR.nob (h : OpR w1 base A c R wr) : NoB wr (blk A) := h.row.nob (by decide)
theorem OpR.ge (h : OpR w1 base A c R wr) : ∀ g, blk A = some g → base ≤ g := fun _ hg => (ownS_tag h.row hg).1
theorem OpR.app (h : OpR w1 base A c R wr) (hr : (HBs wr base r.kA r.k ∧ r.k.length ≤ r.kc ∧ HBs wr base r.vA r.v ∧ r.v.length ≤ r.vc) ∧ r.k.length ≤ 70000 ∧ r.v.length ≤ 70000)
   (ho : OwnS Rv.cells 4 w2 base 35 A' c' (R ++ [r])) (hg : wr.grownBy w2 (blk A)) : OpR w1 base A' c' (R ++ [r]) w2 := by
 have key : ∀ q : Rv, ((HBs wr base q.kA q.k ∧ q.k.length ≤ q.kc ∧ HBs wr base q.vA q.v ∧ q.v.length ≤ q.vc) ∧ q.k.length ≤ 70000 ∧ q.v.length ≤ 70000) → ((HBs w2 base q.kA q.k ∧ q.k.length ≤ q.kc ∧ HBs w2 base q.vA q.v ∧ q.v.length ≤ q.vc) ∧ q.k.length ≤ 70000 ∧ q.v.length ≤ 70000) := fun q hq => by
   obtain ⟨⟨h1, h2, h3, h4⟩, h5⟩ := hq
   exact ⟨⟨h1.grown hg h.nob h.ge, h2, h3.grown hg h.nob h.ge, h4⟩, h5⟩
 refine ⟨ho, fun q hq => ?_, h.below.grown hg h.size h.ge, Nat.le_trans h.size hg.size⟩
 simp only [List.mem_append, List.mem_singleton] at hq
 rcases hq with hq | hq
 · exact key q (h.inn q hq)
 · rw [hq]; exact key r hr
theorem OpR.rd (h : OpR w1 base A c R wr) : RdRv wr wr.heap.size A R := ⟨h.row.rd, fun r hr => by
 obtain ⟨⟨h1, h2, h3, h4⟩, _⟩ := h.inn r hr
 exact ⟨h1.rd, h3.rd, h2, h4⟩⟩
theorem OwnPv.kept_rec {l : List Pv} {PA : Option Addr} {pc pb : Nat} (h : OwnPv wr pb PA pc l) (hR : OwnS Rv.cells 4 wr base 35 A c R) (hg : wr.grownBy w2 (blk A)) : OwnPv w2 pb PA pc l := by
 refine ⟨h.row.kept_ne (T := 35) hg (fun _ hgg => (ownS_tag hR hgg).2) (by decide), fun p hp => ?_⟩
 have hnb : NoB wr (blk A) := hR.nob (by decide)
 exact ⟨(h.own p hp).1.kept_tag hg hnb, (h.own p hp).2.kept_tag hg hnb⟩
theorem Own.hbs {l : List UInt8} (h : Own wr base 5 A c l) {b0 : Nat} : HBs wr b0 A l := ⟨h.rd, fun _ _ hg => .inr (own_tag h hg).2⟩
end
theorem rd_rec_new (w : World) (r : Rv) : RdS Rv.cells 4 (w.alloc (.cells #[.slice r.kA r.k.length r.kc, .int .i64 r.seq, .bool r.del, .slice r.vA r.v.length r.vc] 35)) (w.heap.size + 1) (some ⟨w.heap.size, 0, none⟩) [r] := by
 refine RdS.of (f := Rv.cells) (n := 4) (l := [r]) (fun _ => rfl) _ 0 (by omega) (fun k hk j u hj => ?_)
 obtain rfl : k = 0 := by simp at hk; exact hk
 have hj' : r.cells[j]? = some u := hj
 rw [cell_of_row _ w.heap.size _ _ _ (0, 0) (heap_alloc_new w _)]
 simpa [Rv.cells] using hj'
theorem rd_rec_new2 (w : World) (o : Obj) (r : Rv) : RdS Rv.cells 4 ((w.alloc o).alloc (.cells #[.slice r.kA r.k.length r.kc, .int .i64 r.seq, .bool r.del, .slice r.vA r.v.length r.vc] 35)) (w.heap.size + 2) (some ⟨w.heap.size + 1, 0, none⟩) [r] := by
 have := rd_rec_new (w.alloc o) r
 simpa using this
def OpenP (w : World) (b : List UInt8) (e : Ending) (w' : World) : Prop := Below w.heap.size w w' ∧
 ((e = .returned (.tuple #[.slice none 0 0, .int .i64 3]) ∧ ∀ l s t, ¬ Tb.Is b l s t) ∨
  (∃ (R : List Rv) (A : Option Addr) (c : Nat) (s t : Int), e = .returned (.tuple #[.slice A R.length c, .int .i64 0]) ∧ RdRv w' w'.heap.size A R ∧ Tb.Is b R s t ∧ ∀ l s t, Tb.Is b l s t → l.map Rv.core = R.map Rv.core))
theorem openP_no {w w' : World} {b : List UInt8} (hb : Below w.heap.size w w') (h : ∀ l s t, ¬ Tb.Is b l s t) : OpenP w b (.returned (.tuple #[.slice none 0 0, .int .i64 3])) w' := ⟨hb, .inl ⟨rfl, h⟩⟩
namespace Tb
theorem scan_no {b r : List UInt8} {L : List (UInt8 × List UInt8)} (hs : Frm.Scans b L r) (hn : Frm.take r = none) (h : r ≠ [] ∨ L.length < 4) (l : List Rv) (s t : Int) : ¬ Is b l s t := fun hi => by
 obtain ⟨e, gs, hf⟩ := hi.scanned hs hn
 have := hf.len
 rcases h with h | h
 · exact h e
 · omega
theorem NR.start {b r : List UInt8} {L : List (UInt8 × List UInt8)} (hs : Frm.Scans b L r) (hn : Frm.take r = none) {p : UInt8 × List UInt8} (hp : L[L.length - 1]? = some p) : NR b [] p.2 := fun l s t hi => by
 obtain ⟨_, gs, hf⟩ := hi.scanned hs hn
 exact ⟨five l s t, rfl, hf.foot hp⟩
theorem TR.fewP {b : List UInt8} {L : List (UInt8 × List UInt8)} {i : Nat} {R : List Rv} {P : List Pr} (h : TR b L i 0 R) (hb : BR b L i P) {r : List UInt8} (hs : Frm.Scans b L r) (hn : Frm.take r = none) {l : List Rv} {s t : Int} (hi : Is b l s t) : R.length + P.length ≤ 20000 := by
 obtain ⟨_, gs, hf⟩ := hi.scanned hs hn
 obtain ⟨h1, _⟩ := h l s t gs hi hf
 obtain ⟨hx, e⟩ := List.getElem?_eq_some_iff.1 (hb l s t gs hi hf)
 have h3 := hi.unf.l2
 have h4 := congrArg List.length hf.flat
 rw [List.length_map] at h4
 have e2 : gs = gs.take i ++ gs[i] :: gs.drop (i + 1) := by rw [List.getElem_cons_drop, List.take_append_drop]
 have h5 := congrArg (fun x => x.flatten.length) e2
 simp only [List.flatten_append, List.flatten_cons, List.length_append] at h5
 rw [e] at h5
 omega
theorem last_no {b : List UInt8} {L : List (UInt8 × List UInt8)} {R : List Rv} (h : TR b L (L.length - 3) 0 R) {r : List UInt8} (hs : Frm.Scans b L r) (hn : Frm.take r = none) {s0 t0 : Int} (hst : ∀ l s t, Is b l s t → s = s0 ∧ t = t0) (hno : build R s0 t0 ≠ (0, b)) (l : List Rv) (s t : Int) : ¬ Is b l s t := fun hi => by
 have e := h.all hs hn hi
 obtain ⟨rfl, rfl⟩ := hst l s t hi
 exact hno ((build_core e _ _).symm.trans hi)
end Tb
def Ptc (g : Nat) : List Value := [.pointer (some ⟨g, 0, none⟩)]
theorem ptrT : RT Tryz.prog 65 79 Ptc 1 8 (.pointer none) :=
 ⟨Tryz.underlying65, by kernel_rfl, fun _ => rfl, fun _ u hu => by simp [Ptc] at hu; subst hu; rfl, by omega, rfl⟩
theorem rd_ptr_new (w : World) (g : Nat) : RdS Ptc 1 (w.alloc (.cells #[.pointer (some ⟨g, 0, none⟩)] 79)) (w.heap.size + 1) (some ⟨w.heap.size, 0, none⟩) [g] := by
 refine RdS.of (f := Ptc) (n := 1) (l := [g]) (fun _ => rfl) _ 0 (by omega) (fun k hk j u hj => ?_)
 obtain rfl : k = 0 := by simp at hk; exact hk
 have hj' : (Ptc g)[j]? = some u := hj
 rw [cell_of_row _ w.heap.size _ _ _ (0, 0) (heap_alloc_new w _)]
 simpa [Ptc] using hj'
theorem rd_ptr_new2 (w : World) (o : Obj) (g : Nat) : RdS Ptc 1 ((w.alloc o).alloc (.cells #[.pointer (some ⟨g, 0, none⟩)] 79)) (w.heap.size + 2) (some ⟨w.heap.size + 1, 0, none⟩) [g] := by
 have := rd_ptr_new (w.alloc o) g
 simpa using this
def tbObj (PA : Option Addr) (pn PC : Nat) (F m2 m3 m4 : Value) : Obj := .cells #[.slice PA pn PC, F, m2, m3, m4, .int .i64 0] 72
structure Pq where
 g : Nat
 A : Option Addr
 c : Nat
 b : List UInt8
 kA : Option Addr
 kc : Nat
 k : List UInt8
def Pq.obj (p : Pq) (d s : Int) (r : Value) : Obj := .cells #[.slice p.A p.b.length p.c, .slice p.kA p.k.length p.kc, .int .u32 d, .int .i32 s, .int .u32 0, r] 91
structure PqB (wr : World) (base : Nat) (p : Pq) : Prop where
 ge : base ≤ p.g
 hb : HBs wr base p.A p.b
 fit : p.b.length ≤ 65536
 c1 : p.b.length ≤ p.c
 c2 : p.c ≤ 9223372036854775807
 hk : HBs wr base p.kA p.k
 k0 : p.k.length ≤ 100000
 k1 : p.k.length ≤ p.kc
structure PqF (wr : World) (base : Nat) (p : Pq) : Prop where
 mem : PqB wr base p
 box : wr.heap[p.g]? = some (p.obj 0 0 (.slice none 0 0))
section
variable {wr w2 : World} {base : Nat} {p : Pq} {row : Option Nat}
theorem PqB.call (h : PqB wr base p) (hb : Below wr.heap.size wr w2) : PqB w2 base p := { h with hb := h.hb.below hb, hk := h.hk.below hb }
theorem PqB.grown (h : PqB wr base p) (hg : wr.grownBy w2 row) (hr : NoB wr row) (hb : ∀ g, row = some g → base ≤ g) : PqB w2 base p := { h with hb := h.hb.grown hg hr hb, hk := h.hk.grown hg hr hb }
theorem PqB.set_tag {g o : Nat} {cs : Array Value} {T : TypeId} {fr : Nat × Nat} {u : Value} (h : PqB wr base p) (hb : wr.heap[g]? = some (.cells cs T fr)) (hT : T ≠ 5) (hg : base ≤ g) : PqB (wr.setCell ⟨g, o, none⟩ u) base p := { h with hb := h.hb.set_tag hb hT hg, hk := h.hk.set_tag hb hT hg }
theorem PqF.call (h : PqF wr base p) (hb : Below wr.heap.size wr w2) : PqF w2 base p := ⟨h.mem.call hb, (hb.block _ (Array.getElem?_eq_some_iff.1 h.box).1).trans h.box⟩
theorem PqF.grown (h : PqF wr base p) (hg : wr.grownBy w2 row) {T : TypeId} (hr : ∀ g, row = some g → ∃ cs fr, wr.heap[g]? = some (.cells cs T fr)) (hT : T ≠ 5) (hT2 : T ≠ 91) (hb : ∀ g, row = some g → base ≤ g) : PqF w2 base p := by
 refine ⟨h.mem.grown hg (fun g e => ?_) hb, (hg.block _ (Array.getElem?_eq_some_iff.1 h.box).1 (fun e => ?_)).trans h.box⟩
 · obtain ⟨cs, fr, h1⟩ := hr g e
   exact ⟨cs, T, fr, h1, hT⟩
 · obtain ⟨cs, fr, h1⟩ := hr p.g e.symm
   exact tag_ne2 h.box h1 (fun e => hT2 e.symm) rfl
theorem PqF.set_tag {g o : Nat} {cs : Array Value} {T : TypeId} {fr : Nat × Nat} {u : Value} (h : PqF wr base p) (hb : wr.heap[g]? = some (.cells cs T fr)) (hT : T ≠ 5) (hT2 : T ≠ 91) (hg : base ≤ g) : PqF (wr.setCell ⟨g, o, none⟩ u) base p :=
 ⟨h.mem.set_tag hb hT hg, (heap_setD _ (tag_ne2 h.box hb (fun e => hT2 e.symm))).trans h.box⟩
end
structure OpT (Y : World) (base gt : Nat) (F m2 m3 m4 : Value) (RA : Option Addr) (RC : Nat) (R : List Rv) (PA : Option Addr) (PC : Nat) (ps : List Pq) (wr : World) : Prop where
 recs : OpR Y base RA RC R wr
 box : wr.heap[gt]? = some (tbObj PA ps.length PC F m2 m3 m4)
 row : OwnS Ptc 1 wr base 79 PA PC (ps.map Pq.g)
 ge : base ≤ gt
 parts : ∀ p ∈ ps, PqF wr base p
 nd : (ps.map Pq.g).Nodup
section
variable {Y wr w2 : World} {base gt RC RC' PC PC' : Nat} {F m2 m3 m4 : Value} {RA RA' PA PA' : Option Addr} {R : List Rv} {r : Rv} {ps : List Pq} {p : Pq}
theorem OpT.call (h : OpT Y base gt F m2 m3 m4 RA RC R PA PC ps wr) (hb : Below wr.heap.size wr w2) : OpT Y base gt F m2 m3 m4 RA RC R PA PC ps w2 :=
 ⟨h.recs.call hb, (hb.block _ (Array.getElem?_eq_some_iff.1 h.box).1).trans h.box, h.row.below hb, h.ge, fun p hp => (h.parts p hp).call hb, h.nd⟩
theorem OpT.app_rec (h : OpT Y base gt F m2 m3 m4 RA RC R PA PC ps wr) (hr : (HBs wr base r.kA r.k ∧ r.k.length ≤ r.kc ∧ HBs wr base r.vA r.v ∧ r.v.length ≤ r.vc) ∧ r.k.length ≤ 70000 ∧ r.v.length ≤ 70000)
   (ho : OwnS Rv.cells 4 w2 base 35 RA' RC' (R ++ [r])) (hg : wr.grownBy w2 (blk RA)) : OpT Y base gt F m2 m3 m4 RA' RC' (R ++ [r]) PA PC ps w2 := by
 refine ⟨h.recs.app hr ho hg, ?_, h.row.kept_ne (T := 35) hg (fun _ hgg => (ownS_tag h.recs.row hgg).2) (by decide), h.ge, fun p hp => (h.parts p hp).grown (T := 35) hg (fun _ hgg => (ownS_tag h.recs.row hgg).2) (by decide) (by decide) h.recs.ge, h.nd⟩
 refine (hg.block gt (Array.getElem?_eq_some_iff.1 h.box).1 (fun e => ?_)).trans h.box
 obtain ⟨_, cs, fr, h1⟩ := ownS_tag h.recs.row e.symm
 exact tag_ne2 h.box h1 (by decide) rfl
theorem OpR.kept_ptr {gs : List Nat} (h : OpR Y base RA RC R wr) (hp : OwnS Ptc 1 wr base 79 PA PC gs) (hg : wr.grownBy w2 (blk PA)) : OpR Y base RA RC R w2 := by
 have hnb : NoB wr (blk PA) := hp.nob (by decide)
 have hge : ∀ g, blk PA = some g → base ≤ g := fun _ hgg => (ownS_tag hp hgg).1
 refine ⟨h.row.kept_ne (T := 79) hg (fun _ hgg => (ownS_tag hp hgg).2) (by decide), fun q hq => ?_, h.below.grown hg h.size hge, Nat.le_trans h.size hg.size⟩
 obtain ⟨⟨h1, h2, h3, h4⟩, h5⟩ := h.inn q hq
 exact ⟨⟨h1.grown hg hnb hge, h2, h3.grown hg hnb hge, h4⟩, h5⟩
theorem ownS_set {α : Type} {f : α → List Value} {n c : Nat} {e T : TypeId} {A : Option Addr} {l : List α} {cs : Array Value} {fr : Nat × Nat} {u : Value} {o : Nat} (h : OwnS f n wr base e A c l) (hb : wr.heap[gt]? = some (.cells cs T fr)) (hT : e ≠ T) : OwnS f n (wr.setCell ⟨gt, o, none⟩ u) base e A c l := h.keep (fun k hk => by
 obtain ⟨_, cs', fr', h1⟩ := ownS_tag h hk
 exact heap_setD _ (tag_ne2 h1 hb hT))
theorem OpR.set_tab (h : OpR Y base RA RC R wr) {cs : Array Value} {fr : Nat × Nat} (hb : wr.heap[gt]? = some (.cells cs 72 fr)) (hge : base ≤ gt) {u : Value} {o : Nat} : OpR Y base RA RC R (wr.setCell ⟨gt, o, none⟩ u) := by
 refine ⟨ownS_set h.row hb (by decide), fun q hq => ?_, h.below.setCell hge _, by simpa using h.size⟩
 obtain ⟨⟨h1, h2, h3, h4⟩, h5⟩ := h.inn q hq
 exact ⟨⟨h1.set_tag hb (by decide) hge, h2, h3.set_tag hb (by decide) hge, h4⟩, h5⟩
theorem heap_set6 {w : World} {x0 x1 x2 x3 x4 x5 v : Value} {T : TypeId} (h : w.heap[gt]? = some (.cells #[x0, x1, x2, x3, x4, x5] T)) : (w.setCell ⟨gt, 0, none⟩ v).heap[gt]? = some (.cells #[v, x1, x2, x3, x4, x5] T) := by
 have := heap_setCell_same w gt 0 _ T v h
 simpa using this
theorem OpT.app_part (h : OpT Y base gt F m2 m3 m4 RA RC R PA PC ps wr) (hf : PqF wr base p) (hnew : ∀ q ∈ ps, q.g ≠ p.g) (ho : OwnS Ptc 1 w2 base 79 PA' PC' (ps.map Pq.g ++ [p.g])) (hg : wr.grownBy w2 (blk PA)) : OpT Y base gt F m2 m3 m4 RA RC R PA' PC' (ps ++ [p]) (w2.setCell ⟨gt, 0, none⟩ (.slice PA' (ps.length + 1) PC')) := by
 have hbox : w2.heap[gt]? = some (tbObj PA ps.length PC F m2 m3 m4) := by
   refine (hg.block gt (Array.getElem?_eq_some_iff.1 h.box).1 (fun e => ?_)).trans h.box
   obtain ⟨_, cs, fr, h1⟩ := ownS_tag h.row e.symm
   exact tag_ne2 h.box h1 (by decide) rfl
 have hp : ∀ q, PqF wr base q → PqF (w2.setCell ⟨gt, 0, none⟩ (.slice PA' (ps.length + 1) PC')) base q := fun q hq =>
   (hq.grown (T := 79) hg (fun _ hgg => (ownS_tag h.row hgg).2) (by decide) (by decide) (fun g hgg => (ownS_tag h.row hgg).1)).set_tag hbox (by decide) (by decide) h.ge
 refine ⟨(h.recs.kept_ptr h.row hg).set_tab hbox h.ge, ?_, ?_, h.ge, fun q hq => ?_, ?_⟩
 · rw [List.length_append]; exact heap_set6 hbox
 · rw [List.map_append]; exact ownS_set ho hbox (by decide)
 · simp only [List.mem_append, List.mem_singleton] at hq
   rcases hq with hq | hq
   · exact hp q (h.parts q hq)
   · rw [hq]; exact hp p hf
 · rw [List.map_append]
   refine List.nodup_append.2 ⟨h.nd, by simp, fun a ha b hb => ?_⟩
   obtain ⟨q, hq, rfl⟩ := List.mem_map.1 ha
   simp only [List.map_cons, List.map_nil, List.mem_singleton] at hb
   rw [hb]
   exact hnew q hq
end
theorem bytesEq_any (A B : Option Addr) (ca cb : Nat) (a b : List UInt8) (w : World) (ha : RdB w w.heap.size A a) (hb : RdB w w.heap.size B b) :
   Calls Tryz.prog 27 #[.slice A a.length ca, .slice B b.length cb] w fun e w' => e = .returned (.bool (a == b)) ∧ w = w' := by
 have s1 := strB_of (c := ca) ha
 have s2 := strB_of (c := cb) hb
 unfold StrB at s1 s2
 obtain ⟨SA, hSA⟩ : ∃ SA : ByteArray, SA = ⟨a.toArray⟩ := ⟨_, rfl⟩
 obtain ⟨SB, hSB⟩ : ∃ SB : ByteArray, SB = ⟨b.toArray⟩ := ⟨_, rfl⟩
 rw [← hSA] at s1
 rw [← hSB] at s2
 by_cases hab : a = b
 · have hss : SB = SA := by rw [hSA, hSB, hab]
   have HE : Hid ((a == b) = true) := hid (by simpa using hab)
   subst hss
   clear hSA hSB hab ha hb
   go_enter Tryz.func27, Tryz.ntmps27
   go_wp2_with fail
   go_ret
   rw [HE.out]
   exact ⟨by simp, rfl⟩
 · have hne := str_ne hSA.symm hSB.symm hab
   have HE : Hid ((a == b) = false) := hid (by simpa using hab)
   clear hSA hSB hab ha hb
   go_enter Tryz.func27, Tryz.ntmps27
   go_wp2_with fail
   go_ret
   rw [HE.out]
   exact ⟨by simp, rfl⟩
namespace Tb
theorem split_flat {α β : Type} (f : α → β) : ∀ (gs : List (List β)) (l : List α), gs.flatten = l.map f → ∃ ls : List (List α), ls.flatten = l ∧ gs = ls.map (List.map f)
 | [], l, h => by
   have : l = [] := by
     have h1 := congrArg List.length h
     simp at h1
     exact List.length_eq_zero_iff.1 h1.symm
   exact ⟨[], by rw [this]; rfl, rfl⟩
 | g :: gs, l, h => by
   rw [List.flatten_cons] at h
   have h1 : g = (l.take g.length).map f := by
     rw [List.map_take, ← h, List.take_left']
     rfl
   have h2 : gs.flatten = (l.drop g.length).map f := by
     rw [List.map_drop, ← h, List.drop_left']
     rfl
   obtain ⟨ls, e1, e2⟩ := split_flat f gs _ h2
   exact ⟨l.take g.length :: ls, by rw [List.flatten_cons, e1, List.take_append_drop], by rw [List.map_cons, ← h1, ← e2]⟩
end Tb
structure RecsAt (w : World) (base : Nat) (A : Option Addr) (c : Nat) (l : List Rv) : Prop where
 row : OwnS Rv.cells 4 w base 35 A c l
 inn : ∀ r ∈ l, (HBs w base r.kA r.k ∧ r.k.length ≤ r.kc ∧ HBs w base r.vA r.v ∧ r.v.length ≤ r.vc) ∧ r.k.length ≤ 70000 ∧ r.v.length ≤ 70000
structure PqR (p : Pq) (rs : List Rv) : Prop where
 wf : Blk.WFb p.b (rs.map Tb.inner)
 ne : rs ≠ []
 rt : ∀ r ∈ rs, Tb.right r = true
 last : Blk.lastK (rs.map Tb.inner) = p.k
structure PqA (w : World) (base : Nat) (F : Nat → Prop) (p : Pq) (rs : List Rv) : Prop where
 mem : PqB w base p
 st : w.heap[p.g]? = some (p.obj 0 0 (.slice none 0 0)) ∨ ∃ (A : Option Addr) (c : Nat) (l : List Rv), w.heap[p.g]? = some (p.obj 1 0 (.slice A l.length c)) ∧ RecsAt w base A c l ∧ l.map Rv.core = rs.map Rv.core ∧ ∀ g, blk A = some g → ¬ F g
structure Ti where
 gt : Nat
 PA : Option Addr
 PC : Nat
 fA : Option Addr
 fc : Nat
 f : List UInt8
 many : Int
 low : Int
 high : Int
 ps : List (Pq × List Rv)
def Ti.obj (t : Ti) (z : Int) : Obj := .cells #[.slice t.PA t.ps.length t.PC, .slice t.fA t.f.length t.fc, .int .i64 t.many, .int .i64 t.low, .int .i64 t.high, .int .i64 z] 72
structure TbAt (base : Nat) (F : Nat → Prop) (t : Ti) (w : World) : Prop where
 size : base ≤ w.heap.size
 frn : ∀ g, F g → g < w.heap.size
 ge : base ≤ t.gt
 box : ∃ z : Int, w.heap[t.gt]? = some (t.obj z)
 row : OwnS Ptc 1 w base 79 t.PA t.PC (t.ps.map (·.1.g))
 filt : HBs w base t.fA t.f
 f1 : t.f.length ≤ t.fc
 f2 : t.fc ≤ 9223372036854775807
 f3 : t.f.length ≤ 65536
 parts : ∀ x ∈ t.ps, PqA w base F x.1 x.2
 nd : (t.ps.map (·.1.g)).Nodup
structure TbR (t : Ti) (R : List Rv) (bits : Nat) : Prop where
 flat : (t.ps.map (·.2)).flatten = R
 prt : ∀ x ∈ t.ps, PqR x.1 x.2
 ne : t.ps ≠ []
 f : t.f = Blm.build bits (R.map Rv.k)
 many : t.many = (R.length : Int)
 low : t.low = Tb.low R
 high : t.high = Tb.high R
 rt : ∀ r ∈ R, Tb.right r = true
 srt : Tb.sorted R = true
 bits1 : 1 ≤ bits
 bits2 : bits ≤ 32
 len : R.length ≤ 20000
structure Qry (base : Nat) (t : Ti) (w w' : World) : Prop where
 below : Below base w w'
 oth : ∀ k, k < w.heap.size → k ≠ t.gt → (∀ x ∈ t.ps, k ≠ x.1.g) → w'.heap[k]? = w.heap[k]?
 tagd : ∀ (k : Nat) (cs : Array Value) (T : TypeId) (fr : Nat × Nat), w.heap[k]? = some (Obj.cells cs T fr) → T ≠ 72 → T ≠ 91 → w'.heap[k]? = w.heap[k]?
section
variable {base : Nat} {w w' w2 : World} {t : Ti} {F : Nat → Prop}
theorem Qry.refl (base : Nat) (t : Ti) (w : World) : Qry base t w w := ⟨Below.refl _ _, fun _ _ _ _ => rfl, fun _ _ _ _ _ _ _ => rfl⟩
theorem Qry.trans (h : Qry base t w w') (h2 : Qry base t w' w2) : Qry base t w w2 := ⟨h.below.trans h2.below, fun k hk h3 h4 => (h2.oth k (Nat.lt_of_lt_of_le hk h.below.size) h3 h4).trans (h.oth k hk h3 h4), fun k cs T fr e1 e2 e3 => by
 have h1 := h.tagd k cs T fr e1 e2 e3
 exact (h2.tagd k cs T fr (h1.trans e1) e2 e3).trans h1⟩
theorem Qry.of (hb : Below w.heap.size w w') (hs : base ≤ w.heap.size) : Qry base t w w' := ⟨hb.mono hs, fun k hk _ _ => hb.block k hk, fun k _ _ _ e _ _ => hb.block k (Array.getElem?_eq_some_iff.1 e).1⟩
theorem Qry.grown {row : Option Nat} (hg : w.grownBy w' row) (hs : base ≤ w.heap.size) (hr : ∀ g, row = some g → base ≤ g ∧ (∃ cs T fr, w.heap[g]? = some (.cells cs T fr) ∧ (T = 72 ∨ T = 91)) ∧ (g = t.gt ∨ ∃ x ∈ t.ps, g = x.1.g)) : Qry base t w w' :=
 ⟨(Below.refl base w).grown hg hs (fun g e => (hr g e).1), fun k hk h3 h4 => hg.block k hk (fun e => by
   rcases (hr k e.symm).2.2 with h5 | ⟨x, hx, h5⟩
   · exact h3 h5
   · exact h4 x hx h5), fun k cs T fr e h1 h2 => hg.block k (Array.getElem?_eq_some_iff.1 e).1 (fun e2 => by
   obtain ⟨_, ⟨cs', T', fr', e3, e4⟩, _⟩ := hr k e2.symm
   rw [e] at e3
   injection e3 with e3
   injection e3 with _ e3 _
   subst e3
   rcases e4 with e4 | e4
   · exact h1 e4
   · exact h2 e4)⟩
theorem Qry.hbs {B : Option Addr} {r : List UInt8} {base' : Nat} (h : Qry base t w w') (hb : base' ≤ base) (hr : HBs w base' B r) : HBs w' base' B r := hr.keep h.below.size (fun hne g hg _ => by
 rcases hr.at_ hne g hg with h1 | ⟨cs, fr, h1⟩
 · exact h.below.block g (by omega)
 · exact h.tagd g cs _ fr h1 (by decide) (by decide))
theorem Qry.own {B : Option Addr} {c : Nat} {r : List UInt8} {base' : Nat} (h : Qry base t w w') (hr : Own w base' 5 B c r) : Own w' base' 5 B c r := by
 have hk : ∀ g, blk B = some g → w'.heap[g]? = w.heap[g]? := fun g hg => by
   obtain ⟨_, cs, fr, h1⟩ := own_tag hr hg
   exact h.tagd g cs _ fr h1 (by decide) (by decide)
 unfold Own at hr ⊢
 refine ⟨hr.1, ?_⟩
 rcases hr.2 with h2 | ⟨g, cap, cur, hv, hg, hh, r⟩
 · exact .inl h2
 · refine .inr ⟨g, cap, cur, hv, hg, ?_, r⟩
   injection hv with hv
   rw [hk g (by rw [hv]; rfl)]
   exact hh
theorem Qry.ownS {α : Type} {f : α → List Value} {n : Nat} {e : TypeId} {B : Option Addr} {c : Nat} {r : List α} {base' : Nat} (h : Qry base t w w') (hr : OwnS f n w base' e B c r) (h1 : e ≠ 72) (h2 : e ≠ 91) : OwnS f n w' base' e B c r := hr.keep (fun g hg => by
 obtain ⟨_, cs, fr, h3⟩ := ownS_tag hr hg
 exact h.tagd g cs _ fr h3 h1 h2)
theorem Qry.recs {A : Option Addr} {c : Nat} {l : List Rv} {base' : Nat} (h : Qry base t w w') (hb : base' ≤ base) (hr : RecsAt w base' A c l) : RecsAt w' base' A c l := ⟨h.ownS hr.row (by decide) (by decide), fun r hm => by
 obtain ⟨⟨h1, h2, h3, h4⟩, h5⟩ := hr.inn r hm
 exact ⟨⟨h.hbs hb h1, h2, h.hbs hb h3, h4⟩, h5⟩⟩
theorem Qry.pqb {p : Pq} (h : Qry base t w w') (hr : PqB w base p) : PqB w' base p := { hr with hb := h.hbs (Nat.le_refl _) hr.hb, hk := h.hbs (Nat.le_refl _) hr.hk }
theorem TbAt.call (h : TbAt base F t w) (hb : Below w.heap.size w w') : TbAt base F t w' := by
 have hq : Qry base t w w' := Qry.of hb h.size
 obtain ⟨z, hz⟩ := h.box
 refine ⟨Nat.le_trans h.size hb.size, fun g hg => Nat.lt_of_lt_of_le (h.frn g hg) hb.size, h.ge, ⟨z, (hb.block _ (Array.getElem?_eq_some_iff.1 hz).1).trans hz⟩, h.row.below hb, h.filt.below hb, h.f1, h.f2, h.f3, fun x hx => ?_, h.nd⟩
 have hp := h.parts x hx
 refine ⟨hq.pqb hp.mem, ?_⟩
 rcases hp.st with h1 | ⟨A, c, l, h1, h2, h3⟩
 · exact .inl ((hb.block _ (Array.getElem?_eq_some_iff.1 h1).1).trans h1)
 · exact .inr ⟨A, c, l, (hb.block _ (Array.getElem?_eq_some_iff.1 h1).1).trans h1, hq.recs (Nat.le_refl _) h2, h3⟩
theorem RecsAt.rd {A : Option Addr} {c : Nat} {l : List Rv} (h : RecsAt w base A c l) : RdRv w w.heap.size A l := ⟨h.row.rd, fun r hr => by
 obtain ⟨⟨h1, h2, h3, h4⟩, _⟩ := h.inn r hr
 exact ⟨h1.rd, h3.rd, h2, h4⟩⟩
theorem PqA.tag {p : Pq} {rs : List Rv} (h : PqA w base F p rs) : ∃ cs, w.heap[p.g]? = some (.cells cs 91) := by
 rcases h.st with h1 | ⟨A, c, l, h1, _⟩
 · exact ⟨_, h1⟩
 · exact ⟨_, h1⟩
theorem TbAt.asked (h : TbAt base F t w) {x : Pq × List Rv} (hx : x ∈ t.ps) (hg : w.grownBy w' (some x.1.g)) (hn : ∃ (A : Option Addr) (c : Nat) (l : List Rv), w'.heap[x.1.g]? = some (x.1.obj 1 0 (.slice A l.length c)) ∧ RecsAt w' base A c l ∧ l.map Rv.core = x.2.map Rv.core ∧ ∀ g, blk A = some g → ¬ F g) : TbAt base F t w' ∧ Qry base t w w' := by
 have hpx := h.parts x hx
 obtain ⟨cs0, htag⟩ := hpx.tag
 have hq : Qry base t w w' := Qry.grown hg h.size (fun g e => by
   injection e with e
   subst e
   exact ⟨hpx.mem.ge, ⟨cs0, _, _, htag, .inr rfl⟩, .inr ⟨x, hx, rfl⟩⟩)
 refine ⟨?_, hq⟩
 obtain ⟨z, hz⟩ := h.box
 refine ⟨Nat.le_trans h.size hg.size, fun g hgg => Nat.lt_of_lt_of_le (h.frn g hgg) hg.size, h.ge, ⟨z, ?_⟩, hq.ownS h.row (by decide) (by decide), hq.hbs (Nat.le_refl _) h.filt, h.f1, h.f2, h.f3, fun y hy => ?_, h.nd⟩
 · refine (hg.block _ (Array.getElem?_eq_some_iff.1 hz).1 (fun e => ?_)).trans hz
   injection e with e
   exact tag_ne2 hz htag (by decide) e
 · have hpy := h.parts y hy
   refine ⟨hq.pqb hpy.mem, ?_⟩
   by_cases e : y.1.g = x.1.g
   · have e2 : y = x := by
       obtain ⟨i, hi, rfl⟩ := List.mem_iff_getElem.1 hy
       obtain ⟨j, hj, rfl⟩ := List.mem_iff_getElem.1 hx
       have h1 : (t.ps.map (·.1.g))[i]'(by simpa using hi) = (t.ps.map (·.1.g))[j]'(by simpa using hj) := by simpa using e
       have h2 := (List.getElem_inj h.nd).1 h1
       subst h2; rfl
     subst e2
     exact .inr hn
   · rcases hpy.st with h1 | ⟨A, c, l, h1, h2, h3⟩
     · exact .inl ((hg.block _ (Array.getElem?_eq_some_iff.1 h1).1 (fun e2 => e (by injection e2))).trans h1)
     · exact .inr ⟨A, c, l, (hg.block _ (Array.getElem?_eq_some_iff.1 h1).1 (fun e2 => e (by injection e2))).trans h1, hq.recs (Nat.le_refl _) h2, h3⟩
theorem TbAt.count (h : TbAt base F t w) (z : Int) : TbAt base F t (w.setCell ⟨t.gt, 5, none⟩ (.int .i64 z)) ∧ Qry base t w (w.setCell ⟨t.gt, 5, none⟩ (.int .i64 z)) := by
 obtain ⟨z0, hz⟩ := h.box
 have hg := grownBy_set w ⟨t.gt, 5, none⟩ (.int .i64 z)
 have hq : Qry base t w (w.setCell ⟨t.gt, 5, none⟩ (.int .i64 z)) := Qry.grown hg h.size (fun g e => by
   injection e with e
   subst e
   exact ⟨h.ge, ⟨_, _, _, hz, .inl rfl⟩, .inl rfl⟩)
 refine ⟨?_, hq⟩
 refine ⟨Nat.le_trans h.size hg.size, fun g hgg => Nat.lt_of_lt_of_le (h.frn g hgg) hg.size, h.ge, ⟨z, ?_⟩, hq.ownS h.row (by decide) (by decide), hq.hbs (Nat.le_refl _) h.filt, h.f1, h.f2, h.f3, fun y hy => ?_, h.nd⟩
 · have := heap_setCell_same w t.gt 5 _ 72 (.int .i64 z) hz
   simpa [Ti.obj] using this
 · have hpy := h.parts y hy
   obtain ⟨cs0, htag⟩ := hpy.tag
   refine ⟨hq.pqb hpy.mem, ?_⟩
   have key : (w.setCell ⟨t.gt, 5, none⟩ (.int .i64 z)).heap[y.1.g]? = w.heap[y.1.g]? := heap_setD _ (tag_ne2 htag hz (by decide))
   rcases hpy.st with h1 | ⟨A, c, l, h1, h2, h3⟩
   · exact .inl (key.trans h1)
   · exact .inr ⟨A, c, l, key.trans h1, hq.recs (Nat.le_refl _) h2, h3⟩
end
section
variable {base : Nat} {w w' w2 : World} {t : Ti} {F F' : Nat → Prop}
theorem TbAt.more (h : TbAt base F t w) (hF : ∀ g, F' g → F g ∨ w.heap.size ≤ g) (hb : Below w.heap.size w w') (hlt : ∀ g, F' g → g < w'.heap.size) : TbAt base F' t w' := by
 have h2 := h.call hb
 refine { h2 with frn := hlt, parts := fun x hx => ?_ }
 refine ⟨(h2.parts x hx).mem, ?_⟩
 rcases (h.parts x hx).st with h1 | ⟨A, c, l, h1, h3, h4, h5⟩
 · exact .inl ((hb.block _ (Array.getElem?_eq_some_iff.1 h1).1).trans h1)
 · refine .inr ⟨A, c, l, (hb.block _ (Array.getElem?_eq_some_iff.1 h1).1).trans h1, (Qry.of (t := t) hb h.size).recs (Nat.le_refl _) h3, h4, fun g hg hf => ?_⟩
   rcases hF g hf with h6 | h6
   · exact h5 g hg h6
   · have := (h3.row.blk_ge g hg).2
     omega
theorem TbAt.less (h : TbAt base F t w) (hF : ∀ g, F' g → F g) : TbAt base F' t w := { h with
 frn := fun g hg => h.frn g (hF g hg)
 parts := fun x hx => ⟨(h.parts x hx).mem, by
   rcases (h.parts x hx).st with h1 | ⟨A, c, l, h1, h3, h4, h5⟩
   · exact .inl h1
   · exact .inr ⟨A, c, l, h1, h3, h4, fun g hg hf => h5 g hg (hF g hf)⟩⟩ }
theorem TbAt.foreignM (h : TbAt base F t w) {row : Option Nat} (hg : w.grownBy w' row) (hr : ∀ g, row = some g → F g ∧ base ≤ g ∧ ∃ cs fr, w.heap[g]? = some (.cells cs 35 fr)) (hF : ∀ g, F' g → F g ∨ w.heap.size ≤ g) (hlt : ∀ g, F' g → g < w'.heap.size) : TbAt base F' t w' := by
 have hnb : NoB w row := fun g e => by
   obtain ⟨_, _, cs, fr, h1⟩ := hr g e
   exact ⟨cs, _, fr, h1, by decide⟩
 have hge : ∀ g, row = some g → base ≤ g := fun g e => (hr g e).2.1
 have htg : ∀ g, row = some g → ∃ cs fr, w.heap[g]? = some (.cells cs 35 fr) := fun g e => (hr g e).2.2
 have key : ∀ (k : Nat) (cs : Array Value) (T : TypeId) (fr : Nat × Nat), w.heap[k]? = some (.cells cs T fr) → T ≠ 35 → w'.heap[k]? = w.heap[k]? := fun k cs T fr h1 h2 => hg.block k (Array.getElem?_eq_some_iff.1 h1).1 (fun e => by
   obtain ⟨cs', fr', h3⟩ := htg k e.symm
   exact tag_ne2 h1 h3 h2 rfl)
 obtain ⟨z, hz⟩ := h.box
 refine ⟨Nat.le_trans h.size hg.size, hlt, h.ge, ⟨z, (key _ _ _ _ hz (by decide)).trans hz⟩, h.row.kept_ne (T := 35) hg htg (by decide), h.filt.grown hg hnb hge, h.f1, h.f2, h.f3, fun x hx => ?_, h.nd⟩
 have hp := h.parts x hx
 refine ⟨hp.mem.grown hg hnb hge, ?_⟩
 rcases hp.st with h1 | ⟨A, c, l, h1, h3, h4, h5⟩
 · exact .inl ((key _ _ _ _ h1 (by decide)).trans h1)
 · refine .inr ⟨A, c, l, (key _ _ _ _ h1 (by decide)).trans h1, ⟨h3.row.kept hg ?_, fun r hm => ?_⟩, h4, fun g hgb hf => ?_⟩
   · rcases hA : blk A with _ | g
     · exact .inl rfl
     · refine .inr (fun e => ?_)
       exact h5 g hA (hr g e.symm).1
   · obtain ⟨⟨i1, i2, i3, i4⟩, i5⟩ := h3.inn r hm
     exact ⟨⟨i1.grown hg hnb hge, i2, i3.grown hg hnb hge, i4⟩, i5⟩
   · rcases hF g hf with h6 | h6
     · exact h5 g hgb h6
     · have := (h3.row.blk_ge g hgb).2
       omega
theorem TbAt.foreign (h : TbAt base F t w) {row : Option Nat} (hg : w.grownBy w' row) (hr : ∀ g, row = some g → F g ∧ base ≤ g ∧ ∃ cs fr, w.heap[g]? = some (.cells cs 35 fr)) : TbAt base F t w' :=
 h.foreignM hg hr (fun _ hf => .inl hf) (fun g hf => Nat.lt_of_lt_of_le (h.frn g hf) hg.size)
theorem RecsAt.grown {A : Option Addr} {c : Nat} {l : List Rv} (h : RecsAt w base A c l) {row : Option Nat} (hg : w.grownBy w' row) (hr : NoB w row) (hb : ∀ g, row = some g → base ≤ g) (hne : blk A = none ∨ blk A ≠ row) : RecsAt w' base A c l := ⟨h.row.kept hg hne, fun r hm => by
 obtain ⟨⟨i1, i2, i3, i4⟩, i5⟩ := h.inn r hm
 exact ⟨⟨i1.grown hg hr hb, i2, i3.grown hg hr hb, i4⟩, i5⟩⟩
theorem Qry.new (h : Qry base t w w') {row : Option Nat} (hg : w'.grownBy w2 row) (hs : base ≤ w.heap.size) (hr : ∀ g, row = some g → w.heap.size ≤ g) : Qry base t w w2 := ⟨h.below.grown hg (Nat.le_trans hs h.below.size) (fun g e => Nat.le_trans hs (hr g e)), fun k hk h3 h4 => (hg.block k (Nat.lt_of_lt_of_le hk h.below.size) (fun e => by have := hr k e.symm; omega)).trans (h.oth k hk h3 h4), fun k cs T fr h1 h2 h3 => by
 have hk := (Array.getElem?_eq_some_iff.1 h1).1
 exact (hg.block k (Nat.lt_of_lt_of_le hk h.below.size) (fun e => by have := hr k e.symm; omega)).trans (h.tagd k cs T fr h1 h2 h3)⟩
end
theorem Qry.cells {base : Nat} {w w' : World} {t : Ti} {F : Nat → Prop} (h : Qry base t w w') (ht : TbAt base F t w) {k o : Nat} {v : Value} (hc : w.cell? ⟨k, o, none⟩ = some v) (hv : (∃ x, v = .int .u8 x) ∨ ∃ b, v = .bool b) : w'.heap[k]? = w.heap[k]? := by
 have hk : k < w.heap.size := by
   rcases Nat.lt_or_ge k w.heap.size with h1 | h1
   · exact h1
   · exfalso
     have : w.heap[k]? = none := Array.getElem?_eq_none h1
     simp [World.cell?, this] at hc
 have key : ∀ (cs : Array Value) (T : TypeId), w.heap[k]? = some (.cells cs T) → cs[o]? = some v := fun cs T e => by
   rw [cell_of_row w k o cs T (0, 0) e] at hc; exact hc
 refine h.oth k hk (fun e => ?_) (fun x hx e => ?_)
 · subst e
   obtain ⟨z, hz⟩ := ht.box
   have h1 := key _ _ hz
   match o, h1 with
   | 0, h1 | 1, h1 | 2, h1 | 3, h1 | 4, h1 | 5, h1 => simp at h1; rcases hv with ⟨_, e⟩ | ⟨_, e⟩ <;> (rw [e] at h1; cases h1)
   | o + 6, h1 => simp at h1
 · subst e
   rcases (ht.parts x hx).st with h2 | ⟨A, c, l, h2, _⟩
   · have h1 := key _ _ h2
     match o, h1 with
     | 0, h1 | 1, h1 | 2, h1 | 3, h1 | 4, h1 | 5, h1 => simp at h1; rcases hv with ⟨_, e⟩ | ⟨_, e⟩ <;> (rw [e] at h1; cases h1)
     | o + 6, h1 => simp at h1
   · have h1 := key _ _ h2
     match o, h1 with
     | 0, h1 | 1, h1 | 2, h1 | 3, h1 | 4, h1 | 5, h1 => simp at h1; rcases hv with ⟨_, e⟩ | ⟨_, e⟩ <;> (rw [e] at h1; cases h1)
     | o + 6, h1 => simp at h1
theorem Qry.rdB {base : Nat} {w w' : World} {t : Ti} {F : Nat → Prop} (h : Qry base t w w') (ht : TbAt base F t w) {A : Option Addr} {l : List UInt8} (hr : RdB w w.heap.size A l) : RdB w' w'.heap.size A l := by
 refine ⟨hr.1, fun hn => ?_⟩
 obtain ⟨ad, e, hb, hc⟩ := hr.2 hn
 obtain ⟨g, off, e2, hg, h0⟩ := RdB.at_ hr (k := 0) hn
 rw [e] at e2
 injection e2 with e2
 subst e2
 have hk := h.cells ht h0 (.inl ⟨_, rfl⟩)
 refine ⟨⟨g, off, none⟩, e, Nat.lt_of_lt_of_le hg h.below.size, fun j u hu => ?_⟩
 have hk2 : w'.heap[((⟨g, off, none⟩ : Addr).add j).block]? = w.heap[((⟨g, off, none⟩ : Addr).add j).block]? := by rw [block_of_add]; exact hk
 rw [World.cell?_of_block hk2]
 exact hc j u hu
theorem Qry.rdRv {base : Nat} {w w' : World} {t : Ti} {F : Nat → Prop} (h : Qry base t w w') (ht : TbAt base F t w) {A : Option Addr} {l : List Rv} (hr : RdRv w w.heap.size A l) : RdRv w' w'.heap.size A l := by
 refine ⟨⟨hr.row.1, fun hn => ?_⟩, fun r hm => ⟨h.rdB ht (hr.ok r hm).key, h.rdB ht (hr.ok r hm).val, (hr.ok r hm).kc, (hr.ok r hm).vc⟩⟩
 obtain ⟨ad, e, hb, hc⟩ := hr.row.2 hn
 obtain ⟨g, off, e2, hg, h0⟩ := hr.row4 hn
 rw [e] at e2
 injection e2 with e2
 subst e2
 have hk := h.cells ht (h0 0 hn).2.2.1 (.inr ⟨_, rfl⟩)
 refine ⟨⟨g, off, none⟩, e, Nat.lt_of_lt_of_le hg h.below.size, fun j u hu => ?_⟩
 have hk2 : w'.heap[((⟨g, off, none⟩ : Addr).add j).block]? = w.heap[((⟨g, off, none⟩ : Addr).add j).block]? := by rw [block_of_add]; exact hk
 rw [World.cell?_of_block hk2]
 exact hc j u hu
def PtsOf (L : List (UInt8 × List UInt8)) (ps : List Pq) : Prop := ∀ (i : Nat) (p : Pq), ps[i]? = some p → ∃ f, L[i]? = some f ∧ p.b = f.2 ∧ ∀ l0, Blk.WFb f.2 l0 → Blk.lastK l0 = p.k
theorem PtsOf.nil (L : List (UInt8 × List UInt8)) : PtsOf L [] := fun i p h => by simp at h
theorem PtsOf.snoc {L : List (UInt8 × List UInt8)} {ps : List Pq} {p : Pq} (h : PtsOf L ps) {f : UInt8 × List UInt8} (hf : L[ps.length]? = some f) (hb : p.b = f.2) (hl : ∀ l0, Blk.WFb f.2 l0 → Blk.lastK l0 = p.k) : PtsOf L (ps ++ [p]) := fun i q hq => by
 by_cases hi : i < ps.length
 · rw [List.getElem?_append_left hi] at hq
   exact h i q hq
 · rw [List.getElem?_append_right (by omega)] at hq
   have h0 : i - ps.length = 0 := by
     have := (List.getElem?_eq_some_iff.1 hq).1
     simp at this; omega
   rw [h0] at hq
   have e : p = q := by simpa using hq
   subst e
   have : i = ps.length := by omega
   subst this
   exact ⟨f, hf, hb, hl⟩
theorem open_fin {b : List UInt8} {R : List Rv} {s t : Int} {L : List (UInt8 × List UInt8)} {ps : List Pq} {ff : UInt8 × List UInt8} (hi : Tb.Is b R s t) (hs : Frm.Scans b L []) (hps : ps.length = L.length - 3) (hp : PtsOf L ps) (hf : L[L.length - 3]? = some ff) (ti : Ti)
   (ef : ti.f = ff.2) (em : ti.many = (R.length : Int)) (el : ti.low = Tb.low R) (eh : ti.high = Tb.high R) : ∃ rss : List (List Rv), rss.length = ps.length ∧ TbR { ti with ps := ps.zip rss } R t.toNat := by
 obtain ⟨_, gs, hF⟩ := hi.scanned hs (by rfl)
 have hlen := hF.len
 obtain ⟨rss, e1, e2⟩ := Tb.split_flat _ _ _ hF.flat
 have u := hi.unf
 have hlr : rss.length = ps.length := by
   have := congrArg List.length e2
   rw [List.length_map] at this
   omega
 refine ⟨rss, hlr, ?_, fun x hx => ?_, ?_, ?_, em, el, eh, u.r, u.srt, by have := u.t1; omega, by have := u.t2; omega, u.l2⟩
 · show ((ps.zip rss).map (·.2)).flatten = R
   have : (ps.zip rss).map (·.2) = rss := by
     rw [List.map_snd_zip]
     omega
   rw [this, e1]
 · obtain ⟨i, hi2, rfl⟩ := List.mem_iff_getElem.1 hx
   have hi2' : i < (ps.zip rss).length := hi2
   rw [List.length_zip] at hi2'
   have hl1 : i < ps.length := by omega
   have hl2 : i < rss.length := by omega
   show PqR ((ps.zip rss)[i]).1 ((ps.zip rss)[i]).2
   rw [List.getElem_zip]
   show PqR ps[i] rss[i]
   obtain ⟨f, h1, h2, h3⟩ := hp i _ (List.getElem?_eq_getElem hl1)
   obtain ⟨g, h4, h5, h6⟩ := hF.block (i := i) (by omega) h1
   have e3 : g = (rss[i]).map Tb.inner := by
     rw [e2, List.getElem?_map, List.getElem?_eq_getElem hl2] at h4
     simpa using h4.symm
   subst e3
   refine ⟨by rw [h2]; exact h5, fun e => h6 (by rw [e]; rfl), fun r hr => u.r r ?_, h3 _ h5⟩
   rw [← e1]
   exact List.mem_flatten.2 ⟨_, List.getElem_mem hl2, hr⟩
 · intro e
   have : (ps.zip rss).length = 0 := by
     have e' : ps.zip rss = [] := e
     rw [e']; rfl
   rw [List.length_zip] at this
   omega
 · show ti.f = _
   have h1 := hF.filt
   have h2 : L.length - 3 = gs.length := by omega
   rw [h2, h1] at hf
   injection hf with hf
   rw [ef, ← hf]
theorem OpT.tab {Y w : World} {base gt RC PC fc : Nat} {F : Value} {m2 m3 m4 : Int} {RA PA fA : Option Addr} {f : List UInt8} {R : List Rv} {ps : List Pq} (h : OpT Y base gt F (.int .i64 m2) (.int .i64 m3) (.int .i64 m4) RA RC R PA PC ps w) (hF : F = .slice fA f.length fc) (hf : HBs w base fA f)
   (f1 : f.length ≤ fc) (f2 : fc ≤ 9223372036854775807) (f3 : f.length ≤ 65536) (rss : List (List Rv)) (hl : rss.length = ps.length) : TbAt base (fun _ => False) ⟨gt, PA, PC, fA, fc, f, m2, m3, m4, ps.zip rss⟩ w := by
 have hz : (ps.zip rss).length = ps.length := by rw [List.length_zip]; omega
 have hm : (ps.zip rss).map (·.1.g) = ps.map Pq.g := by
   have h1 : (ps.zip rss).map (·.1) = ps := by rw [List.map_fst_zip]; omega
   have h2 : (ps.zip rss).map (·.1.g) = ((ps.zip rss).map (·.1)).map Pq.g := by rw [List.map_map]; rfl
   rw [h2, h1]
 refine ⟨h.recs.size, fun _ hg => hg.elim, h.ge, ⟨0, ?_⟩, ?_, hf, f1, f2, f3, fun x hx => ?_, ?_⟩
 · show w.heap[gt]? = some (.cells #[.slice PA (ps.zip rss).length PC, .slice fA f.length fc, .int .i64 m2, .int .i64 m3, .int .i64 m4, .int .i64 0] _)
   rw [hz, ← hF]
   exact h.box
 · show OwnS Ptc 1 w base _ PA PC ((ps.zip rss).map (·.1.g))
   rw [hm]; exact h.row
 · have hp := h.parts _ (List.of_mem_zip hx).1
   exact ⟨hp.mem, .inl hp.box⟩
 · show ((ps.zip rss).map (·.1.g)).Nodup
   rw [hm]; exact h.nd
theorem lastK_at {l : List Pr} {m : Nat} (h : l.length = m + 1) : Blk.lastK l = (l[m]'(by omega)).k := by
 unfold Blk.lastK
 rw [List.getLast?_eq_getElem?, List.getElem?_eq_getElem (by omega)]
 simp [h]
def OpenQ (w : World) (b : List UInt8) (e : Ending) (w' : World) : Prop := Below w.heap.size w w' ∧
 ((e = .returned (.tuple #[.pointer none, .int .i64 3]) ∧ ∀ l s t, ¬ Tb.Is b l s t) ∨
  (∃ (R : List Rv) (ti : Ti) (base : Nat) (s t : Int), e = .returned (.tuple #[.pointer (some ⟨ti.gt, 0, none⟩), .int .i64 0]) ∧ w.heap.size ≤ base ∧ TbAt base (fun _ => False) ti w' ∧ TbR ti R t.toNat ∧ Tb.Is b R s t ∧ ∀ l s t, Tb.Is b l s t → l.map Rv.core = R.map Rv.core))
theorem openQ_no {w w' : World} {b : List UInt8} (hb : Below w.heap.size w w') (h : ∀ l s t, ¬ Tb.Is b l s t) : OpenQ w b (.returned (.tuple #[.pointer none, .int .i64 3])) w' := ⟨hb, .inl ⟨rfl, h⟩⟩
theorem low_nat {R : List Rv} (hr : ∀ r ∈ R, Tb.right r = true) (hp : 0 < R.length) : (((Tb.low R).toNat : Nat) : Int) = Tb.low R ∧ (((Tb.high R).toNat : Nat) : Int) = Tb.high R := by
 have h := Tb.lohi_bd R hr hp R.length (Nat.le_refl _)
 rw [Tb.lowK_all, Tb.highK_all] at h
 omega
def tv (t : List Nat) (i : Nat) : Value := .int .i64 ((t.getD i 0 : Nat) : Int)
def fiveRow (t : List Nat) : Array Value := #[tv t 0, tv t 1, tv t 2, tv t 3, tv t 4]
theorem fiveRow_put {t : List Nat} (h : t.length < 5) (m : Nat) : (fiveRow t).setIfInBounds t.length (.int .i64 (m : Int)) = fiveRow (t ++ [m]) := by
 match t, h with
 | [], _ => rfl
 | [_], _ => rfl
 | [_, _], _ => rfl
 | [_, _, _], _ => rfl
 | [_, _, _, _], _ => rfl
theorem fiveRow_at {t : List Nat} {k : Nat} (h : k < 5) : ∃ v, (fiveRow t)[k]? = some v := by
 match k, h with
 | 0, _ => exact ⟨_, rfl⟩
 | 1, _ => exact ⟨_, rfl⟩
 | 2, _ => exact ⟨_, rfl⟩
 | 3, _ => exact ⟨_, rfl⟩
 | 4, _ => exact ⟨_, rfl⟩
set_option maxHeartbeats 8000000 in
set_option maxRecDepth 100000 in
theorem topen_any (A : Option Addr) (c : Nat) (b : List UInt8) (w : World) (h : RdB w w.heap.size A b) (hl : b.length ≤ 1000000000) (hc : b.length ≤ c) (hcc : c ≤ 9223372036854775807) :
   Calls Tryz.prog 6 #[.slice A b.length c] w (OpenQ w b) := by
 have KS := hid (scan_any A c b w h hl hc hcc)
 have HH := hid h
 clear h
 go_enter Tryz.func6, Tryz.ntmps6
 go_wp2_with fail
 refine KS.out.mono ?_
 rintro e w1 ⟨L, r, FA, FC, hsc, htn, rfl, hfr, hlc, hfc, hb1⟩
 have HSC := hid hsc
 have HTN := hid htn
 have HFR := hid hfr
 have HB1 := hid hb1
 have hlb := hsc.len
 rw [List.length_map] at hlb
 have HG0 : Hid (∀ w', Below w.heap.size w w' → (r ≠ [] ∨ L.length < 4) → OpenQ w b (.returned (.tuple #[.pointer none, .int .i64 3])) w') := hid (fun w' hb' hx => openQ_no hb' (Tb.scan_no HSC.out HTN.out (by rw [List.length_map]; exact hx)))
 have HGN : Hid (∀ w', Below w1.heap.size w1 w' → (∀ l s t, ¬ Tb.Is b l s t) → OpenQ w b (.returned (.tuple #[.pointer none, .int .i64 3])) w') := hid (fun w' hb' hx => openQ_no (HB1.out.trans (hb'.mono HB1.out.size)) hx)
 clear KS hsc htn hfr hb1
 by_cases hr : r = []
 case neg =>
   have h1 : 0 < r.length := List.length_pos_iff.2 hr
   have hne : ((b.length : Int) - (r.length : Int) != (b.length : Int)) = true := by simp; omega
   have hwr : IntKind.i64.wrap ((b.length : Int) - (r.length : Int)) = (b.length : Int) - (r.length : Int) := by rw [IntKind.wrap_i64]; omega
   have HR := hid hr
   clear hr
   go_wp2_with fail
   go_ret2
   exact HG0.out _ HB1.out (.inl HR.out)
 subst hr
 have hb0 : (b.length : Int) - (([] : List UInt8).length : Int) = (b.length : Int) := by simp
 rw [hb0]
 clear hb0
 by_cases h4 : (L.length : Int) ≤ 3
 · have HR := hid h4
   go_wp2_with fail
   go_ret2
   exact HG0.out _ HB1.out (.inr (by have := HR.out; omega))
 have h4' : 4 ≤ L.length := by omega
 obtain ⟨n, hn⟩ : ∃ n, n = L.length - 3 := ⟨_, rfl⟩
 have hn3 : L.length = n + 3 := by omega
 obtain ⟨gF, oF, rfl, hgF, hrow⟩ := HFR.out.row2 (by omega)
 have HROW := hid hrow
 obtain ⟨f, hf⟩ : ∃ f, f = L[n + 2]'(by omega) := ⟨_, rfl⟩
 have hfm : f ∈ L := by rw [hf]; exact List.getElem_mem _
 have c1 := (hrow (n + 2) (by omega)).2
 rw [← hf] at c1
 have hok := HFR.out.ok f hfm
 have hft : f.b.length ≤ 65536 := HSC.out.fit f.pr (List.mem_map_of_mem hfm)
 have hNR : Tb.NR b [] f.b := Tb.NR.start HSC.out HTN.out (p := f.pr) (by
   rw [List.length_map, hn3, List.getElem?_map, List.getElem?_eq_getElem (by omega), ← (show f = L[n + 3 - 1]'(by omega) from hf)]; rfl)
 have HNR := hid hNR
 have HOK := hid hok
 have HFB := hid hft
 have HN3 := hid hn3
 have ix : IntKind.i64.wrap (((n + 3 : Nat) : Int) - 1) = ((n + 2 : Nat) : Int) := by rw [IntKind.wrap_i64]; omega
 have ixn : IntKind.i64.wrap (((n + 3 : Nat) : Int) - 3) = (n : Int) := by rw [IntKind.wrap_i64]; omega
 rw [hn3]
 rw [hn3] at hlc hlb
 obtain ⟨fk, fA, fc, fb⟩ := f
 simp only at c1 HNR HFB HOK
 have h4n : ¬ (((n + 3 : Nat) : Int) ≤ 3) := by omega
 have hn1 : 1 ≤ n := by omega
 clear hrow hf hfm hok hft hNR hn h4 h4' hn3
 go_wp2_with fail
 go_quiet (fail)
 refine drewN_any ?_
 intro X hbX hX
 have HBX := hid (HB1.out.trans (hbX.mono HB1.out.size))
 have HBX1 := hid hbX
 clear hbX hX
 go_wp2_with fail
 have ht0 : (X.alloc (.cells #[.int .i64 0, .int .i64 0, .int .i64 0, .int .i64 0, .int .i64 0] 61)).heap[X.heap.size]? = some (.cells (fiveRow []) 61) := heap_alloc_new X _
 have HT0 := hid ht0
 have HRF : Hid (HBs (X.alloc (.cells #[.int .i64 0, .int .i64 0, .int .i64 0, .int .i64 0, .int .i64 0] 61)) X.heap.size fA fb) := hid ⟨((HOK.out.1.below HBX1.out (Nat.le_refl _)).more HBX1.out.size).alloc (Nat.le_refl _) _ |>.more (by simp), fun hne g hg => .inl (by
   obtain ⟨ad, e, hlt, _⟩ := HOK.out.1.2 (List.length_pos_iff.2 hne)
   rw [e] at hg
   have : ad.block = g := by simpa [blk] using hg
   have := HBX1.out.size
   omega)⟩
 have hfc1 := HOK.out.2.1
 have hfc2 := HOK.out.2.2
 have hfb := HFB.out
 clear ht0
 go_loopw [7, 51] (fun rr kk wr => ∃ (k : Nat) (told : List Nat) (RA : Option Addr) (RC : Nat) (rest : List UInt8), k ≤ 5 ∧ Hid (k = told.length) ∧ kk = .int .i64 (k : Int) ∧ rr = .slice RA rest.length RC ∧ rest.length ≤ 65536 ∧ rest.length ≤ RC ∧ RC ≤ 9223372036854775807 ∧ Hid (HBs wr X.heap.size RA rest) ∧ Hid (Tb.NR b told rest) ∧ Hid (Below X.heap.size X wr) ∧ Hid (wr.heap[X.heap.size]? = some (.cells (fiveRow told) 61)) ∧ Hid (∀ m ∈ told, m ≤ 1099511627776)) (fun _ kk _ => 5 - (intOf kk).toNat)
 case atStart => exact ⟨0, [], fA, fc, fb, by simp, hid rfl, rfl, rfl, hfb, hfc1, hfc2, HRF, HNR, hid ((Below.refl _ _).alloc (Nat.le_refl _) _), HT0, hid (fun m hm => by cases hm)⟩
 case round =>
   obtain ⟨k, told, RA, RC, rest, htl, HKK, rfl, rfl, hrl, hrc, hrcc, HRD, HN, HBW, HTV, HTM⟩ := hrel
   by_cases hk5 : k < 5
   · obtain ⟨v0, hv0⟩ := fiveRow_at (t := told) hk5
     have q0 := cell_of_row wr X.heap.size k _ _ (0, 0) HTV.out
     rw [hv0] at q0
     have f0 := frozen_of_row wr X.heap.size k _ _ HTV.out
     have KT := takeF_any RA RC rest wr HRD.out.rd (by omega) hrc hrcc
     clear hv0
     cases ht : Cod.take rest with
     | none =>
       rw [ht] at KT
       have HK := hid KT
       have HNO := hid (HN.out.no (by rw [← HKK.out]; exact hk5) ht)
       clear KT ht
       go_wp2_with fail
       refine HK.out.mono ?_
       rintro e w3 ⟨hb3, rfl⟩
       have HB3 := hid (HBX1.out.trans ((HBW.out.trans (hb3.mono (by have := HBW.out.size; omega))).mono HBX1.out.size))
       clear hb3
       go_wp2_with fail
       go_ret2
       exact HGN.out _ HB3.out HNO.out
     | some v1 =>
       obtain ⟨m, r1⟩ := v1
       rw [ht] at KT
       have HK := hid KT
       have HNS := hid (HN.out.step (by rw [← HKK.out]; exact hk5) ht)
       have HNB := hid (HN.out.big (by rw [← HKK.out]; exact hk5) ht)
       have e1 := Cod.take_number ht
       have hr1 : r1.length ≤ rest.length := by
         have h1 := congrArg List.length e1
         rw [List.length_append] at h1; omega
       have hrne : rest ≠ [] := fun e => by rw [e] at ht; cases ht
       have HRNE := hid hrne
       clear KT ht e1 hrne
       by_cases hbig : (1099511627776 : Int) < (m : Int)
       · have HNO := hid (HNB.out (by omega))
         go_wp2_with fail
         refine HK.out.mono ?_
         rintro e w3 ⟨hb3, A1, d1, rfl, hd1, hdd1, hrd1, hfr1⟩
         have HB3 := hid (HBX1.out.trans ((HBW.out.trans (hb3.mono (by have := HBW.out.size; omega))).mono HBX1.out.size))
         clear hb3 hrd1 hfr1
         go_wp2_with fail
         go_ret2
         exact HGN.out _ HB3.out HNO.out
       have hbig2 : (m : Int) ≤ 1099511627776 := by omega
       have hmw : IntKind.i64.wrap (m : Int) = (m : Int) := by rw [IntKind.wrap_i64]; omega
       go_wp2_with fail
       refine HK.out.mono ?_
       rintro e w3 ⟨hb3, A1, d1, rfl, hd1, hdd1, hrd1, hfr1⟩
       have HBW3 := hid (HBW.out.trans (hb3.mono (by have := HBW.out.size; omega)))
       have hlt0 : X.heap.size < wr.heap.size := (Array.getElem?_eq_some_iff.1 HTV.out).1
       have HTV3 := hid ((hb3.block _ hlt0).trans HTV.out)
       have q1 := (hb3.cell (p := ⟨X.heap.size, k, none⟩) hlt0).trans q0
       have f1 := frozen_of_row w3 X.heap.size k _ _ HTV3.out
       have HRD1 := hid (HRD.out.frs HRNE.out hb3 hfr1 hrd1)
       clear hb3 hrd1 hfr1 q0 f0 hlt0
       go_wp2_with fail
       refine ⟨?_, ?measure⟩
       (iterate 28 apply Exists.intro)
       refine ⟨?rel, rfl⟩
       case rel =>
         refine ⟨k + 1, told ++ [m], A1, d1, r1, hk5, hid (by rw [List.length_append, ← HKK.out]; rfl), by simp, rfl, by omega, hd1, hdd1, hid (HRD1.out.set_tag HTV3.out (by decide) (Nat.le_refl _)), HNS, hid (HBW3.out.setCell (Nat.le_refl _) _), hid ?_, hid ?_⟩
         · have h1 := heap_setCell_same w3 X.heap.size k _ _ (.int .i64 (m : Int)) HTV3.out
           have h2 := fiveRow_put (t := told) (by rw [← HKK.out]; exact hk5) m
           rw [← HKK.out] at h2
           rw [h2] at h1
           exact h1
         · intro x hx
           simp only [List.mem_append, List.mem_singleton] at hx
           rcases hx with hx | hx
           · exact HTM.out x hx
           · rw [hx]; omega
       case measure =>
         show 5 - ((k : Int) + 1).toNat < 5 - ((k : Int)).toNat
         omega
   · have hk5' : k = 5 := by omega
     subst hk5'
     obtain ⟨a0, a1, a2, a3, a4, rfl⟩ : ∃ a0 a1 a2 a3 a4, told = [a0, a1, a2, a3, a4] := by
       have hk := HKK.out
       match told, hk with
       | [a0, a1, a2, a3, a4], _ => exact ⟨a0, a1, a2, a3, a4, rfl⟩
     obtain ⟨ff, hff⟩ : ∃ ff, ff = L[n]'(by have := HN3.out; omega) := ⟨_, rfl⟩
     have hfm : ff ∈ L := by rw [hff]; exact List.getElem_mem _
     have HBW1 := hid (HBX1.out.trans (HBW.out.mono HBX1.out.size))
     have c0 := (HROW.out n (by have := HN3.out; omega)).2
     rw [← hff] at c0
     obtain ⟨Y, hY, HBWY, HTVY⟩ : ∃ Y, wr.drew = Y ∧ Hid (Below w1.heap.size w1 Y) ∧ Hid (Y.heap[X.heap.size]? = some (.cells (fiveRow [a0, a1, a2, a3, a4]) 61)) := ⟨_, rfl, hid HBW1.out.drew, HTV⟩
     have r0 := (HBWY.out.cell (p := ⟨gF, oF + n * 2 + 1, none⟩) hgF).trans c0
     have q0 := cell_of_row Y X.heap.size 0 _ _ (0, 0) HTVY.out
     have q1 := cell_of_row Y X.heap.size 1 _ _ (0, 0) HTVY.out
     have q2 := cell_of_row Y X.heap.size 2 _ _ (0, 0) HTVY.out
     have q3 := cell_of_row Y X.heap.size 3 _ _ (0, 0) HTVY.out
     have q4 := cell_of_row Y X.heap.size 4 _ _ (0, 0) HTVY.out
     simp only [fiveRow, tv, List.getElem?_toArray, List.getElem?_cons_zero, List.getElem?_cons_succ, List.getD_cons_zero, List.getD_cons_succ] at q0 q1 q2 q3 q4
     have HFFL : Hid ((L.map Fv.pr)[(L.map Fv.pr).length - 3]? = some ff.pr) := hid (by
       have e : (L.map Fv.pr).length - 3 = n := by rw [List.length_map]; have := HN3.out; omega
       rw [e, List.getElem?_map, List.getElem?_eq_getElem (by have := HN3.out; omega), ← hff]; rfl)
     have HFFM : Hid (RdB Y Y.heap.size ff.A ff.b ∧ ff.b.length ≤ ff.c ∧ ff.c ≤ 9223372036854775807 ∧ ff.b.length ≤ 65536) := hid (by
       obtain ⟨h1, h2, h3⟩ := ((HFR.out.below HBWY.out (Nat.le_refl _)).more HBWY.out.size).ok ff hfm
       exact ⟨h1, h2, h3, HSC.out.fit ff.pr (List.mem_map_of_mem hfm)⟩)
     obtain ⟨ffk, ffA, ffc, ffb⟩ := ff
     simp only at r0
     have HBXY : Hid (Below X.heap.size X Y) := hid (by rw [← hY]; exact HBW.out.drew)
     clear c0 hfm hff
     go_wp2_with fail
     refine region_still_tail 14 (by kernel_rfl) (by kernel_rfl) hY ?_
     clear hY
     simp only [List.take_succ_cons, List.take_zero, List.drop_succ_cons, List.drop_zero]
     have ixw : IntKind.i64.wrap (n : Int) = (n : Int) := by rw [IntKind.wrap_i64]; omega
     have hn0 : (0 : Int) ≤ (n : Int) := by omega
     have hnl : (n : Int) < (n : Int) + 3 := by omega
     repeat still_step
     refine wpStill_nil ?_
     go_wp2_with fail
     obtain ⟨FV, hFV⟩ : ∃ FV : Value, FV = .slice ffA ffb.length ffc := ⟨_, rfl⟩
     have hst : OpT Y Y.heap.size Y.heap.size FV (.int .i64 (a2 : Int)) (.int .i64 (a3 : Int)) (.int .i64 (a4 : Int)) none 0 [] none 0 [] (Y.alloc (.cells #[.slice none 0 0, FV, .int .i64 (a2 : Int), .int .i64 (a3 : Int), .int .i64 (a4 : Int), .int .i64 0] 72)) :=
       ⟨(OpR.start Y).call ((Below.refl _ _).alloc (Nat.le_refl _) _), heap_alloc_new Y _, OwnS.nil _ _ _, Nat.le_refl _, (fun p hp => by cases hp), List.nodup_nil⟩
     rw [← hFV]
     have HST := hid hst
     have HFRY := hid ((HFR.out.below HBWY.out (Nat.le_refl _)).more HBWY.out.size)
     have hgFY : gF < Y.heap.size := by have := HBWY.out.size; omega
     have HROWY : Hid (∀ k (hk : k < n) (hk2 : k < L.length), Y.cell? ⟨gF, oF + k * 2, none⟩ = some (.int .u8 (L[k].k.toNat : Int)) ∧ Y.cell? ⟨gF, oF + k * 2 + 1, none⟩ = some (.slice L[k].A L[k].b.length L[k].c)) := hid (fun k hk hk2 => ⟨(HBWY.out.cell (p := ⟨gF, oF + k * 2, none⟩) hgF).trans (HROW.out k hk2).1, (HBWY.out.cell (p := ⟨gF, oF + k * 2 + 1, none⟩) hgF).trans (HROW.out k hk2).2⟩)
     have HBY := hid (HB1.out.trans (HBWY.out.mono HB1.out.size))
     have HFV := hid hFV
     clear hst hFV r0 q0 q1 q2 q3 q4 ixw hn0 hnl
     go_loopw [14, 89] (fun al i wr => ∃ (k : Nat) (RA : Option Addr) (RC : Nat) (R : List Rv) (PA : Option Addr) (PC : Nat) (ps : List Pq), k ≤ n ∧ i = .int .i64 (k : Int) ∧ al = .slice RA R.length RC ∧ R.length ≤ 100000 ∧ Hid (ps.length = k) ∧ Hid (OpT Y Y.heap.size Y.heap.size FV (.int .i64 (a2 : Int)) (.int .i64 (a3 : Int)) (.int .i64 (a4 : Int)) RA RC R PA PC ps wr) ∧ Hid (Tb.TR b (L.map Fv.pr) k 0 R) ∧ Hid (PtsOf (L.map Fv.pr) ps)) (fun _ i _ => n - (intOf i).toNat)
     case atStart => exact ⟨0, none, 0, [], none, 0, [], by omega, rfl, rfl, by simp, hid rfl, HST, hid (Tb.TR.start _ _), hid (PtsOf.nil _)⟩
     case round =>
       obtain ⟨k, RA, RC, R, PA, PC, ps, hk, rfl, rfl, hR, HPS, HOP, HTR, HPT⟩ := hrel
       by_cases hlt : k < n
       · have hkL : k < L.length := by have := HN3.out; omega
         obtain ⟨f, hf⟩ : ∃ f, f = L[k] := ⟨_, rfl⟩
         have hfm : f ∈ L := by rw [hf]; exact List.getElem_mem _
         have c0 := (HROWY.out k hlt hkL).1
         have c1 := (HROWY.out k hlt hkL).2
         rw [← hf] at c0 c1
         have r0 := (HOP.out.recs.below.cell (p := ⟨gF, oF + k * 2, none⟩) hgFY).trans c0
         have r1 := (HOP.out.recs.below.cell (p := ⟨gF, oF + k * 2 + 1, none⟩) hgFY).trans c1
         have hok := HFRY.out.ok f hfm
         have hft : f.b.length ≤ 65536 := HSC.out.fit f.pr (List.mem_map_of_mem hfm)
         have hLk : (L.map Fv.pr)[k]? = some f.pr := by rw [List.getElem?_map, List.getElem?_eq_getElem hkL, ← hf]; rfl
         have hkl : k < (L.map Fv.pr).length - 3 := by rw [List.length_map]; have := HN3.out; omega
         obtain ⟨kn, hkn⟩ : ∃ kn, kn = f.k.toNat := ⟨_, rfl⟩
         rw [← hkn] at r0
         have hrdf : RdB wr wr.heap.size f.A f.b := (hok.1.below HOP.out.recs.below (Nat.le_refl _)).more HOP.out.recs.size
         obtain ⟨fk, fA, fc, fb⟩ := f
         simp only at r0 r1 hrdf hft hok hkn
         have KP := hid (parse_any fA fc fb (wr.alloc (.cells #[.int .u8 (kn : Int), .slice fA fb.length fc] 60)) (hrdf.alloc (Nat.le_refl _) _ |>.more (by simp)) hft hok.2.1 hok.2.2)
         have HLK := hid (And.intro hLk hkl)
         have HFT := hid hft
         have HRDF := hid hrdf
         have HOKY := hid hok
         clear c0 c1 hok hft hLk hfm hf hkn hrdf
         go_wp2_with fail
         refine KP.out.mono ?_
         rintro e w4 ⟨hb4, ⟨x, hx, rfl, hno⟩ | ⟨P, PPA, PPC, rfl, hop, hpl, hpb, hwf⟩⟩
         · have HNO := hid (Tb.block_no HLK.out.1 HLK.out.2 hno HSC.out HTN.out)
           have HBD := hid (HBY.out.trans ((HOP.out.recs.call (((Below.refl wr.heap.size wr).alloc (Nat.le_refl _) (.cells #[.int .u8 (kn : Int), .slice fA fb.length fc] 60)).trans (hb4.mono (by simp)))).below.mono HBY.out.size))
           have hx2 : (x == 0) = false := by simpa using hx
           have hx3 : (x != 0) = true := by simpa using hx
           clear hb4 hno hx
           go_wp2_with fail
           go_ret2
           refine openQ_no HBD.out HNO.out
         · have HBR := hid (Tb.BR.of (b := b) HLK.out.1 HLK.out.2 hwf)
           have hb14 : Below wr.heap.size wr w4 := ((Below.refl wr.heap.size wr).alloc (Nat.le_refl _) (.cells #[.int .u8 (kn : Int), .slice fA fb.length fc] 60)).trans (hb4.mono (by simp))
           have HOP4 := hid (HOP.out.call hb14)
           have hvr4 : w4.heap[wr.heap.size]? = some (.cells #[.int .u8 (kn : Int), .slice fA fb.length fc] 60) := (hb4.block _ (by simp)).trans (heap_alloc_new wr _)
           have HVR4 := hid hvr4
           have hszY : Y.heap.size ≤ wr.heap.size := HOP.out.recs.size
           have HWF := hid hwf
           have HPV := hid (hop.mono (base' := Y.heap.size) (by simp; omega))
           have HPB := hid hpb
           have hpl2 : P.length ≤ 65536 := Nat.le_trans hpl HFT.out
           have HBD := hid (HBY.out.trans (HOP4.out.recs.below.mono HBY.out.size))
           clear hb4 hb14 hop hpl hpb hwf hvr4
           by_cases hp0 : (P.length : Int) = 0
           · have HNO : Hid (∀ l s t, ¬ Tb.Is b l s t) := hid (by
               have h1 := HBR.out
               have h2 : P = [] := List.length_eq_zero_iff.1 (by omega)
               rw [h2] at h1
               exact Tb.BR.ne h1 HSC.out HTN.out)
             go_wp2_with fail
             go_ret2
             exact openQ_no HBD.out HNO.out
           have hp0b : ((P.length : Int) == 0) = false := by simpa using hp0
           by_cases hmx : (20000 : Int) < (R.length : Int)
           · have HNO : Hid (∀ l s t, ¬ Tb.Is b l s t) := hid (fun l s t hi => by
               have := HTR.out.few HSC.out HTN.out hi
               omega)
             go_wp2_with fail
             go_ret2
             exact openQ_no HBD.out HNO.out
           go_wp2_with fail
           obtain ⟨wo, hwo⟩ : ∃ wo, wo = wr := ⟨_, rfl⟩
           subst hwo
           go_loopw [14, 113] (fun al q wx => ∃ (j : Nat) (RA2 : Option Addr) (RC2 : Nat) (R2 : List Rv), j ≤ P.length ∧ q = .int .i64 (j : Int) ∧ al = .slice RA2 R2.length RC2 ∧ R2.length = R.length + j ∧ Hid (OpT Y Y.heap.size Y.heap.size FV (.int .i64 (a2 : Int)) (.int .i64 (a3 : Int)) (.int .i64 (a4 : Int)) RA2 RC2 R2 PA PC ps wx) ∧ Hid (OwnPv wx Y.heap.size PPA PPC P) ∧ Hid (wx.heap[wo.heap.size]? = some (.cells #[.int .u8 (kn : Int), .slice fA fb.length fc] 60)) ∧ Hid (Tb.TR b (L.map Fv.pr) k j R2)) (fun _ q _ => P.length - (intOf q).toNat)
           case atStart => exact ⟨0, RA, RC, R, by omega, rfl, rfl, rfl, HOP4, HPV, HVR4, HTR⟩
           case round =>
             obtain ⟨j, RA2, RC2, R2, hj, rfl, rfl, hR2, HO, HP, HVR, HT⟩ := hrel
             by_cases hjl : j < P.length
             · obtain ⟨pb, po, hPA, hpbl, hpc⟩ := RdS.row (f := Pv.cells) (n := 2) (fun _ => rfl) (by omega) HP.out.row.rd (by omega)
               subst hPA
               obtain ⟨p, hp⟩ : ∃ p, p = P[j] := ⟨_, rfl⟩
               have hpm : p ∈ P := by rw [hp]; exact List.getElem_mem hjl
               have s0 := hpc j hjl 0 _ rfl
               have s1 := hpc j hjl 1 _ rfl
               rw [← hp] at s0 s1
               have ho := HP.out.own p hpm
               have hbd := HPB.out p hpm
               have hba : ∀ o, Below wr.heap.size wr (wr.alloc o) := fun o => (Below.refl _ _).alloc (Nat.le_refl _) o
               have KR := hid (record_any p (wr.alloc (.cells #[.slice p.kA p.k.length p.kc, .slice p.vA p.v.length p.vc] 77)) Y.heap.size (HO.out.call (hba _)).recs.size (ho.1.hbs.below (hba _)) ho.1.cap ho.1.cap_le (ho.2.hbs.below (hba _)) ho.2.cap ho.2.cap_le (by have := HFT.out; omega) (by have := HFT.out; omega))
               have hPj : (P.map Pv.pr)[j]? = some p.pr := by rw [List.getElem?_map, List.getElem?_eq_getElem hjl, ← hp]; rfl
               have HPJ := hid hPj
               have HBD2 : Hid (p.k.length ≤ 70000 ∧ p.v.length ≤ 70000) := hid (by have := HFT.out; omega)
               obtain ⟨pkA, pkc, pk, pvA, pvc, pv⟩ := p
               simp only [Nat.add_zero] at s0 s1 KR HPJ HBD2
               clear hp hpm ho hbd hPj hpc hba
               go_wp2_with fail
               refine KR.out.mono ?_
               rintro e w5 ⟨hb5', ⟨rfl, hno⟩ | ⟨rc, rfl, hrec, hk1, hk2, hv1, hv2, hkl1, hvl1⟩⟩
               · have hb5 : Below wr.heap.size wr w5 := ((Below.refl _ _).alloc (Nat.le_refl _) _).trans (hb5'.mono (by simp))
                 have HNO := hid (HT.out.no HBR.out HPJ.out hno HSC.out HTN.out)
                 have HO5 := hid (HO.out.call hb5)
                 clear hb5 hb5' hno
                 go_wp2_with fail
                 go_ret2
                 exact openQ_no (HBY.out.trans ((HO5.out.call ((Below.refl _ _).alloc (Nat.le_refl _) _)).recs.below.mono HBY.out.size)) HNO.out
               · have hb5 : Below wr.heap.size wr w5 := ((Below.refl _ _).alloc (Nat.le_refl _) _).trans (hb5'.mono (by simp))
                 have HO5 := hid (HO.out.call hb5)
                 have HP5 := hid (HP.out.call hb5)
                 have HVR5 := hid ((hb5.block _ (Array.getElem?_eq_some_iff.1 HVR.out).1).trans HVR.out)
                 have HT5 := hid (HT.out.step HBR.out HPJ.out hrec)
                 obtain ⟨kA, kc, kk, seq, del, vA, vc, vv⟩ := rc
                 simp only at hk1 hk2 hv1 hv2 hkl1 hvl1
                 have HRI : Hid ((HBs w5 Y.heap.size kA kk ∧ kk.length ≤ kc ∧ HBs w5 Y.heap.size vA vv ∧ vv.length ≤ vc) ∧ kk.length ≤ 70000 ∧ vv.length ≤ 70000) := hid ⟨⟨hk1, hk2, hv1, hv2⟩, Nat.le_trans hkl1 HBD2.out.1, Nat.le_trans hvl1 HBD2.out.2⟩
                 have hR2b : R2.length ≤ 200000 := by omega
                 have hz5 := HO5.out.recs.size
                 clear hb5 hb5' hrec hk1 hk2 hv1 hv2 hkl1 hvl1
                 simp only [Rv.val]
                 go_wp2_with (at_builtin; refine wpList_append_s _ rfl _ _ recT rfl Y.heap.size RA2 RC2 R2 rfl ((HO5.out.recs.row.alloc _).alloc _) (w5.heap.size + 2) (some ⟨w5.heap.size + 1, 0, none⟩) 1 1 [⟨kA, kc, kk, seq, del, vA, vc, vv⟩] rfl rfl (rd_rec_new2 w5 _ ⟨kA, kc, kk, seq, del, vA, vc, vv⟩) (by simp; omega) (by unfold maxLen; simp; omega) (by simp; omega) ?_)
                 intro RA3 RC3 R3 w6 hR3 hoS hgS hatS
                 have hba : ∀ o o2, Below w5.heap.size w5 ((w5.alloc o).alloc o2) := fun o o2 => below_al2 w5 o o2
                 rw [hR3] at hoS
                 have HO6 := hid ((HO5.out.call (hba _ _)).app_rec (r := ⟨kA, kc, kk, seq, del, vA, vc, vv⟩) ⟨⟨HRI.out.1.1.below (hba _ _), HRI.out.1.2.1, HRI.out.1.2.2.1.below (hba _ _), HRI.out.1.2.2.2⟩, HRI.out.2⟩ hoS hgS)
                 have HP6 := hid ((HP5.out.call (hba _ _)).kept_rec (HO5.out.call (hba _ _)).recs.row hgS)
                 have hv5 := ((hba (.cells #[.slice kA kk.length kc, .int .i64 seq, .bool del, .slice vA vv.length vc] 35) (.cells #[.slice kA kk.length kc, .int .i64 seq, .bool del, .slice vA vv.length vc] 35)).block _ (Array.getElem?_eq_some_iff.1 HVR5.out).1).trans HVR5.out
                 have HVR6 := hid ((hgS.block _ (Array.getElem?_eq_some_iff.1 hv5).1 (fun e => by
                   obtain ⟨_, cs, fr, h1⟩ := ownS_tag (HO5.out.call (hba _ _)).recs.row e.symm
                   exact tag_ne2 hv5 h1 (by decide) rfl)).trans hv5)
                 obtain ⟨rr, hrr⟩ : ∃ rr : Rv, rr = ⟨kA, kc, kk, seq, del, vA, vc, vv⟩ := ⟨_, rfl⟩
                 rw [← hrr] at hR3 HO6 HT5
                 subst hR3
                 have hR3l : (R2 ++ [rr]).length = R.length + (j + 1) := by rw [List.length_append, hR2]; rfl
                 have HR3 := hid hR3l
                 clear hrr hoS hgS hatS hba HO5 HP5 HRI hR3l hv5 HVR5
                 go_wp2_with fail
                 go_roundw
                 case rel => exact ⟨j + 1, RA3, RC3, R2 ++ [rr], hjl, by simp, rfl, HR3.out, HO6, HP6, HVR6, HT5⟩
                 case measure =>
                   show P.length - ((j : Int) + 1).toNat < P.length - ((j : Int)).toNat
                   omega
             · have hje : j = P.length := by omega
               have HT2 : Hid (Tb.TR b (L.map Fv.pr) (k + 1) 0 R2) := hid (by
                 have h1 := HT.out
                 rw [hje] at h1
                 exact Tb.TR.block (P := P.map Pv.pr) (by rw [List.length_map]; exact h1) HBR.out)
               -- HERE30
               obtain ⟨pb, po, hPA, hpbl, hpc⟩ := RdS.row (f := Pv.cells) (n := 2) (fun _ => rfl) (by omega) HP.out.row.rd (by omega)
               subst hPA
               obtain ⟨m, hm⟩ : ∃ m, P.length = m + 1 := ⟨P.length - 1, by omega⟩
               obtain ⟨pl, hpl⟩ : ∃ pl, pl = P[m]'(by omega) := ⟨_, rfl⟩
               have s0 := hpc m (by omega) 0 _ rfl
               rw [← hpl, Nat.add_zero] at s0
               have ixp : IntKind.i64.wrap ((P.length : Int) - 1) = (m : Int) := by rw [IntKind.wrap_i64]; omega
               have hm0 : (0 : Int) ≤ (m : Int) := by omega
               have hml : (m : Int) < (P.length : Int) := by omega
               obtain ⟨pkA, pkc, pk, pvA, pvc, pv⟩ := pl
               have HR2L : Hid (R2.length = R.length + P.length) := hid (by rw [hR2, hje])
               have hs0' : wr.cell? ⟨pb, po + m * 2, none⟩ = some (.slice pkA pk.length pkc) := s0
               obtain ⟨V, hV⟩ : ∃ V, wr.drew = V := ⟨_, rfl⟩
               have hbV : Below wr.heap.size wr V := by rw [← hV]; exact (Below.refl _ _).drew
               have hbV2 := hbV
               have HOV := hid (HO.out.call hbV)
               have HVRV := hid ((hbV.block _ (Array.getElem?_eq_some_iff.1 HVR.out).1).trans HVR.out)
               have HLL : Hid (∀ l0, Blk.WFb fb l0 → Blk.lastK l0 = pk) := hid (fun l0 h0 => by
                 rw [HWF.out l0 h0, lastK_at (l := P.map Pv.pr) (m := m) (by rw [List.length_map]; exact hm), List.getElem_map, ← hpl]
                 rfl)
               have hplm : (⟨pkA, pkc, pk, pvA, pvc, pv⟩ : Pv) ∈ P := by rw [hpl]; exact List.getElem_mem _
               have hpo := (HP.out.own _ hplm).1
               have hpbd := (HPB.out _ hplm).1
               have HPQ : Hid (PqB V Y.heap.size ⟨V.heap.size, fA, fc, fb, pkA, pkc, pk⟩) := hid ⟨HOV.out.recs.size, ⟨(HOKY.out.1.below HOV.out.recs.below (Nat.le_refl _)).more HOV.out.recs.size, fun hne g hg => .inl (by
                   obtain ⟨ad, e, hlt, _⟩ := HOKY.out.1.2 (List.length_pos_iff.2 hne)
                   have e' : fA = some ad := e
                   have hg' : blk fA = some g := hg
                   rw [e'] at hg'
                   have : ad.block = g := by simpa [blk] using hg'
                   omega)⟩, HFT.out, HOKY.out.2.1, HOKY.out.2.2, (hpo.below hbV).hbs, by have := HFT.out; simp only at hpbd ⊢; omega, hpo.cap⟩
               clear hplm hpo hpbd
               have hpV := (hbV.cell (p := ⟨pb, po + m * 2, none⟩) hpbl).trans hs0'
               have hpbV : pb < V.heap.size := Nat.lt_of_lt_of_le hpbl hbV.size
               have HS0 : V.cell? ⟨Y.heap.size, 0, none⟩ = some (.slice PA ps.length PC) ∧ V.cell? ⟨wo.heap.size, 1, none⟩ = some (.slice fA fb.length fc) ∧ V.cell? ⟨pb, po + m * 2, none⟩ = some (.slice pkA pk.length pkc) := by
                 refine ⟨?_, ?_, hpV⟩
                 · rw [cell_of_row V Y.heap.size 0 _ _ (0, 0) HOV.out.box]; rfl
                 · rw [cell_of_row V wo.heap.size 1 _ _ (0, 0) HVRV.out]; rfl
               have hgtV := (Array.getElem?_eq_some_iff.1 HOV.out.box).1
               have hgvV := (Array.getElem?_eq_some_iff.1 HVRV.out).1
               have HSB : Hid (∀ Y', Below V.heap.size V Y' → Y'.cell? ⟨Y.heap.size, 0, none⟩ = some (.slice PA ps.length PC) ∧ Y'.cell? ⟨wo.heap.size, 1, none⟩ = some (.slice fA fb.length fc) ∧ Y'.cell? ⟨pb, po + m * 2, none⟩ = some (.slice pkA pk.length pkc)) := hid (fun Y' hb => ⟨(hb.cell (p := ⟨Y.heap.size, 0, none⟩) hgtV).trans HS0.1, (hb.cell (p := ⟨wo.heap.size, 1, none⟩) hgvV).trans HS0.2.1, (hb.cell (p := ⟨pb, po + m * 2, none⟩) hpbV).trans HS0.2.2⟩)
               have HM1 : Hid (P.length = m + 1) := hid hm
               clear hpl s0 hs0' hpc hpV hbV hm hje hR2
               go_wp2_with fail
               refine wp_region_E 20 (fun w' => w'.cell? ⟨Y.heap.size, 0, none⟩ = some (.slice PA ps.length PC) ∧ w'.cell? ⟨wo.heap.size, 1, none⟩ = some (.slice fA fb.length fc) ∧ w'.cell? ⟨pb, po + m * 2, none⟩ = some (.slice pkA pk.length pkc)) (by kernel_rfl) ?_
               rw [hV]
               clear hV
               refine wpAnyE_take (i := 0) (v := ?_) rfl (by kernel_rfl) (by kernel_rfl) (by kernel_rfl) (by kernel_rfl) (fun _ _ _ h => h) (Or.inl ⟨by rfl, ?_⟩) HS0 ?_
               rotate_left
               · (intro wy hSw; obtain ⟨s1, s2x, s3⟩ := hSw; go_simp; try with_reducible rfl)
               try simp only [Act.put, List.setIfInBounds_toArray]
               refine wpAnyE_take (i := 1) (v := ?_) rfl (by kernel_rfl) (by kernel_rfl) (by kernel_rfl) (by kernel_rfl) (fun _ _ _ h => h) (Or.inl ⟨by rfl, ?_⟩) HS0 ?_
               rotate_left
               · (intro wy hSw; obtain ⟨s1, s2x, s3⟩ := hSw; go_simp; try with_reducible rfl)
               try simp only [Act.put]
               refine wpAnyE_take (i := 2) (v := ?_) rfl (by kernel_rfl) (by kernel_rfl) (by kernel_rfl) (by kernel_rfl) (fun _ _ _ h => h) (Or.inl ⟨by rfl, ?_⟩) HS0 ?_
               rotate_left
               · (intro wy hSw; obtain ⟨s1, s2x, s3⟩ := hSw; go_simp; try with_reducible rfl)
               try simp only [Act.put]
               refine wpAnyE_take (i := 3) (v := ?_) rfl (by kernel_rfl) (by kernel_rfl) (by kernel_rfl) (by kernel_rfl) (fun _ _ _ h => h) (Or.inl ⟨by rfl, ?_⟩) HS0 ?_
               rotate_left
               · (intro wy hSw; obtain ⟨s1, s2x, s3⟩ := hSw; go_simp; try with_reducible rfl)
               try simp only [Act.put]
               refine wpAnyE_take (i := 4) (v := ?_) rfl (by kernel_rfl) (by kernel_rfl) (by kernel_rfl) (by kernel_rfl) (fun _ _ _ h => h) (Or.inl ⟨by rfl, ?_⟩) HS0 ?_
               rotate_left
               · (intro wy hSw; obtain ⟨s1, s2x, s3⟩ := hSw; go_simp; try with_reducible rfl)
               try simp only [Act.put]
               refine wpAnyE_take (i := 5) (v := ?_) rfl (by kernel_rfl) (by kernel_rfl) (by kernel_rfl) (by kernel_rfl) (fun _ _ _ h => h) (Or.inl ⟨by rfl, ?_⟩) HS0 ?_
               rotate_left
               · (intro wy hSw; obtain ⟨s1, s2x, s3⟩ := hSw; go_simp; try with_reducible rfl)
               try simp only [Act.put]
               refine wpAnyE_take (i := 6) (v := ?_) rfl (by kernel_rfl) (by kernel_rfl) (by kernel_rfl) (by kernel_rfl) (fun _ _ _ h => h) (Or.inl ⟨by rfl, ?_⟩) HS0 ?_
               rotate_left
               · (intro wy hSw; obtain ⟨s1, s2x, s3⟩ := hSw; go_simp; try with_reducible rfl)
               try simp only [Act.put]
               refine wpAnyE_take (i := 7) (v := ?_) rfl (by kernel_rfl) (by kernel_rfl) (by kernel_rfl) (by kernel_rfl) (fun _ _ _ h => h) (Or.inl ⟨by rfl, ?_⟩) HS0 ?_
               rotate_left
               · (intro wy hSw; obtain ⟨s1, s2x, s3⟩ := hSw; go_simp; try with_reducible rfl)
               try simp only [Act.put]
               refine wpAnyE_take (i := 8) (v := ?_) rfl (by kernel_rfl) (by kernel_rfl) (by kernel_rfl) (by kernel_rfl) (fun _ _ _ h => h) (Or.inl ⟨by rfl, ?_⟩) HS0 ?_
               rotate_left
               · (intro wy hSw; obtain ⟨s1, s2x, s3⟩ := hSw; go_simp; try with_reducible rfl)
               try simp only [Act.put]
               refine wpAnyE_take (i := 9) (v := ?_) rfl (by kernel_rfl) (by kernel_rfl) (by kernel_rfl) (by kernel_rfl) (fun _ _ _ h => h) (Or.inl ⟨by rfl, ?_⟩) HS0 ?_
               rotate_left
               · (intro wy hSw; obtain ⟨s1, s2x, s3⟩ := hSw; go_simp; try with_reducible rfl)
               try simp only [Act.put]
               refine wpAnyE_take (i := 10) (v := ?_) rfl (by kernel_rfl) (by kernel_rfl) (by kernel_rfl) (by kernel_rfl) (fun _ _ _ h => h) (Or.inl ⟨by rfl, ?_⟩) HS0 ?_
               rotate_left
               · (intro wy hSw; obtain ⟨s1, s2x, s3⟩ := hSw; go_simp; try with_reducible rfl)
               try simp only [Act.put]
               refine wpAnyE_take (i := 11) (v := ?_) rfl (by kernel_rfl) (by kernel_rfl) (by kernel_rfl) (by kernel_rfl) (fun _ _ _ h => h) (Or.inl ⟨by rfl, ?_⟩) HS0 ?_
               rotate_left
               · (intro wy hSw; obtain ⟨s1, s2x, s3⟩ := hSw; go_simp; try with_reducible rfl)
               try simp only [Act.put]
               refine wpAnyE_take (i := 12) (v := ?_) rfl (by kernel_rfl) (by kernel_rfl) (by kernel_rfl) (by kernel_rfl) (fun _ _ _ h => h) (Or.inl ⟨by rfl, ?_⟩) HS0 ?_
               rotate_left
               · (intro wy hSw; obtain ⟨s1, s2x, s3⟩ := hSw; go_simp; try with_reducible rfl)
               try simp only [Act.put]
               refine wpAnyE_take (i := 13) (v := ?_) rfl (by kernel_rfl) (by kernel_rfl) (by kernel_rfl) (by kernel_rfl) (fun _ _ _ h => h) (Or.inl ⟨by rfl, ?_⟩) HS0 ?_
               rotate_left
               · (intro wy hSw; obtain ⟨s1, s2x, s3⟩ := hSw; go_simp; try with_reducible rfl)
               try simp only [Act.put]
               refine wpAnyE_take (i := 14) (v := ?_) rfl (by kernel_rfl) (by kernel_rfl) (by kernel_rfl) (by kernel_rfl) (fun _ _ _ h => h) (Or.inl ⟨by rfl, ?_⟩) HS0 ?_
               rotate_left
               · (intro wy hSw; obtain ⟨s1, s2x, s3⟩ := hSw; go_simp; try with_reducible rfl)
               try simp only [Act.put]
               refine wpAnyE_one (i := 15) (by kernel_rfl) rfl (fun K hK => ?_)
               go_simp
               obtain ⟨ob, hob⟩ : ∃ ob : Obj, ob = .cells #[.slice fA fb.length fc, .slice pkA pk.length pkc, .int .u32 0, .int .i32 0, .int .u32 0, .slice none 0 0] 91 := ⟨_, rfl⟩
               have HOB := hid hob
               rw [← hob]
               clear hob
               refine hK _ _ (HSB.out _ ((Below.refl V.heap.size V).alloc (Nat.le_refl _) ob)) ?_
               try simp only [Act.put]
               refine wpAnyE_one (i := 16) (by kernel_rfl) rfl (fun K hK => ?_)
               go_simp
               have hb6 : ∀ o2, Below V.heap.size V ((V.alloc ob).alloc o2) := fun o2 => below_al2 V ob o2
               refine hK _ _ (HSB.out _ (hb6 _)) ?_
               try simp only [Act.put]
               have H6 := hid (HOV.out.call (hb6 (.cells #[.pointer (some ⟨V.heap.size, 0, none⟩)] 79)))
               have HPB6 := hid ((HP.out.call hbV2).call (hb6 (.cells #[.pointer (some ⟨V.heap.size, 0, none⟩)] 79)))
               have HV6 := hid (((hb6 (.cells #[.pointer (some ⟨V.heap.size, 0, none⟩)] 79)).block _ hgvV).trans HVRV.out)
               have hps : ps.length ≤ 2000000000 := by have := HPS.out; omega
               have hzV : Y.heap.size ≤ V.heap.size := HOV.out.recs.size
               refine wpAnyE_one (i := 17) (by kernel_rfl) rfl (fun K hK => ?_)
               refine step_append_sd _ (by rfl) (some 146) (by rfl) (.tmp 133) (.tmp 145) ptrT (by rfl) Y.heap.size PA PC (ps.map Pq.g) (by rw [List.length_map]; rfl) H6.out.row (V.heap.size + 2) (some ⟨V.heap.size + 1, 0, none⟩) 1 1 [V.heap.size] rfl rfl (rd_ptr_new2 V ob V.heap.size) (by simp; omega) (by unfold maxLen; simp; omega) (by simp; omega) ?_
               intro PA6 PC6 LL w6 hL ho6 hg6 hat6
               have hwr7 : Y.heap.size ≤ wo.heap.size := HOP.out.recs.size
               have hLn : LL.length = ps.length + 1 := by rw [hL]; simp
               have HFIN : Hid (OpT Y Y.heap.size Y.heap.size FV (.int .i64 (a2 : Int)) (.int .i64 (a3 : Int)) (.int .i64 (a4 : Int)) RA2 RC2 R2 PA6 PC6 (ps ++ [⟨V.heap.size, fA, fc, fb, pkA, pkc, pk⟩]) (w6.setCell ⟨Y.heap.size, 0, none⟩ (.slice PA6 (ps.length + 1) PC6))) := hid (by
                 have ho := ho6
                 rw [hL] at ho
                 refine H6.out.app_part ⟨HPQ.out.call (hb6 _), ?_⟩ (fun q hq e => ?_) ho hg6
                 · show ((V.alloc ob).alloc _).heap[V.heap.size]? = _
                   rw [HOB.out]
                   exact (((Below.refl _ _).alloc (Nat.le_refl _) _).block _ (by simp)).trans (heap_alloc_new V _)
                 · have h1 := (Array.getElem?_eq_some_iff.1 (HOV.out.parts q hq).box).1
                   have e' : q.g = V.heap.size := e
                   omega)
               have HPT2 : Hid (PtsOf (L.map Fv.pr) (ps ++ [⟨V.heap.size, fA, fc, fb, pkA, pkc, pk⟩])) := hid (HPT.out.snoc (f := Fv.pr ⟨fk, fA, fc, fb⟩) (by rw [HPS.out]; exact HLK.out.1) rfl HLL.out)
               have hbx6 : w6.heap[Y.heap.size]? = some (tbObj PA ps.length PC FV (.int .i64 (a2 : Int)) (.int .i64 (a3 : Int)) (.int .i64 (a4 : Int))) := by
                 refine (hg6.block _ (Array.getElem?_eq_some_iff.1 H6.out.box).1 (fun e => ?_)).trans H6.out.box
                 obtain ⟨_, cs, fr, h1⟩ := ownS_tag H6.out.row e.symm
                 exact tag_ne2 H6.out.box h1 (by decide) rfl
               have hvr6 : w6.heap[wo.heap.size]? = some (.cells #[.int .u8 (kn : Int), .slice fA fb.length fc] 60) := by
                 refine (hg6.block _ (Array.getElem?_eq_some_iff.1 HV6.out).1 (fun e => ?_)).trans HV6.out
                 obtain ⟨_, cs, fr, h1⟩ := ownS_tag H6.out.row e.symm
                 exact tag_ne2 HV6.out h1 (by decide) rfl
               have hpb6 : w6.cell? ⟨pb, po + m * 2, none⟩ = some (.slice pkA pk.length pkc) := by
                 obtain ⟨_, cs, fr, h1⟩ := ownS_tag HPB6.out.row (g := pb) rfl
                 refine (World.cell?_of_block (hg6.block pb (Array.getElem?_eq_some_iff.1 h1).1 (fun e => ?_))).trans (HSB.out _ (hb6 _)).2.2
                 obtain ⟨_, cs', fr', h2⟩ := ownS_tag H6.out.row e.symm
                 exact tag_ne2 h1 h2 (by decide) rfl
               have hS6 : w6.cell? ⟨Y.heap.size, 0, none⟩ = some (.slice PA ps.length PC) ∧ w6.cell? ⟨wo.heap.size, 1, none⟩ = some (.slice fA fb.length fc) ∧ w6.cell? ⟨pb, po + m * 2, none⟩ = some (.slice pkA pk.length pkc) := by
                 refine ⟨?_, ?_, hpb6⟩
                 · rw [cell_of_row w6 Y.heap.size 0 _ _ (0, 0) hbx6]; rfl
                 · rw [cell_of_row w6 wo.heap.size 1 _ _ (0, 0) hvr6]; rfl
               have fz6 : w6.frozen? ⟨Y.heap.size, 0, none⟩ = false := frozen_of_row w6 Y.heap.size 0 _ _ hbx6
               refine hK _ _ hS6 ?_
               try simp only [Act.put]
               refine wpAnyE_one (i := 18) (by kernel_rfl) rfl (fun K hK => ?_)
               go_simp
               refine hK _ _ hS6 ?_
               try simp only [Act.put]
               refine wpAnyE_one (i := 19) (by kernel_rfl) rfl (fun K hK => ?_)
               go_simp
               refine hK _ _ hS6 ?_
               try simp only [Act.put]
               obtain ⟨g1, g2, g3⟩ := hS6
               refine wpAnyE_last (by kernel_rfl) (by kernel_rfl) rfl (fun K hK => ?_)
               go_simp
               refine hK _ _ ?_
               have hR2b : R2.length ≤ 100000 := by have := HR2L.out; omega
               have HPS2 : Hid ((ps ++ [(⟨V.heap.size, fA, fc, fb, pkA, pkc, pk⟩ : Pq)]).length = k + 1) := hid (by rw [List.length_append, HPS.out]; rfl)
               obtain ⟨W7, hW7⟩ : ∃ W7, w6.setCell ⟨Y.heap.size, 0, none⟩ (.slice PA6 (ps.length + 1) PC6) = W7 := ⟨_, rfl⟩
               rw [hW7] at HFIN ⊢
               clear hW7 g1 g2 g3 fz6 hpb6 hvr6 hbx6 hLn hL ho6 hg6 hat6
               obtain ⟨pp, hpp⟩ : ∃ pp : Pq, pp = ⟨V.heap.size, fA, fc, fb, pkA, pkc, pk⟩ := ⟨_, rfl⟩
               rw [← hpp] at HFIN HPT2 HPS2
               clear hpp
               go_wp2_with fail
               go_roundw
               case rel => exact ⟨k + 1, RA2, RC2, R2, PA6, PC6, ps ++ [pp], hlt, by simp, rfl, hR2b, HPS2, HFIN, HT2, HPT2⟩
               case measure =>
                 show n - ((k : Int) + 1).toNat < n - ((k : Int)).toNat
                 omega
               -- THERE30
       · have hke : k = n := by omega
         have HTE : Hid (Tb.TR b (L.map Fv.pr) ((L.map Fv.pr).length - 3) 0 R) := hid (by
           have h1 := HTR.out
           have e : (L.map Fv.pr).length - 3 = k := by rw [List.length_map]; have := HN3.out; omega
           rw [e]; exact h1)
         have HFIVE : Hid (∀ l s t, Tb.Is b l s t → s = (a0 : Int) ∧ t = (a1 : Int) ∧ a2 = l.length ∧ (a3 : Int) = Tb.low l ∧ (a4 : Int) = Tb.high l) := hid (fun l s t hi => by
           have h1 := HN.out.all rfl hi
           unfold Tb.five at h1
           injection h1 with e0 h1
           injection h1 with e1 h1
           injection h1 with e2 h1
           injection h1 with e3 h1
           injection h1 with e4 h1
           have u := hi.unf
           have := u.s1; have := u.t1
           have hlo := low_nat u.r (by have := u.l1; omega)
           exact ⟨by omega, by omega, e2, by rw [e3]; exact hlo.1, by rw [e4]; exact hlo.2⟩)
         have hxy : X.heap.size < Y.heap.size := (Array.getElem?_eq_some_iff.1 HTVY.out).1
         have htv := (HOP.out.recs.below.block _ hxy).trans HTVY.out
         have q0 := cell_of_row wr X.heap.size 0 _ _ (0, 0) htv
         have q1 := cell_of_row wr X.heap.size 1 _ _ (0, 0) htv
         simp only [fiveRow, tv, List.getElem?_toArray, List.getElem?_cons_zero, List.getElem?_cons_succ, List.getD_cons_zero, List.getD_cons_succ] at q0 q1
         have KB := tbuild_any RA RC R (a0 : Int) (a1 : Int) wr HOP.out.recs.rd (by omega)
         obtain ⟨er, her⟩ : ∃ er, er = (Tb.build R (a0 : Int) (a1 : Int)).1 := ⟨_, rfl⟩
         obtain ⟨bb, hbb⟩ : ∃ bb, bb = (Tb.build R (a0 : Int) (a1 : Int)).2 := ⟨_, rfl⟩
         have HBE : Hid (Tb.build R (a0 : Int) (a1 : Int) = (er, bb)) := hid (by rw [her, hbb])
         rw [← her, ← hbb] at KB
         have HK := hid KB
         have HLAST : Hid ((er, bb) ≠ (0, b) → ∀ l s t, ¬ Tb.Is b l s t) := hid (fun hne => Tb.last_no HTE.out HSC.out HTN.out (fun l s t hi => ⟨(HFIVE.out l s t hi).1, (HFIVE.out l s t hi).2.1⟩) (by rw [HBE.out]; exact hne))
         clear KB her hbb htv
         go_wp2_with fail
         refine HK.out.mono ?_
         rintro e w4 ⟨hb4, ⟨hne, rfl⟩ | ⟨rfl, AA, ac, rfl, hoa⟩⟩
         · have HNO := hid (HLAST.out (fun e => hne (by injection e)))
           have HBD := hid (HBY.out.trans ((HOP.out.recs.call hb4).below.mono HBY.out.size))
           have hx2 : (er == 0) = false := by simpa using hne
           have hx3 : (er != 0) = true := by simpa using hne
           clear hb4 hne
           go_wp2_with fail
           go_ret2
           exact openQ_no HBD.out HNO.out
         · have HBD := hid (HBY.out.trans ((HOP.out.recs.call hb4).below.mono HBY.out.size))
           have KE := bytesEq_any AA A ac c bb b w4 hoa.rd (HH.out.below HBD.out (Nat.le_refl _) |>.more HBD.out.size)
           obtain ⟨q, hq⟩ : ∃ q, q = (bb == b) := ⟨_, rfl⟩
           rw [← hq] at KE
           have HK := hid KE
           have HQ := hid hq
           have HOPE := hid (HOP.out.call hb4)
           clear KE hq hb4 hoa
           rcases q with _ | _
           · have HNO := hid (HLAST.out (fun e => by
               have h1 := HQ.out
               injection e with _ e
               rw [e] at h1
               simp at h1))
             go_wp2_with fail
             refine HK.out.mono ?_
             rintro e w5 ⟨rfl, rfl⟩
             go_wp2_with fail
             go_ret2
             exact openQ_no HBD.out HNO.out
           · have hfx : bb = b := by have := HQ.out; simpa using this.symm
             have HIS : Hid (Tb.Is b R (a0 : Int) (a1 : Int)) := hid (by unfold Tb.Is; rw [HBE.out, hfx])
             have HALL : Hid (∀ l s t, Tb.Is b l s t → l.map Rv.core = R.map Rv.core) := hid (fun l s t hi => HTE.out.all HSC.out HTN.out hi)
             have HFV5 := hid (HFIVE.out _ _ _ HIS.out)
             clear hfx
             go_wp2_with fail
             refine HK.out.mono ?_
             rintro e w5 ⟨rfl, rfl⟩
             go_wp2_with fail
             go_ret2
             have hkk : ps.length = (L.map Fv.pr).length - 3 := by rw [List.length_map, HPS.out]; have := HN3.out; omega
             obtain ⟨rss, hrl, hR⟩ := open_fin HIS.out HSC.out hkk HPT.out HFFL.out ⟨Y.heap.size, PA, PC, ffA, ffc, ffb, (a2 : Int), (a3 : Int), (a4 : Int), []⟩ rfl (by show (a2 : Int) = _; rw [HFV5.out.2.2.1]) HFV5.out.2.2.2.1 HFV5.out.2.2.2.2
             refine ⟨HBD.out, .inr ⟨R, _, Y.heap.size, (a0 : Int), (a1 : Int), rfl, HBY.out.size, ?_, hR, HIS.out, HALL.out⟩⟩
             exact HOPE.out.tab HFV.out ⟨(HFFM.out.1.below HOPE.out.recs.below (Nat.le_refl _)).more HOPE.out.recs.size, fun hne g hg => .inl (by
                   obtain ⟨ad, e, hlt, _⟩ := HFFM.out.1.2 (List.length_pos_iff.2 hne)
                   have e' : ffA = some ad := e
                   have hg' : blk ffA = some g := hg
                   rw [e'] at hg'
                   have : ad.block = g := by simpa [blk] using hg'
                   omega)⟩ HFFM.out.2.1 HFFM.out.2.2.1 HFFM.out.2.2.2 rss hrl
namespace Tb
theorem Is.first {b : List UInt8} {l : List Rv} {s t : Int} (h : Is b l s t) : b.head? = some 68 := by
 obtain ⟨gs, fs, hf⟩ := h.frames
 obtain ⟨f, ix, e⟩ := hf.form
 obtain ⟨g, gs', rfl⟩ := List.exists_cons_of_ne_nil hf.ne
 have hb := hf.scan.1
 rw [e] at hb
 rw [hb]; rfl
theorem Is.pos {b : List UInt8} {l : List Rv} {s t : Int} (h : Is b l s t) : 0 < b.length := by
 have := h.first
 cases b with
 | nil => cases this
 | cons a b => simp
theorem Is.long {b : List UInt8} {l : List Rv} {s t : Int} (h : Is b l s t) (hl : l.length ≤ 2000) : b.length ≤ 900000000 := by
 have u := h.unf
 have hb := run_bnd s l u.r u.l2 l.length (Nat.le_refl _)
 rw [List.take_length] at hb
 have h1 := (bnd_close hb (by omega)).1
 have h2 := hb.out
 rw [u.eq, List.length_append]
 unfold ends
 simp only [List.flatMap_cons, List.flatMap_nil, List.append_nil, List.length_append]
 have p1 := putL_len 70 (Blm.build t.toNat (l.map Rv.k))
 have p2 := putL_len 73 (blkB 16 (close (run s l)).index)
 have p3 := putL_len 90 (nums [s.toNat, t.toNat, l.length, (low l).toNat, (high l).toNat])
 omega
theorem is_of {l : List Rv} {s t : Int} (h : (build l s t).1 = 0) : Is (build l s t).2 l s t := by
 unfold Is
 rw [← h]
def one : Rv := ⟨none, 0, [97], 2, false, none, 0, []⟩
theorem one_built : (build [one] 64 10).1 = 0 := by decide +kernel
end Tb
namespace Tb
theorem less_trans : ∀ (a b c : List UInt8), Op.bytesLess a b = true → Op.bytesLess b c = true → Op.bytesLess a c = true
 | a, [], _, h, _ => by cases a <;> simp [Op.bytesLess] at h
 | _, _ :: _, [], _, h => by simp [Op.bytesLess] at h
 | [], _ :: _, _ :: _, _, _ => rfl
 | x :: a, y :: b, z :: c, h1, h2 => by
   simp only [Op.bytesLess, Bool.or_eq_true, Bool.and_eq_true, decide_eq_true_eq, beq_iff_eq] at h1 h2 ⊢
   rcases h1 with h1 | ⟨rfl, h1⟩
   · rcases h2 with h2 | ⟨rfl, h2⟩
     · left; rw [UInt8.lt_iff_toNat_lt] at *; omega
     · exact .inl h1
   · rcases h2 with h2 | ⟨rfl, h2⟩
     · exact .inl h2
     · exact .inr ⟨rfl, less_trans a b c h1 h2⟩
theorem less_irr (a : List UInt8) : Op.bytesLess a a = false := by
 induction a with
 | nil => rfl
 | cons x a ih =>
   show (decide (x < x) || (x == x && Op.bytesLess a a)) = false
   rw [ih]
   have : ¬ x < x := by rw [UInt8.lt_iff_toNat_lt]; omega
   simp [this]
theorem ahead_iff (a b : Rv) : ahead a b = true ↔ Op.bytesLess a.k b.k = true ∨ (a.k = b.k ∧ b.seq < a.seq) := by
 unfold ahead
 rw [Bool.or_eq_true, Bool.and_eq_true, decide_eq_true_eq, beq_iff_eq]
theorem ahead_trans {a b c : Rv} (h1 : ahead a b = true) (h2 : ahead b c = true) : ahead a c = true := by
 rw [ahead_iff] at *
 rcases h1 with h1 | ⟨e1, h1⟩
 · rcases h2 with h2 | ⟨e2, h2⟩
   · exact .inl (less_trans _ _ _ h1 h2)
   · rw [← e2]; exact .inl h1
 · rcases h2 with h2 | ⟨e2, h2⟩
   · rw [e1]; exact .inl h2
   · exact .inr ⟨e1.trans e2, by omega⟩
theorem sorted_lt {l : List Rv} (h : sorted l = true) (i : Nat) : ∀ (d : Nat) (hj : i + d + 1 < l.length), ahead (l[i]'(by omega)) (l[i + d + 1]'hj) = true
 | 0, hj => by
   have := sorted_at h hj (by omega)
   simpa using this
 | d + 1, hj => by
   have h1 := sorted_lt h i d (by omega)
   have h2 := sorted_at h (i := i + (d + 1) + 1) hj (by omega)
   exact ahead_trans h1 h2
theorem sorted_any {l : List Rv} (h : sorted l = true) {i j : Nat} (hij : i < j) (hj : j < l.length) : ahead (l[i]'(by omega)) (l[j]'hj) = true := by
 obtain ⟨d, rfl⟩ : ∃ d, j = i + d + 1 := ⟨j - i - 1, by omega⟩
 exact sorted_lt h i d hj
theorem ahead_core {a b c d : Rv} (h1 : a.core = b.core) (h2 : c.core = d.core) : ahead a c = ahead b d := by
 unfold Rv.core at h1 h2
 injection h1 with e1 h1; injection h1 with e2 h1
 injection h2 with e3 h2; injection h2 with e4 h2
 unfold ahead
 rw [e1, e2, e3, e4]
def ask (k : List UInt8) (seq : Int) : Rv := ⟨none, 0, k, seq, false, none, 0, []⟩
structure Pos (R : List Rv) (q : Rv) (P : Nat) : Prop where
 le : P ≤ R.length
 lo : ∀ m (h : m < R.length), m < P → ahead R[m] q = true
 hi : ∀ m (h : m < R.length), P ≤ m → ahead R[m] q = false
theorem ikey_less (a b : List UInt8) (s t : Int) (hs1 : 1 ≤ s) (hs2 : s ≤ 1099511627776) (ht1 : 1 ≤ t) (ht2 : t ≤ 1099511627776) :
   Op.bytesLess (ikey a s) (ikey b t) = true ↔ Op.bytesLess a b = true ∨ (a = b ∧ t < s) := by
 have e := Cod.key_order (iparts a (1099511627776 - s).toNat) (iparts b (1099511627776 - t).toNat) (fun p hp => by
   simp only [iparts, List.mem_cons, List.not_mem_nil, or_false] at hp
   rcases hp with rfl | rfl <;> simp <;> omega) (fun p hp => by
   simp only [iparts, List.mem_cons, List.not_mem_nil, or_false] at hp
   rcases hp with rfl | rfl <;> simp <;> omega)
 unfold ikey
 rw [e]
 unfold iparts
 by_cases hk : a = b
 · have e1 : Cod.ptSame ⟨true, 0, ⟨a.toArray⟩⟩ ⟨true, 0, ⟨b.toArray⟩⟩ = true := by unfold Cod.ptSame; simp [hk]
   rw [show Cod.less [⟨true, 0, ⟨a.toArray⟩⟩, ⟨false, (1099511627776 - s).toNat, ⟨#[]⟩⟩] [⟨true, 0, ⟨b.toArray⟩⟩, ⟨false, (1099511627776 - t).toNat, ⟨#[]⟩⟩] = Cod.less [⟨false, (1099511627776 - s).toNat, ⟨#[]⟩⟩] [⟨false, (1099511627776 - t).toNat, ⟨#[]⟩⟩] from by
     conv => lhs; unfold Cod.less
     rw [if_pos e1]]
   have hirr : Op.bytesLess a b = false := by rw [hk]; exact less_irr b
   rw [hirr]
   by_cases hst : s = t
   · have e2 : Cod.ptSame ⟨false, (1099511627776 - s).toNat, ⟨#[]⟩⟩ ⟨false, (1099511627776 - t).toNat, ⟨#[]⟩⟩ = true := by unfold Cod.ptSame; simp [hst]
     unfold Cod.less
     rw [if_pos e2]
     unfold Cod.less
     simp [hst]
   · have e2 : Cod.ptSame ⟨false, (1099511627776 - s).toNat, ⟨#[]⟩⟩ ⟨false, (1099511627776 - t).toNat, ⟨#[]⟩⟩ = false := by unfold Cod.ptSame; simp; omega
     unfold Cod.less
     rw [if_neg (by rw [e2]; simp)]
     unfold Cod.ptLess
     simp [hk]
     omega
 · have e1 : Cod.ptSame ⟨true, 0, ⟨a.toArray⟩⟩ ⟨true, 0, ⟨b.toArray⟩⟩ = false := by unfold Cod.ptSame; simp [hk]
   unfold Cod.less
   rw [if_neg (by rw [e1]; simp)]
   unfold Cod.ptLess
   simp [hk]
end Tb
def Ti.off (t : Ti) (j : Nat) : Nat := ((t.ps.take j).map (·.2)).flatten.length
theorem Ti.off_zero (t : Ti) : t.off 0 = 0 := rfl
theorem Ti.off_succ (t : Ti) {j : Nat} (h : j < t.ps.length) : t.off (j + 1) = t.off j + t.ps[j].2.length := by
 unfold Ti.off
 rw [List.take_succ_eq_append_getElem h, List.map_append, List.flatten_append, List.length_append]
 simp only [List.map_cons, List.map_nil, List.flatten_cons, List.flatten_nil, List.append_nil]
theorem Ti.off_le (t : Ti) {i j : Nat} (h : i ≤ j) (hj : j ≤ t.ps.length) : t.off i ≤ t.off j := by
 induction j with
 | zero => rw [Nat.le_zero.1 h]; exact Nat.le_refl _
 | succ j ih =>
   rcases Nat.lt_or_ge i (j + 1) with h1 | h1
   · have := ih (by omega) (by omega)
     rw [t.off_succ (by omega)]; omega
   · have : i = j + 1 := by omega
     rw [this]; exact Nat.le_refl _
section
variable {t : Ti} {R : List Rv} {bits : Nat}
theorem TbR.off_all (h : TbR t R bits) : t.off t.ps.length = R.length := by
 unfold Ti.off
 rw [List.take_length, h.flat]
theorem TbR.drop (h : TbR t R bits) (j : Nat) : R.drop (t.off j) = ((t.ps.drop j).map (·.2)).flatten := by
 have e : R = ((t.ps.take j).map (·.2)).flatten ++ ((t.ps.drop j).map (·.2)).flatten := by
   rw [← List.flatten_append, ← List.map_append, List.take_append_drop, h.flat]
 conv => lhs; rw [e]
 unfold Ti.off
 rw [List.drop_left']
 rfl
theorem TbR.at_ (h : TbR t R bits) {j m : Nat} (hj : j < t.ps.length) (hm : m < t.ps[j].2.length) : ∃ h1 : t.off j + m < R.length, R[t.off j + m] = t.ps[j].2[m] := by
 have e := h.drop j
 rw [List.drop_eq_getElem_cons hj, List.map_cons, List.flatten_cons] at e
 have h2 : (R.drop (t.off j))[m]? = some (t.ps[j].2[m]) := by
   rw [e, List.getElem?_append_left hm, List.getElem?_eq_getElem hm]
 rw [List.getElem?_drop] at h2
 obtain ⟨h3, h4⟩ := List.getElem?_eq_some_iff.1 h2
 exact ⟨h3, h4⟩
theorem TbR.pne (h : TbR t R bits) {j : Nat} (hj : j < t.ps.length) : 0 < t.ps[j].2.length := List.length_pos_iff.2 (h.prt _ (List.getElem_mem hj)).ne
theorem PqR.lastk {p : Pq} {rs : List Rv} (h : PqR p rs) {m : Nat} (hm : rs.length = m + 1) : p.k = Tb.ikey (rs[m]'(by omega)).k (rs[m]'(by omega)).seq := by
 rw [← h.last, lastK_at (m := m) (by rw [List.length_map]; exact hm), List.getElem_map]
 rfl
theorem TbR.cmp (h : TbR t R bits) (k : List UInt8) (seq : Int) (h1 : 1 ≤ seq) (h2 : seq ≤ 1099511627776) {j : Nat} (hj : j < t.ps.length) :
   Lib.compareBytes t.ps[j].1.k (Tb.ikey k seq) < 0 ↔ ∀ m (hm : m < R.length), m < t.off (j + 1) → Tb.ahead R[m] (Tb.ask k seq) = true := by
 obtain ⟨n, hn⟩ : ∃ n, t.ps[j].2.length = n + 1 := ⟨t.ps[j].2.length - 1, by have := h.pne hj; omega⟩
 have hp := h.prt _ (List.getElem_mem hj)
 obtain ⟨a1, a2⟩ := h.at_ hj (m := n) (by omega)
 have hr := (Tb.right_iff _).1 (hp.rt _ (List.getElem_mem (show n < t.ps[j].2.length by omega)))
 have ho := t.off_succ hj
 rw [compareBytes_lt, hp.lastk hn, Tb.ikey_less _ _ _ _ (by omega) (by omega) h1 h2, ← a2]
 have key : (Op.bytesLess R[t.off j + n].k k = true ∨ R[t.off j + n].k = k ∧ seq < R[t.off j + n].seq) ↔ Tb.ahead R[t.off j + n] (Tb.ask k seq) = true := by rw [Tb.ahead_iff]; exact Iff.rfl
 rw [key]
 constructor
 · intro h3 m hm hlt
   by_cases e : m = t.off j + n
   · subst e; exact h3
   · exact Tb.ahead_trans (Tb.sorted_any h.srt (by omega) a1) h3
 · intro h3
   exact h3 _ a1 (by omega)
def SeekQ (t : Ti) (R : List Rv) (q : Rv) (at_ i : Nat) : Prop := (∃ h : at_ < t.ps.length, i < t.ps[at_].2.length ∧ Tb.Pos R q (t.off at_ + i)) ∨ (at_ = t.ps.length ∧ i = 0 ∧ Tb.Pos R q R.length)
theorem TbR.behind (h : TbR t R bits) (k : List UInt8) (seq : Int) (h1 : 1 ≤ seq) (h2 : seq ≤ 1099511627776) (ha : ∀ j (hj : j < t.ps.length), Lib.compareBytes t.ps[j].1.k (Tb.ikey k seq) < 0) : SeekQ t R (Tb.ask k seq) t.ps.length 0 := by
 refine .inr ⟨rfl, rfl, Nat.le_refl _, fun m hm _ => ?_, fun m hm h3 => by omega⟩
 have hl := List.length_pos_iff.2 h.ne
 have := (h.cmp k seq h1 h2 (j := t.ps.length - 1) (by omega)).1 (ha _ (by omega)) m hm
 rw [Nat.sub_add_cancel (by omega), h.off_all] at this
 exact this hm
theorem TbR.found (h : TbR t R bits) (k : List UInt8) (seq : Int) (h1 : 1 ≤ seq) (h2 : seq ≤ 1099511627776) {a i : Nat} (ha : a < t.ps.length) (hlo : ∀ j (hj : j < t.ps.length), j < a → Lib.compareBytes t.ps[j].1.k (Tb.ikey k seq) < 0)
   (hhi : ¬ Lib.compareBytes t.ps[a].1.k (Tb.ikey k seq) < 0) (hi : i ≤ t.ps[a].2.length) (ilo : ∀ m (hm : m < t.ps[a].2.length), m < i → Tb.ahead t.ps[a].2[m] (Tb.ask k seq) = true) (ihi : ∀ m (hm : m < t.ps[a].2.length), i ≤ m → Tb.ahead t.ps[a].2[m] (Tb.ask k seq) = false) :
   SeekQ t R (Tb.ask k seq) a i := by
 have hoff := t.off_succ ha
 have hle : t.off (a + 1) ≤ R.length := by rw [← h.off_all]; exact t.off_le (by omega) (Nat.le_refl _)
 have hlow : ∀ m (hm : m < R.length), m < t.off a → Tb.ahead R[m] (Tb.ask k seq) = true := fun m hm hlt => by
   rcases Nat.eq_zero_or_pos a with e | e
   · subst e; rw [t.off_zero] at hlt; omega
   · have := (h.cmp k seq h1 h2 (j := a - 1) (by omega)).1 (hlo _ (by omega) (by omega)) m hm
     rw [Nat.sub_add_cancel e] at this
     exact this hlt
 have hil : i < t.ps[a].2.length := by
   rcases Nat.lt_or_ge i t.ps[a].2.length with h3 | h3
   · exact h3
   · exfalso
     apply hhi
     rw [h.cmp k seq h1 h2 ha]
     intro m hm hlt
     rcases Nat.lt_or_ge m (t.off a) with h4 | h4
     · exact hlow m hm h4
     · obtain ⟨n, rfl⟩ : ∃ n, m = t.off a + n := ⟨m - t.off a, by omega⟩
       obtain ⟨_, e⟩ := h.at_ ha (m := n) (by omega)
       rw [e]
       exact ilo n (by omega) (by omega)
 have hbase : ∀ m (hm : m < R.length), t.off a + i ≤ m → Tb.ahead R[m] (Tb.ask k seq) = false := fun m hm hge => by
   obtain ⟨a1, a2⟩ := h.at_ ha hil
   have h3 := ihi i hil (Nat.le_refl _)
   rw [← a2] at h3
   by_cases e : m = t.off a + i
   · subst e; exact h3
   · cases hx : Tb.ahead R[m] (Tb.ask k seq) with
     | false => rfl
     | true =>
       rw [Tb.ahead_trans (Tb.sorted_any h.srt (i := t.off a + i) (by omega) hm) hx] at h3
       cases h3
 refine .inl ⟨ha, hil, by omega, fun m hm hlt => ?_, hbase⟩
 rcases Nat.lt_or_ge m (t.off a) with h4 | h4
 · exact hlow m hm h4
 · obtain ⟨n, rfl⟩ : ∃ n, m = t.off a + n := ⟨m - t.off a, by omega⟩
   obtain ⟨_, e⟩ := h.at_ ha (m := n) (by omega)
   rw [e]
   exact ilo n (by omega) (by omega)
end
namespace Tb
def get (R : List Rv) (k : List UInt8) (seq : Int) : Option Rv := R.find? (fun r => r.k == k && decide (r.seq ≤ seq))
def fromL (R : List Rv) (k : List UInt8) : List Rv := R.filter (fun r => !Op.bytesLess r.k k)
theorem Pos.get {R : List Rv} {k : List UInt8} {seq : Int} {P : Nat} (hs : sorted R = true) (h : Pos R (ask k seq) P) : get R k seq = match R[P]? with | none => none | some r => if r.k = k then some r else none := by
 unfold Tb.get
 have hlo : ∀ m (hm : m < R.length), m < P → (R[m].k == k && decide (R[m].seq ≤ seq)) = false := fun m hm hlt => by
   have h1 := (ahead_iff _ _).1 (h.lo m hm hlt)
   rw [Bool.and_eq_false_iff]
   rcases h1 with h1 | ⟨_, h1⟩
   · left
     rw [beq_eq_false_iff_ne]
     intro e
     have h2 : Op.bytesLess R[m].k k = true := h1
     rw [e, less_irr] at h2; cases h2
   · right
     have h2 : seq < R[m].seq := h1
     simp; omega
 by_cases hP : P < R.length
 · rw [List.getElem?_eq_getElem hP]
   simp only
   have h1 := h.hi P hP (Nat.le_refl _)
   by_cases e : R[P].k = k
   · rw [if_pos e, List.find?_eq_some_iff_getElem]
     refine ⟨?_, P, hP, rfl, fun j hj => by rw [hlo j (by omega) hj]; rfl⟩
     have h2 : ¬ ahead R[P] (ask k seq) = true := by rw [h1]; simp
     rw [ahead_iff] at h2
     simp only [ask] at h2
     simp [e]
     by_cases h3 : seq < R[P].seq
     · exact absurd (.inr ⟨e, h3⟩) h2
     · omega
   · rw [if_neg e, List.find?_eq_none]
     intro r hr
     obtain ⟨m, hm, rfl⟩ := List.mem_iff_getElem.1 hr
     rcases Nat.lt_or_ge m P with h2 | h2
     · rw [hlo m hm h2]; simp
     · have h3 := h.hi m hm h2
       -- a key behind
       have h4 : R[m].k ≠ k := fun e2 => by
         rcases Nat.lt_or_ge P m with h5 | h5
         · have h6 := (ahead_iff _ _).1 (sorted_any hs h5 hm)
           have h7 : Op.bytesLess R[P].k k = true := by
             rcases h6 with h6 | ⟨h6, _⟩
             · rw [e2] at h6; exact h6
             · exact absurd (h6.trans e2) e
           have h8 : ahead R[P] (ask k seq) = true := (ahead_iff _ _).2 (.inl h7)
           rw [h1] at h8; cases h8
         · have : m = P := by omega
           subst this
           exact e e2
       simp [h4]
 · rw [List.getElem?_eq_none (by omega), List.find?_eq_none]
   intro r hr
   obtain ⟨m, hm, rfl⟩ := List.mem_iff_getElem.1 hr
   rw [hlo m hm (by omega)]; simp
theorem filter_split {α : Type} (f : α → Bool) : ∀ (l : List α) (P : Nat), (∀ m (h : m < l.length), m < P → f l[m] = false) → (∀ m (h : m < l.length), P ≤ m → f l[m] = true) → l.filter f = l.drop P
 | [], P, _, _ => by simp
 | a :: l, 0, _, h2 => by
   rw [List.drop_zero, List.filter_eq_self]
   intro x hx
   obtain ⟨m, hm, rfl⟩ := List.mem_iff_getElem.1 hx
   exact h2 m hm (by omega)
 | a :: l, P + 1, h1, h2 => by
   have h0 : f a = false := h1 0 (by simp) (by omega)
   rw [List.filter_cons_of_neg (by rw [h0]; simp), List.drop_succ_cons]
   exact filter_split f l P (fun m h hlt => h1 (m + 1) (by simp; omega) (by omega)) (fun m h hge => h2 (m + 1) (by simp; omega) (by omega))
theorem Pos.from {R : List Rv} {k : List UInt8} {P : Nat} (hr : ∀ r ∈ R, right r = true) (h : Pos R (ask k 1099511627776) P) : fromL R k = R.drop P := by
 unfold fromL
 refine filter_split _ R P (fun m hm hlt => ?_) (fun m hm hge => ?_)
 · have h1 := (ahead_iff _ _).1 (h.lo m hm hlt)
   rcases h1 with h1 | ⟨_, h1⟩
   · have h2 : Op.bytesLess R[m].k k = true := h1
     rw [h2]; rfl
   · have h2 : (1099511627776 : Int) < R[m].seq := h1
     have h3 := (right_iff _).1 (hr _ (List.getElem_mem hm))
     omega
 · have h1 := h.hi m hm hge
   cases hx : Op.bytesLess R[m].k k with
   | false => rfl
   | true =>
     have h2 : ahead R[m] (ask k 1099511627776) = true := (ahead_iff _ _).2 (.inl hx)
     rw [h1] at h2; cases h2
theorem find_congr {α : Type} {f g : α → Bool} : ∀ (l : List α), (∀ x ∈ l, f x = g x) → l.find? f = l.find? g
 | [], _ => rfl
 | a :: l, h => by
   rw [List.find?_cons, List.find?_cons, h a (by simp), find_congr l (fun x hx => h x (by simp [hx]))]
theorem get_min {R : List Rv} (hr : ∀ r ∈ R, right r = true) (k : List UInt8) (seq : Int) : get R k seq = get R k (min seq 1099511627776) := by
 unfold get
 have : ∀ r ∈ R, (r.k == k && decide (r.seq ≤ seq)) = (r.k == k && decide (r.seq ≤ min seq 1099511627776)) := fun r hm => by
   have h3 := (right_iff _).1 (hr _ hm)
   congr 1
   rw [decide_eq_decide]
   omega
 exact find_congr R this
theorem get_low {R : List Rv} (hr : ∀ r ∈ R, right r = true) (k : List UInt8) (seq : Int) (h : seq < 1) : get R k seq = none := by
 unfold get
 rw [List.find?_eq_none]
 intro r hm
 have h3 := (right_iff _).1 (hr _ hm)
 simp; omega
theorem get_no {R : List Rv} (k : List UInt8) (seq : Int) (h : ∀ r ∈ R, r.k ≠ k) : get R k seq = none := by
 unfold get
 rw [List.find?_eq_none]
 intro r hm
 simp [h r hm]
end Tb
end Go.Proofs.YtgafionfojnieaaGreatDoor
