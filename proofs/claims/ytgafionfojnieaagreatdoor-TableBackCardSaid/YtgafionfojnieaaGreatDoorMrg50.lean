/- Parts of the proof, one behind the other: The contract of table.Open. -/
import Derived.Test.YtgafionfojnieaaGreatDoorMrg44
namespace Go.Proofs.YtgafionfojnieaaGreatDoor
open Go.RowKit
open Lib (hid)
def tv (t : List Nat) (i : Nat) : Value := .int .i64 ((t.getD i 0 : Nat) : Int)
def fiveRow (t : List Nat) : Array Value := #[tv t 0, tv t 1, tv t 2, tv t 3, tv t 4]
theorem fiveRow_put {t : List Nat} (h : t.length < 5) (m : Nat) : (fiveRow t).setIfInBounds t.length (.int .i64 (m : Int)) = fiveRow (t ++ [m]) := by
 match t, h with
 | [], _ => rfl
 | [_], _ => rfl
 | [_, _], _ => rfl
 | [_, _, _], _ => rfl
 | [_, _, _, _], _ => rfl
theorem fiveRow_at {t : List Nat} {k : Nat} (h : k < 5) : ∃ v, (fiveRow t)[k]? = some v := by
 match k, h with
 | 0, _ => exact ⟨_, rfl⟩
 | 1, _ => exact ⟨_, rfl⟩
 | 2, _ => exact ⟨_, rfl⟩
 | 3, _ => exact ⟨_, rfl⟩
 | 4, _ => exact ⟨_, rfl⟩
set_option maxHeartbeats 8000000 in
set_option maxRecDepth 100000 in
theorem topen_any (A : Option Addr) (c : Nat) (b : List UInt8) (w : World) (h : RdB w w.heap.size A b) (hl : b.length ≤ 1000000000) (hc : b.length ≤ c) (hcc : c ≤ 9223372036854775807) :
   Calls Tryz.prog 6 #[.slice A b.length c] w (OpenQ w b) := by
 have KS := hid (scan_any A c b w h hl hc hcc)
 have HH := hid h
 clear h
 go_enter Tryz.func6, Tryz.ntmps6
 go_wp2_with fail
 refine KS.out.mono ?_
 rintro e w1 ⟨L, r, FA, FC, hsc, htn, rfl, hfr, hlc, hfc, hb1⟩
 have HSC := hid hsc
 have HTN := hid htn
 have HFR := hid hfr
 have HB1 := hid hb1
 have hlb := hsc.len
 rw [List.length_map] at hlb
 have HG0 : Hid (∀ w', Below w.heap.size w w' → (r ≠ [] ∨ L.length < 4) → OpenQ w b (.returned (.tuple #[.pointer none, .int .i64 3])) w') := hid (fun w' hb' hx => openQ_no hb' (Tb.scan_no HSC.out HTN.out (by rw [List.length_map]; exact hx)))
 have HGN : Hid (∀ w', Below w1.heap.size w1 w' → (∀ l s t, ¬ Tb.Is b l s t) → OpenQ w b (.returned (.tuple #[.pointer none, .int .i64 3])) w') := hid (fun w' hb' hx => openQ_no (HB1.out.trans (hb'.mono HB1.out.size)) hx)
 clear KS hsc htn hfr hb1
 by_cases hr : r = []
 case neg =>
   have h1 : 0 < r.length := List.length_pos_iff.2 hr
   have hne : ((b.length : Int) - (r.length : Int) != (b.length : Int)) = true := by simp; omega
   have hwr : IntKind.i64.wrap ((b.length : Int) - (r.length : Int)) = (b.length : Int) - (r.length : Int) := by rw [IntKind.wrap_i64]; omega
   have HR := hid hr
   clear hr
   go_wp2_with fail
   go_ret2
   exact HG0.out _ HB1.out (.inl HR.out)
 subst hr
 have hb0 : (b.length : Int) - (([] : List UInt8).length : Int) = (b.length : Int) := by simp
 rw [hb0]
 clear hb0
 by_cases h4 : (L.length : Int) ≤ 3
 · have HR := hid h4
   go_wp2_with fail
   go_ret2
   exact HG0.out _ HB1.out (.inr (by have := HR.out; omega))
 have h4' : 4 ≤ L.length := by omega
 obtain ⟨n, hn⟩ : ∃ n, n = L.length - 3 := ⟨_, rfl⟩
 have hn3 : L.length = n + 3 := by omega
 obtain ⟨gF, oF, rfl, hgF, hrow⟩ := HFR.out.row2 (by omega)
 have HROW := hid hrow
 obtain ⟨f, hf⟩ : ∃ f, f = L[n + 2]'(by omega) := ⟨_, rfl⟩
 have hfm : f ∈ L := by rw [hf]; exact List.getElem_mem _
 have c1 := (hrow (n + 2) (by omega)).2
 rw [← hf] at c1
 have hok := HFR.out.ok f hfm
 have hft : f.b.length ≤ 65536 := HSC.out.fit f.pr (List.mem_map_of_mem hfm)
 have hNR : Tb.NR b [] f.b := Tb.NR.start HSC.out HTN.out (p := f.pr) (by
   rw [List.length_map, hn3, List.getElem?_map, List.getElem?_eq_getElem (by omega), ← (show f = L[n + 3 - 1]'(by omega) from hf)]; rfl)
 have HNR := hid hNR
 have HOK := hid hok
 have HFB := hid hft
 have HN3 := hid hn3
 have ix : IntKind.i64.wrap (((n + 3 : Nat) : Int) - 1) = ((n + 2 : Nat) : Int) := by rw [IntKind.wrap_i64]; omega
 have ixn : IntKind.i64.wrap (((n + 3 : Nat) : Int) - 3) = (n : Int) := by rw [IntKind.wrap_i64]; omega
 rw [hn3]
 rw [hn3] at hlc hlb
 obtain ⟨fk, fA, fc, fb⟩ := f
 simp only at c1 HNR HFB HOK
 have h4n : ¬ (((n + 3 : Nat) : Int) ≤ 3) := by omega
 have hn1 : 1 ≤ n := by omega
 clear hrow hf hfm hok hft hNR hn h4 h4' hn3
 go_wp2_with fail
 go_quiet (fail)
 refine drewN_any ?_
 intro X hbX hX
 have HBX := hid (HB1.out.trans (hbX.mono HB1.out.size))
 have HBX1 := hid hbX
 clear hbX hX
 go_wp2_with fail
 have ht0 : (X.alloc (.cells #[.int .i64 0, .int .i64 0, .int .i64 0, .int .i64 0, .int .i64 0] 61)).heap[X.heap.size]? = some (.cells (fiveRow []) 61) := heap_alloc_new X _
 have HT0 := hid ht0
 have HRF : Hid (HBs (X.alloc (.cells #[.int .i64 0, .int .i64 0, .int .i64 0, .int .i64 0, .int .i64 0] 61)) X.heap.size fA fb) := hid ⟨((HOK.out.1.below HBX1.out (Nat.le_refl _)).more HBX1.out.size).alloc (Nat.le_refl _) _ |>.more (by simp), fun hne g hg => .inl (by
   obtain ⟨ad, e, hlt, _⟩ := HOK.out.1.2 (List.length_pos_iff.2 hne)
   rw [e] at hg
   have : ad.block = g := by simpa [blk] using hg
   have := HBX1.out.size
   omega)⟩
 have hfc1 := HOK.out.2.1
 have hfc2 := HOK.out.2.2
 have hfb := HFB.out
 clear ht0
 go_loopw [7, 51] (fun rr kk wr => ∃ (k : Nat) (told : List Nat) (RA : Option Addr) (RC : Nat) (rest : List UInt8), k ≤ 5 ∧ Hid (k = told.length) ∧ kk = .int .i64 (k : Int) ∧ rr = .slice RA rest.length RC ∧ rest.length ≤ 65536 ∧ rest.length ≤ RC ∧ RC ≤ 9223372036854775807 ∧ Hid (HBs wr X.heap.size RA rest) ∧ Hid (Tb.NR b told rest) ∧ Hid (Below X.heap.size X wr) ∧ Hid (wr.heap[X.heap.size]? = some (.cells (fiveRow told) 61)) ∧ Hid (∀ m ∈ told, m ≤ 1099511627776)) (fun _ kk _ => 5 - (intOf kk).toNat)
 case atStart => exact ⟨0, [], fA, fc, fb, by simp, hid rfl, rfl, rfl, hfb, hfc1, hfc2, HRF, HNR, hid ((Below.refl _ _).alloc (Nat.le_refl _) _), HT0, hid (fun m hm => by cases hm)⟩
 case round =>
   obtain ⟨k, told, RA, RC, rest, htl, HKK, rfl, rfl, hrl, hrc, hrcc, HRD, HN, HBW, HTV, HTM⟩ := hrel
   by_cases hk5 : k < 5
   · obtain ⟨v0, hv0⟩ := fiveRow_at (t := told) hk5
     have q0 := cell_of_row wr X.heap.size k _ _ (0, 0) HTV.out
     rw [hv0] at q0
     have f0 := frozen_of_row wr X.heap.size k _ _ HTV.out
     have KT := takeF_any RA RC rest wr HRD.out.rd (by omega) hrc hrcc
     clear hv0
     cases ht : Cod.take rest with
     | none =>
       rw [ht] at KT
       have HK := hid KT
       have HNO := hid (HN.out.no (by rw [← HKK.out]; exact hk5) ht)
       clear KT ht
       go_wp2_with fail
       refine HK.out.mono ?_
       rintro e w3 ⟨hb3, rfl⟩
       have HB3 := hid (HBX1.out.trans ((HBW.out.trans (hb3.mono (by have := HBW.out.size; omega))).mono HBX1.out.size))
       clear hb3
       go_wp2_with fail
       go_ret2
       exact HGN.out _ HB3.out HNO.out
     | some v1 =>
       obtain ⟨m, r1⟩ := v1
       rw [ht] at KT
       have HK := hid KT
       have HNS := hid (HN.out.step (by rw [← HKK.out]; exact hk5) ht)
       have HNB := hid (HN.out.big (by rw [← HKK.out]; exact hk5) ht)
       have e1 := Cod.take_number ht
       have hr1 : r1.length ≤ rest.length := by
         have h1 := congrArg List.length e1
         rw [List.length_append] at h1; omega
       have hrne : rest ≠ [] := fun e => by rw [e] at ht; cases ht
       have HRNE := hid hrne
       clear KT ht e1 hrne
       by_cases hbig : (1099511627776 : Int) < (m : Int)
       · have HNO := hid (HNB.out (by omega))
         go_wp2_with fail
         refine HK.out.mono ?_
         rintro e w3 ⟨hb3, A1, d1, rfl, hd1, hdd1, hrd1, hfr1⟩
         have HB3 := hid (HBX1.out.trans ((HBW.out.trans (hb3.mono (by have := HBW.out.size; omega))).mono HBX1.out.size))
         clear hb3 hrd1 hfr1
         go_wp2_with fail
         go_ret2
         exact HGN.out _ HB3.out HNO.out
       have hbig2 : (m : Int) ≤ 1099511627776 := by omega
       have hmw : IntKind.i64.wrap (m : Int) = (m : Int) := by rw [IntKind.wrap_i64]; omega
       go_wp2_with fail
       refine HK.out.mono ?_
       rintro e w3 ⟨hb3, A1, d1, rfl, hd1, hdd1, hrd1, hfr1⟩
       have HBW3 := hid (HBW.out.trans (hb3.mono (by have := HBW.out.size; omega)))
       have hlt0 : X.heap.size < wr.heap.size := (Array.getElem?_eq_some_iff.1 HTV.out).1
       have HTV3 := hid ((hb3.block _ hlt0).trans HTV.out)
       have q1 := (hb3.cell (p := ⟨X.heap.size, k, none⟩) hlt0).trans q0
       have f1 := frozen_of_row w3 X.heap.size k _ _ HTV3.out
       have HRD1 := hid (HRD.out.frs HRNE.out hb3 hfr1 hrd1)
       clear hb3 hrd1 hfr1 q0 f0 hlt0
       go_wp2_with fail
       refine ⟨?_, ?measure⟩
       (iterate 28 apply Exists.intro)
       refine ⟨?rel, rfl⟩
       case rel =>
         refine ⟨k + 1, told ++ [m], A1, d1, r1, hk5, hid (by rw [List.length_append, ← HKK.out]; rfl), by simp, rfl, by omega, hd1, hdd1, hid (HRD1.out.set_tag HTV3.out (by decide) (Nat.le_refl _)), HNS, hid (HBW3.out.setCell (Nat.le_refl _) _), hid ?_, hid ?_⟩
         · have h1 := heap_setCell_same w3 X.heap.size k _ _ (.int .i64 (m : Int)) HTV3.out
           have h2 := fiveRow_put (t := told) (by rw [← HKK.out]; exact hk5) m
           rw [← HKK.out] at h2
           rw [h2] at h1
           exact h1
         · intro x hx
           simp only [List.mem_append, List.mem_singleton] at hx
           rcases hx with hx | hx
           · exact HTM.out x hx
           · rw [hx]; omega
       case measure =>
         show 5 - ((k : Int) + 1).toNat < 5 - ((k : Int)).toNat
         omega
   · have hk5' : k = 5 := by omega
     subst hk5'
     obtain ⟨a0, a1, a2, a3, a4, rfl⟩ : ∃ a0 a1 a2 a3 a4, told = [a0, a1, a2, a3, a4] := by
       have hk := HKK.out
       match told, hk with
       | [a0, a1, a2, a3, a4], _ => exact ⟨a0, a1, a2, a3, a4, rfl⟩
     obtain ⟨ff, hff⟩ : ∃ ff, ff = L[n]'(by have := HN3.out; omega) := ⟨_, rfl⟩
     have hfm : ff ∈ L := by rw [hff]; exact List.getElem_mem _
     have HBW1 := hid (HBX1.out.trans (HBW.out.mono HBX1.out.size))
     have c0 := (HROW.out n (by have := HN3.out; omega)).2
     rw [← hff] at c0
     obtain ⟨Y, hY, HBWY, HTVY⟩ : ∃ Y, wr.drew = Y ∧ Hid (Below w1.heap.size w1 Y) ∧ Hid (Y.heap[X.heap.size]? = some (.cells (fiveRow [a0, a1, a2, a3, a4]) 61)) := ⟨_, rfl, hid HBW1.out.drew, HTV⟩
     have r0 := (HBWY.out.cell (p := ⟨gF, oF + n * 2 + 1, none⟩) hgF).trans c0
     have q0 := cell_of_row Y X.heap.size 0 _ _ (0, 0) HTVY.out
     have q1 := cell_of_row Y X.heap.size 1 _ _ (0, 0) HTVY.out
     have q2 := cell_of_row Y X.heap.size 2 _ _ (0, 0) HTVY.out
     have q3 := cell_of_row Y X.heap.size 3 _ _ (0, 0) HTVY.out
     have q4 := cell_of_row Y X.heap.size 4 _ _ (0, 0) HTVY.out
     simp only [fiveRow, tv, List.getElem?_toArray, List.getElem?_cons_zero, List.getElem?_cons_succ, List.getD_cons_zero, List.getD_cons_succ] at q0 q1 q2 q3 q4
     have HFFL : Hid ((L.map Fv.pr)[(L.map Fv.pr).length - 3]? = some ff.pr) := hid (by
       have e : (L.map Fv.pr).length - 3 = n := by rw [List.length_map]; have := HN3.out; omega
       rw [e, List.getElem?_map, List.getElem?_eq_getElem (by have := HN3.out; omega), ← hff]; rfl)
     have HFFM : Hid (RdB Y Y.heap.size ff.A ff.b ∧ ff.b.length ≤ ff.c ∧ ff.c ≤ 9223372036854775807 ∧ ff.b.length ≤ 65536) := hid (by
       obtain ⟨h1, h2, h3⟩ := ((HFR.out.below HBWY.out (Nat.le_refl _)).more HBWY.out.size).ok ff hfm
       exact ⟨h1, h2, h3, HSC.out.fit ff.pr (List.mem_map_of_mem hfm)⟩)
     obtain ⟨ffk, ffA, ffc, ffb⟩ := ff
     simp only at r0
     have HBXY : Hid (Below X.heap.size X Y) := hid (by rw [← hY]; exact HBW.out.drew)
     clear c0 hfm hff
     go_wp2_with fail
     refine region_still_tail 14 (by kernel_rfl) (by kernel_rfl) hY ?_
     clear hY
     simp only [List.take_succ_cons, List.take_zero, List.drop_succ_cons, List.drop_zero]
     have ixw : IntKind.i64.wrap (n : Int) = (n : Int) := by rw [IntKind.wrap_i64]; omega
     have hn0 : (0 : Int) ≤ (n : Int) := by omega
     have hnl : (n : Int) < (n : Int) + 3 := by omega
     repeat still_step
     refine wpStill_nil ?_
     go_wp2_with fail
     obtain ⟨FV, hFV⟩ : ∃ FV : Value, FV = .slice ffA ffb.length ffc := ⟨_, rfl⟩
     have hst : OpT Y Y.heap.size Y.heap.size FV (.int .i64 (a2 : Int)) (.int .i64 (a3 : Int)) (.int .i64 (a4 : Int)) none 0 [] none 0 [] (Y.alloc (.cells #[.slice none 0 0, FV, .int .i64 (a2 : Int), .int .i64 (a3 : Int), .int .i64 (a4 : Int), .int .i64 0] 72)) :=
       ⟨(OpR.start Y).call ((Below.refl _ _).alloc (Nat.le_refl _) _), heap_alloc_new Y _, OwnS.nil _ _ _, Nat.le_refl _, (fun p hp => by cases hp), List.nodup_nil⟩
     rw [← hFV]
     have HST := hid hst
     have HFRY := hid ((HFR.out.below HBWY.out (Nat.le_refl _)).more HBWY.out.size)
     have hgFY : gF < Y.heap.size := by have := HBWY.out.size; omega
     have HROWY : Hid (∀ k (hk : k < n) (hk2 : k < L.length), Y.cell? ⟨gF, oF + k * 2, none⟩ = some (.int .u8 (L[k].k.toNat : Int)) ∧ Y.cell? ⟨gF, oF + k * 2 + 1, none⟩ = some (.slice L[k].A L[k].b.length L[k].c)) := hid (fun k hk hk2 => ⟨(HBWY.out.cell (p := ⟨gF, oF + k * 2, none⟩) hgF).trans (HROW.out k hk2).1, (HBWY.out.cell (p := ⟨gF, oF + k * 2 + 1, none⟩) hgF).trans (HROW.out k hk2).2⟩)
     have HBY := hid (HB1.out.trans (HBWY.out.mono HB1.out.size))
     have HFV := hid hFV
     clear hst hFV r0 q0 q1 q2 q3 q4 ixw hn0 hnl
     go_loopw [14, 89] (fun al i wr => ∃ (k : Nat) (RA : Option Addr) (RC : Nat) (R : List Rv) (PA : Option Addr) (PC : Nat) (ps : List Pq), k ≤ n ∧ i = .int .i64 (k : Int) ∧ al = .slice RA R.length RC ∧ R.length ≤ 100000 ∧ Hid (ps.length = k) ∧ Hid (OpT Y Y.heap.size Y.heap.size FV (.int .i64 (a2 : Int)) (.int .i64 (a3 : Int)) (.int .i64 (a4 : Int)) RA RC R PA PC ps wr) ∧ Hid (Tb.TR b (L.map Fv.pr) k 0 R) ∧ Hid (PtsOf (L.map Fv.pr) ps)) (fun _ i _ => n - (intOf i).toNat)
     case atStart => exact ⟨0, none, 0, [], none, 0, [], by omega, rfl, rfl, by simp, hid rfl, HST, hid (Tb.TR.start _ _), hid (PtsOf.nil _)⟩
     case round =>
       obtain ⟨k, RA, RC, R, PA, PC, ps, hk, rfl, rfl, hR, HPS, HOP, HTR, HPT⟩ := hrel
       by_cases hlt : k < n
       · have hkL : k < L.length := by have := HN3.out; omega
         obtain ⟨f, hf⟩ : ∃ f, f = L[k] := ⟨_, rfl⟩
         have hfm : f ∈ L := by rw [hf]; exact List.getElem_mem _
         have c0 := (HROWY.out k hlt hkL).1
         have c1 := (HROWY.out k hlt hkL).2
         rw [← hf] at c0 c1
         have r0 := (HOP.out.recs.below.cell (p := ⟨gF, oF + k * 2, none⟩) hgFY).trans c0
         have r1 := (HOP.out.recs.below.cell (p := ⟨gF, oF + k * 2 + 1, none⟩) hgFY).trans c1
         have hok := HFRY.out.ok f hfm
         have hft : f.b.length ≤ 65536 := HSC.out.fit f.pr (List.mem_map_of_mem hfm)
         have hLk : (L.map Fv.pr)[k]? = some f.pr := by rw [List.getElem?_map, List.getElem?_eq_getElem hkL, ← hf]; rfl
         have hkl : k < (L.map Fv.pr).length - 3 := by rw [List.length_map]; have := HN3.out; omega
         obtain ⟨kn, hkn⟩ : ∃ kn, kn = f.k.toNat := ⟨_, rfl⟩
         rw [← hkn] at r0
         have hrdf : RdB wr wr.heap.size f.A f.b := (hok.1.below HOP.out.recs.below (Nat.le_refl _)).more HOP.out.recs.size
         obtain ⟨fk, fA, fc, fb⟩ := f
         simp only at r0 r1 hrdf hft hok hkn
         have KP := hid (parse_any fA fc fb (wr.alloc (.cells #[.int .u8 (kn : Int), .slice fA fb.length fc] 60)) (hrdf.alloc (Nat.le_refl _) _ |>.more (by simp)) hft hok.2.1 hok.2.2)
         have HLK := hid (And.intro hLk hkl)
         have HFT := hid hft
         have HRDF := hid hrdf
         have HOKY := hid hok
         clear c0 c1 hok hft hLk hfm hf hkn hrdf
         go_wp2_with fail
         refine KP.out.mono ?_
         rintro e w4 ⟨hb4, ⟨x, hx, rfl, hno⟩ | ⟨P, PPA, PPC, rfl, hop, hpl, hpb, hwf⟩⟩
         · have HNO := hid (Tb.block_no HLK.out.1 HLK.out.2 hno HSC.out HTN.out)
           have HBD := hid (HBY.out.trans ((HOP.out.recs.call (((Below.refl wr.heap.size wr).alloc (Nat.le_refl _) (.cells #[.int .u8 (kn : Int), .slice fA fb.length fc] 60)).trans (hb4.mono (by simp)))).below.mono HBY.out.size))
           have hx2 : (x == 0) = false := by simpa using hx
           have hx3 : (x != 0) = true := by simpa using hx
           clear hb4 hno hx
           go_wp2_with fail
           go_ret2
           refine openQ_no HBD.out HNO.out
         · have HBR := hid (Tb.BR.of (b := b) HLK.out.1 HLK.out.2 hwf)
           have hb14 : Below wr.heap.size wr w4 := ((Below.refl wr.heap.size wr).alloc (Nat.le_refl _) (.cells #[.int .u8 (kn : Int), .slice fA fb.length fc] 60)).trans (hb4.mono (by simp))
           have HOP4 := hid (HOP.out.call hb14)
           have hvr4 : w4.heap[wr.heap.size]? = some (.cells #[.int .u8 (kn : Int), .slice fA fb.length fc] 60) := (hb4.block _ (by simp)).trans (heap_alloc_new wr _)
           have HVR4 := hid hvr4
           have hszY : Y.heap.size ≤ wr.heap.size := HOP.out.recs.size
           have HWF := hid hwf
           have HPV := hid (hop.mono (base' := Y.heap.size) (by simp; omega))
           have HPB := hid hpb
           have hpl2 : P.length ≤ 65536 := Nat.le_trans hpl HFT.out
           have HBD := hid (HBY.out.trans (HOP4.out.recs.below.mono HBY.out.size))
           clear hb4 hb14 hop hpl hpb hwf hvr4
           by_cases hp0 : (P.length : Int) = 0
           · have HNO : Hid (∀ l s t, ¬ Tb.Is b l s t) := hid (by
               have h1 := HBR.out
               have h2 : P = [] := List.length_eq_zero_iff.1 (by omega)
               rw [h2] at h1
               exact Tb.BR.ne h1 HSC.out HTN.out)
             go_wp2_with fail
             go_ret2
             exact openQ_no HBD.out HNO.out
           have hp0b : ((P.length : Int) == 0) = false := by simpa using hp0
           by_cases hmx : (20000 : Int) < (R.length : Int)
           · have HNO : Hid (∀ l s t, ¬ Tb.Is b l s t) := hid (fun l s t hi => by
               have := HTR.out.few HSC.out HTN.out hi
               omega)
             go_wp2_with fail
             go_ret2
             exact openQ_no HBD.out HNO.out
           go_wp2_with fail
           obtain ⟨wo, hwo⟩ : ∃ wo, wo = wr := ⟨_, rfl⟩
           subst hwo
           go_loopw [14, 113] (fun al q wx => ∃ (j : Nat) (RA2 : Option Addr) (RC2 : Nat) (R2 : List Rv), j ≤ P.length ∧ q = .int .i64 (j : Int) ∧ al = .slice RA2 R2.length RC2 ∧ R2.length = R.length + j ∧ Hid (OpT Y Y.heap.size Y.heap.size FV (.int .i64 (a2 : Int)) (.int .i64 (a3 : Int)) (.int .i64 (a4 : Int)) RA2 RC2 R2 PA PC ps wx) ∧ Hid (OwnPv wx Y.heap.size PPA PPC P) ∧ Hid (wx.heap[wo.heap.size]? = some (.cells #[.int .u8 (kn : Int), .slice fA fb.length fc] 60)) ∧ Hid (Tb.TR b (L.map Fv.pr) k j R2)) (fun _ q _ => P.length - (intOf q).toNat)
           case atStart => exact ⟨0, RA, RC, R, by omega, rfl, rfl, rfl, HOP4, HPV, HVR4, HTR⟩
           case round =>
             obtain ⟨j, RA2, RC2, R2, hj, rfl, rfl, hR2, HO, HP, HVR, HT⟩ := hrel
             by_cases hjl : j < P.length
             · obtain ⟨pb, po, hPA, hpbl, hpc⟩ := RdS.row (f := Pv.cells) (n := 2) (fun _ => rfl) (by omega) HP.out.row.rd (by omega)
               subst hPA
               obtain ⟨p, hp⟩ : ∃ p, p = P[j] := ⟨_, rfl⟩
               have hpm : p ∈ P := by rw [hp]; exact List.getElem_mem hjl
               have s0 := hpc j hjl 0 _ rfl
               have s1 := hpc j hjl 1 _ rfl
               rw [← hp] at s0 s1
               have ho := HP.out.own p hpm
               have hbd := HPB.out p hpm
               have hba : ∀ o, Below wr.heap.size wr (wr.alloc o) := fun o => (Below.refl _ _).alloc (Nat.le_refl _) o
               have KR := hid (record_any p (wr.alloc (.cells #[.slice p.kA p.k.length p.kc, .slice p.vA p.v.length p.vc] 77)) Y.heap.size (HO.out.call (hba _)).recs.size (ho.1.hbs.below (hba _)) ho.1.cap ho.1.cap_le (ho.2.hbs.below (hba _)) ho.2.cap ho.2.cap_le (by have := HFT.out; omega) (by have := HFT.out; omega))
               have hPj : (P.map Pv.pr)[j]? = some p.pr := by rw [List.getElem?_map, List.getElem?_eq_getElem hjl, ← hp]; rfl
               have HPJ := hid hPj
               have HBD2 : Hid (p.k.length ≤ 70000 ∧ p.v.length ≤ 70000) := hid (by have := HFT.out; omega)
               obtain ⟨pkA, pkc, pk, pvA, pvc, pv⟩ := p
               simp only [Nat.add_zero] at s0 s1 KR HPJ HBD2
               clear hp hpm ho hbd hPj hpc hba
               go_wp2_with fail
               refine KR.out.mono ?_
               rintro e w5 ⟨hb5', ⟨rfl, hno⟩ | ⟨rc, rfl, hrec, hk1, hk2, hv1, hv2, hkl1, hvl1⟩⟩
               · have hb5 : Below wr.heap.size wr w5 := ((Below.refl _ _).alloc (Nat.le_refl _) _).trans (hb5'.mono (by simp))
                 have HNO := hid (HT.out.no HBR.out HPJ.out hno HSC.out HTN.out)
                 have HO5 := hid (HO.out.call hb5)
                 clear hb5 hb5' hno
                 go_wp2_with fail
                 go_ret2
                 exact openQ_no (HBY.out.trans ((HO5.out.call ((Below.refl _ _).alloc (Nat.le_refl _) _)).recs.below.mono HBY.out.size)) HNO.out
               · have hb5 : Below wr.heap.size wr w5 := ((Below.refl _ _).alloc (Nat.le_refl _) _).trans (hb5'.mono (by simp))
                 have HO5 := hid (HO.out.call hb5)
                 have HP5 := hid (HP.out.call hb5)
                 have HVR5 := hid ((hb5.block _ (Array.getElem?_eq_some_iff.1 HVR.out).1).trans HVR.out)
                 have HT5 := hid (HT.out.step HBR.out HPJ.out hrec)
                 obtain ⟨kA, kc, kk, seq, del, vA, vc, vv⟩ := rc
                 simp only at hk1 hk2 hv1 hv2 hkl1 hvl1
                 have HRI : Hid ((HBs w5 Y.heap.size kA kk ∧ kk.length ≤ kc ∧ HBs w5 Y.heap.size vA vv ∧ vv.length ≤ vc) ∧ kk.length ≤ 70000 ∧ vv.length ≤ 70000) := hid ⟨⟨hk1, hk2, hv1, hv2⟩, Nat.le_trans hkl1 HBD2.out.1, Nat.le_trans hvl1 HBD2.out.2⟩
                 have hR2b : R2.length ≤ 200000 := by omega
                 have hz5 := HO5.out.recs.size
                 clear hb5 hb5' hrec hk1 hk2 hv1 hv2 hkl1 hvl1
                 simp only [Rv.val]
                 go_wp2_with (at_builtin; refine wpList_append_s _ rfl _ _ recT rfl Y.heap.size RA2 RC2 R2 rfl ((HO5.out.recs.row.alloc _).alloc _) (w5.heap.size + 2) (some ⟨w5.heap.size + 1, 0, none⟩) 1 1 [⟨kA, kc, kk, seq, del, vA, vc, vv⟩] rfl rfl (rd_rec_new2 w5 _ ⟨kA, kc, kk, seq, del, vA, vc, vv⟩) (by simp; omega) (by unfold maxLen; simp; omega) (by simp; omega) ?_)
                 intro RA3 RC3 R3 w6 hR3 hoS hgS hatS
                 have hba : ∀ o o2, Below w5.heap.size w5 ((w5.alloc o).alloc o2) := fun o o2 => below_al2 w5 o o2
                 rw [hR3] at hoS
                 have HO6 := hid ((HO5.out.call (hba _ _)).app_rec (r := ⟨kA, kc, kk, seq, del, vA, vc, vv⟩) ⟨⟨HRI.out.1.1.below (hba _ _), HRI.out.1.2.1, HRI.out.1.2.2.1.below (hba _ _), HRI.out.1.2.2.2⟩, HRI.out.2⟩ hoS hgS)
                 have HP6 := hid ((HP5.out.call (hba _ _)).kept_rec (HO5.out.call (hba _ _)).recs.row hgS)
                 have hv5 := ((hba (.cells #[.slice kA kk.length kc, .int .i64 seq, .bool del, .slice vA vv.length vc] 35) (.cells #[.slice kA kk.length kc, .int .i64 seq, .bool del, .slice vA vv.length vc] 35)).block _ (Array.getElem?_eq_some_iff.1 HVR5.out).1).trans HVR5.out
                 have HVR6 := hid ((hgS.block _ (Array.getElem?_eq_some_iff.1 hv5).1 (fun e => by
                   obtain ⟨_, cs, fr, h1⟩ := ownS_tag (HO5.out.call (hba _ _)).recs.row e.symm
                   exact tag_ne2 hv5 h1 (by decide) rfl)).trans hv5)
                 obtain ⟨rr, hrr⟩ : ∃ rr : Rv, rr = ⟨kA, kc, kk, seq, del, vA, vc, vv⟩ := ⟨_, rfl⟩
                 rw [← hrr] at hR3 HO6 HT5
                 subst hR3
                 have hR3l : (R2 ++ [rr]).length = R.length + (j + 1) := by rw [List.length_append, hR2]; rfl
                 have HR3 := hid hR3l
                 clear hrr hoS hgS hatS hba HO5 HP5 HRI hR3l hv5 HVR5
                 go_wp2_with fail
                 go_roundw
                 case rel => exact ⟨j + 1, RA3, RC3, R2 ++ [rr], hjl, by simp, rfl, HR3.out, HO6, HP6, HVR6, HT5⟩
                 case measure =>
                   show P.length - ((j : Int) + 1).toNat < P.length - ((j : Int)).toNat
                   omega
             · have hje : j = P.length := by omega
               have HT2 : Hid (Tb.TR b (L.map Fv.pr) (k + 1) 0 R2) := hid (by
                 have h1 := HT.out
                 rw [hje] at h1
                 exact Tb.TR.block (P := P.map Pv.pr) (by rw [List.length_map]; exact h1) HBR.out)
               -- HERE30
               obtain ⟨pb, po, hPA, hpbl, hpc⟩ := RdS.row (f := Pv.cells) (n := 2) (fun _ => rfl) (by omega) HP.out.row.rd (by omega)
               subst hPA
               obtain ⟨m, hm⟩ : ∃ m, P.length = m + 1 := ⟨P.length - 1, by omega⟩
               obtain ⟨pl, hpl⟩ : ∃ pl, pl = P[m]'(by omega) := ⟨_, rfl⟩
               have s0 := hpc m (by omega) 0 _ rfl
               rw [← hpl, Nat.add_zero] at s0
               have ixp : IntKind.i64.wrap ((P.length : Int) - 1) = (m : Int) := by rw [IntKind.wrap_i64]; omega
               have hm0 : (0 : Int) ≤ (m : Int) := by omega
               have hml : (m : Int) < (P.length : Int) := by omega
               obtain ⟨pkA, pkc, pk, pvA, pvc, pv⟩ := pl
               have HR2L : Hid (R2.length = R.length + P.length) := hid (by rw [hR2, hje])
               have hs0' : wr.cell? ⟨pb, po + m * 2, none⟩ = some (.slice pkA pk.length pkc) := s0
               obtain ⟨V, hV⟩ : ∃ V, wr.drew = V := ⟨_, rfl⟩
               have hbV : Below wr.heap.size wr V := by rw [← hV]; exact (Below.refl _ _).drew
               have hbV2 := hbV
               have HOV := hid (HO.out.call hbV)
               have HVRV := hid ((hbV.block _ (Array.getElem?_eq_some_iff.1 HVR.out).1).trans HVR.out)
               have HLL : Hid (∀ l0, Blk.WFb fb l0 → Blk.lastK l0 = pk) := hid (fun l0 h0 => by
                 rw [HWF.out l0 h0, lastK_at (l := P.map Pv.pr) (m := m) (by rw [List.length_map]; exact hm), List.getElem_map, ← hpl]
                 rfl)
               have hplm : (⟨pkA, pkc, pk, pvA, pvc, pv⟩ : Pv) ∈ P := by rw [hpl]; exact List.getElem_mem _
               have hpo := (HP.out.own _ hplm).1
               have hpbd := (HPB.out _ hplm).1
               have HPQ : Hid (PqB V Y.heap.size ⟨V.heap.size, fA, fc, fb, pkA, pkc, pk⟩) := hid ⟨HOV.out.recs.size, ⟨(HOKY.out.1.below HOV.out.recs.below (Nat.le_refl _)).more HOV.out.recs.size, fun hne g hg => .inl (by
                   obtain ⟨ad, e, hlt, _⟩ := HOKY.out.1.2 (List.length_pos_iff.2 hne)
                   have e' : fA = some ad := e
                   have hg' : blk fA = some g := hg
                   rw [e'] at hg'
                   have : ad.block = g := by simpa [blk] using hg'
                   omega)⟩, HFT.out, HOKY.out.2.1, HOKY.out.2.2, (hpo.below hbV).hbs, by have := HFT.out; simp only at hpbd ⊢; omega, hpo.cap⟩
               clear hplm hpo hpbd
               have hpV := (hbV.cell (p := ⟨pb, po + m * 2, none⟩) hpbl).trans hs0'
               have hpbV : pb < V.heap.size := Nat.lt_of_lt_of_le hpbl hbV.size
               have HS0 : V.cell? ⟨Y.heap.size, 0, none⟩ = some (.slice PA ps.length PC) ∧ V.cell? ⟨wo.heap.size, 1, none⟩ = some (.slice fA fb.length fc) ∧ V.cell? ⟨pb, po + m * 2, none⟩ = some (.slice pkA pk.length pkc) := by
                 refine ⟨?_, ?_, hpV⟩
                 · rw [cell_of_row V Y.heap.size 0 _ _ (0, 0) HOV.out.box]; rfl
                 · rw [cell_of_row V wo.heap.size 1 _ _ (0, 0) HVRV.out]; rfl
               have hgtV := (Array.getElem?_eq_some_iff.1 HOV.out.box).1
               have hgvV := (Array.getElem?_eq_some_iff.1 HVRV.out).1
               have HSB : Hid (∀ Y', Below V.heap.size V Y' → Y'.cell? ⟨Y.heap.size, 0, none⟩ = some (.slice PA ps.length PC) ∧ Y'.cell? ⟨wo.heap.size, 1, none⟩ = some (.slice fA fb.length fc) ∧ Y'.cell? ⟨pb, po + m * 2, none⟩ = some (.slice pkA pk.length pkc)) := hid (fun Y' hb => ⟨(hb.cell (p := ⟨Y.heap.size, 0, none⟩) hgtV).trans HS0.1, (hb.cell (p := ⟨wo.heap.size, 1, none⟩) hgvV).trans HS0.2.1, (hb.cell (p := ⟨pb, po + m * 2, none⟩) hpbV).trans HS0.2.2⟩)
               have HM1 : Hid (P.length = m + 1) := hid hm
               clear hpl s0 hs0' hpc hpV hbV hm hje hR2
               go_wp2_with fail
               refine wp_region_E 20 (fun w' => w'.cell? ⟨Y.heap.size, 0, none⟩ = some (.slice PA ps.length PC) ∧ w'.cell? ⟨wo.heap.size, 1, none⟩ = some (.slice fA fb.length fc) ∧ w'.cell? ⟨pb, po + m * 2, none⟩ = some (.slice pkA pk.length pkc)) (by kernel_rfl) ?_
               rw [hV]
               clear hV
               refine wpAnyE_take (i := 0) (v := ?_) rfl (by kernel_rfl) (by kernel_rfl) (by kernel_rfl) (by kernel_rfl) (fun _ _ _ h => h) (Or.inl ⟨by rfl, ?_⟩) HS0 ?_
               rotate_left
               · (intro wy hSw; obtain ⟨s1, s2x, s3⟩ := hSw; go_simp; try with_reducible rfl)
               try simp only [Act.put, List.setIfInBounds_toArray]
               refine wpAnyE_take (i := 1) (v := ?_) rfl (by kernel_rfl) (by kernel_rfl) (by kernel_rfl) (by kernel_rfl) (fun _ _ _ h => h) (Or.inl ⟨by rfl, ?_⟩) HS0 ?_
               rotate_left
               · (intro wy hSw; obtain ⟨s1, s2x, s3⟩ := hSw; go_simp; try with_reducible rfl)
               try simp only [Act.put]
               refine wpAnyE_take (i := 2) (v := ?_) rfl (by kernel_rfl) (by kernel_rfl) (by kernel_rfl) (by kernel_rfl) (fun _ _ _ h => h) (Or.inl ⟨by rfl, ?_⟩) HS0 ?_
               rotate_left
               · (intro wy hSw; obtain ⟨s1, s2x, s3⟩ := hSw; go_simp; try with_reducible rfl)
               try simp only [Act.put]
               refine wpAnyE_take (i := 3) (v := ?_) rfl (by kernel_rfl) (by kernel_rfl) (by kernel_rfl) (by kernel_rfl) (fun _ _ _ h => h) (Or.inl ⟨by rfl, ?_⟩) HS0 ?_
               rotate_left
               · (intro wy hSw; obtain ⟨s1, s2x, s3⟩ := hSw; go_simp; try with_reducible rfl)
               try simp only [Act.put]
               refine wpAnyE_take (i := 4) (v := ?_) rfl (by kernel_rfl) (by kernel_rfl) (by kernel_rfl) (by kernel_rfl) (fun _ _ _ h => h) (Or.inl ⟨by rfl, ?_⟩) HS0 ?_
               rotate_left
               · (intro wy hSw; obtain ⟨s1, s2x, s3⟩ := hSw; go_simp; try with_reducible rfl)
               try simp only [Act.put]
               refine wpAnyE_take (i := 5) (v := ?_) rfl (by kernel_rfl) (by kernel_rfl) (by kernel_rfl) (by kernel_rfl) (fun _ _ _ h => h) (Or.inl ⟨by rfl, ?_⟩) HS0 ?_
               rotate_left
               · (intro wy hSw; obtain ⟨s1, s2x, s3⟩ := hSw; go_simp; try with_reducible rfl)
               try simp only [Act.put]
               refine wpAnyE_take (i := 6) (v := ?_) rfl (by kernel_rfl) (by kernel_rfl) (by kernel_rfl) (by kernel_rfl) (fun _ _ _ h => h) (Or.inl ⟨by rfl, ?_⟩) HS0 ?_
               rotate_left
               · (intro wy hSw; obtain ⟨s1, s2x, s3⟩ := hSw; go_simp; try with_reducible rfl)
               try simp only [Act.put]
               refine wpAnyE_take (i := 7) (v := ?_) rfl (by kernel_rfl) (by kernel_rfl) (by kernel_rfl) (by kernel_rfl) (fun _ _ _ h => h) (Or.inl ⟨by rfl, ?_⟩) HS0 ?_
               rotate_left
               · (intro wy hSw; obtain ⟨s1, s2x, s3⟩ := hSw; go_simp; try with_reducible rfl)
               try simp only [Act.put]
               refine wpAnyE_take (i := 8) (v := ?_) rfl (by kernel_rfl) (by kernel_rfl) (by kernel_rfl) (by kernel_rfl) (fun _ _ _ h => h) (Or.inl ⟨by rfl, ?_⟩) HS0 ?_
               rotate_left
               · (intro wy hSw; obtain ⟨s1, s2x, s3⟩ := hSw; go_simp; try with_reducible rfl)
               try simp only [Act.put]
               refine wpAnyE_take (i := 9) (v := ?_) rfl (by kernel_rfl) (by kernel_rfl) (by kernel_rfl) (by kernel_rfl) (fun _ _ _ h => h) (Or.inl ⟨by rfl, ?_⟩) HS0 ?_
               rotate_left
               · (intro wy hSw; obtain ⟨s1, s2x, s3⟩ := hSw; go_simp; try with_reducible rfl)
               try simp only [Act.put]
               refine wpAnyE_take (i := 10) (v := ?_) rfl (by kernel_rfl) (by kernel_rfl) (by kernel_rfl) (by kernel_rfl) (fun _ _ _ h => h) (Or.inl ⟨by rfl, ?_⟩) HS0 ?_
               rotate_left
               · (intro wy hSw; obtain ⟨s1, s2x, s3⟩ := hSw; go_simp; try with_reducible rfl)
               try simp only [Act.put]
               refine wpAnyE_take (i := 11) (v := ?_) rfl (by kernel_rfl) (by kernel_rfl) (by kernel_rfl) (by kernel_rfl) (fun _ _ _ h => h) (Or.inl ⟨by rfl, ?_⟩) HS0 ?_
               rotate_left
               · (intro wy hSw; obtain ⟨s1, s2x, s3⟩ := hSw; go_simp; try with_reducible rfl)
               try simp only [Act.put]
               refine wpAnyE_take (i := 12) (v := ?_) rfl (by kernel_rfl) (by kernel_rfl) (by kernel_rfl) (by kernel_rfl) (fun _ _ _ h => h) (Or.inl ⟨by rfl, ?_⟩) HS0 ?_
               rotate_left
               · (intro wy hSw; obtain ⟨s1, s2x, s3⟩ := hSw; go_simp; try with_reducible rfl)
               try simp only [Act.put]
               refine wpAnyE_take (i := 13) (v := ?_) rfl (by kernel_rfl) (by kernel_rfl) (by kernel_rfl) (by kernel_rfl) (fun _ _ _ h => h) (Or.inl ⟨by rfl, ?_⟩) HS0 ?_
               rotate_left
               · (intro wy hSw; obtain ⟨s1, s2x, s3⟩ := hSw; go_simp; try with_reducible rfl)
               try simp only [Act.put]
               refine wpAnyE_take (i := 14) (v := ?_) rfl (by kernel_rfl) (by kernel_rfl) (by kernel_rfl) (by kernel_rfl) (fun _ _ _ h => h) (Or.inl ⟨by rfl, ?_⟩) HS0 ?_
               rotate_left
               · (intro wy hSw; obtain ⟨s1, s2x, s3⟩ := hSw; go_simp; try with_reducible rfl)
               try simp only [Act.put]
               refine wpAnyE_one (i := 15) (by kernel_rfl) rfl (fun K hK => ?_)
               go_simp
               obtain ⟨ob, hob⟩ : ∃ ob : Obj, ob = .cells #[.slice fA fb.length fc, .slice pkA pk.length pkc, .int .u32 0, .int .i32 0, .int .u32 0, .slice none 0 0] 91 := ⟨_, rfl⟩
               have HOB := hid hob
               rw [← hob]
               clear hob
               refine hK _ _ (HSB.out _ ((Below.refl V.heap.size V).alloc (Nat.le_refl _) ob)) ?_
               try simp only [Act.put]
               refine wpAnyE_one (i := 16) (by kernel_rfl) rfl (fun K hK => ?_)
               go_simp
               have hb6 : ∀ o2, Below V.heap.size V ((V.alloc ob).alloc o2) := fun o2 => below_al2 V ob o2
               refine hK _ _ (HSB.out _ (hb6 _)) ?_
               try simp only [Act.put]
               have H6 := hid (HOV.out.call (hb6 (.cells #[.pointer (some ⟨V.heap.size, 0, none⟩)] 79)))
               have HPB6 := hid ((HP.out.call hbV2).call (hb6 (.cells #[.pointer (some ⟨V.heap.size, 0, none⟩)] 79)))
               have HV6 := hid (((hb6 (.cells #[.pointer (some ⟨V.heap.size, 0, none⟩)] 79)).block _ hgvV).trans HVRV.out)
               have hps : ps.length ≤ 2000000000 := by have := HPS.out; omega
               have hzV : Y.heap.size ≤ V.heap.size := HOV.out.recs.size
               refine wpAnyE_one (i := 17) (by kernel_rfl) rfl (fun K hK => ?_)
               refine step_append_sd _ (by rfl) (some 146) (by rfl) (.tmp 133) (.tmp 145) ptrT (by rfl) Y.heap.size PA PC (ps.map Pq.g) (by rw [List.length_map]; rfl) H6.out.row (V.heap.size + 2) (some ⟨V.heap.size + 1, 0, none⟩) 1 1 [V.heap.size] rfl rfl (rd_ptr_new2 V ob V.heap.size) (by simp; omega) (by unfold maxLen; simp; omega) (by simp; omega) ?_
               intro PA6 PC6 LL w6 hL ho6 hg6 hat6
               have hwr7 : Y.heap.size ≤ wo.heap.size := HOP.out.recs.size
               have hLn : LL.length = ps.length + 1 := by rw [hL]; simp
               have HFIN : Hid (OpT Y Y.heap.size Y.heap.size FV (.int .i64 (a2 : Int)) (.int .i64 (a3 : Int)) (.int .i64 (a4 : Int)) RA2 RC2 R2 PA6 PC6 (ps ++ [⟨V.heap.size, fA, fc, fb, pkA, pkc, pk⟩]) (w6.setCell ⟨Y.heap.size, 0, none⟩ (.slice PA6 (ps.length + 1) PC6))) := hid (by
                 have ho := ho6
                 rw [hL] at ho
                 refine H6.out.app_part ⟨HPQ.out.call (hb6 _), ?_⟩ (fun q hq e => ?_) ho hg6
                 · show ((V.alloc ob).alloc _).heap[V.heap.size]? = _
                   rw [HOB.out]
                   exact (((Below.refl _ _).alloc (Nat.le_refl _) _).block _ (by simp)).trans (heap_alloc_new V _)
                 · have h1 := (Array.getElem?_eq_some_iff.1 (HOV.out.parts q hq).box).1
                   have e' : q.g = V.heap.size := e
                   omega)
               have HPT2 : Hid (PtsOf (L.map Fv.pr) (ps ++ [⟨V.heap.size, fA, fc, fb, pkA, pkc, pk⟩])) := hid (HPT.out.snoc (f := Fv.pr ⟨fk, fA, fc, fb⟩) (by rw [HPS.out]; exact HLK.out.1) rfl HLL.out)
               have hbx6 : w6.heap[Y.heap.size]? = some (tbObj PA ps.length PC FV (.int .i64 (a2 : Int)) (.int .i64 (a3 : Int)) (.int .i64 (a4 : Int))) := by
                 refine (hg6.block _ (Array.getElem?_eq_some_iff.1 H6.out.box).1 (fun e => ?_)).trans H6.out.box
                 obtain ⟨_, cs, fr, h1⟩ := ownS_tag H6.out.row e.symm
                 exact tag_ne2 H6.out.box h1 (by decide) rfl
               have hvr6 : w6.heap[wo.heap.size]? = some (.cells #[.int .u8 (kn : Int), .slice fA fb.length fc] 60) := by
                 refine (hg6.block _ (Array.getElem?_eq_some_iff.1 HV6.out).1 (fun e => ?_)).trans HV6.out
                 obtain ⟨_, cs, fr, h1⟩ := ownS_tag H6.out.row e.symm
                 exact tag_ne2 HV6.out h1 (by decide) rfl
               have hpb6 : w6.cell? ⟨pb, po + m * 2, none⟩ = some (.slice pkA pk.length pkc) := by
                 obtain ⟨_, cs, fr, h1⟩ := ownS_tag HPB6.out.row (g := pb) rfl
                 refine (World.cell?_of_block (hg6.block pb (Array.getElem?_eq_some_iff.1 h1).1 (fun e => ?_))).trans (HSB.out _ (hb6 _)).2.2
                 obtain ⟨_, cs', fr', h2⟩ := ownS_tag H6.out.row e.symm
                 exact tag_ne2 h1 h2 (by decide) rfl
               have hS6 : w6.cell? ⟨Y.heap.size, 0, none⟩ = some (.slice PA ps.length PC) ∧ w6.cell? ⟨wo.heap.size, 1, none⟩ = some (.slice fA fb.length fc) ∧ w6.cell? ⟨pb, po + m * 2, none⟩ = some (.slice pkA pk.length pkc) := by
                 refine ⟨?_, ?_, hpb6⟩
                 · rw [cell_of_row w6 Y.heap.size 0 _ _ (0, 0) hbx6]; rfl
                 · rw [cell_of_row w6 wo.heap.size 1 _ _ (0, 0) hvr6]; rfl
               have fz6 : w6.frozen? ⟨Y.heap.size, 0, none⟩ = false := frozen_of_row w6 Y.heap.size 0 _ _ hbx6
               refine hK _ _ hS6 ?_
               try simp only [Act.put]
               refine wpAnyE_one (i := 18) (by kernel_rfl) rfl (fun K hK => ?_)
               go_simp
               refine hK _ _ hS6 ?_
               try simp only [Act.put]
               refine wpAnyE_one (i := 19) (by kernel_rfl) rfl (fun K hK => ?_)
               go_simp
               refine hK _ _ hS6 ?_
               try simp only [Act.put]
               obtain ⟨g1, g2, g3⟩ := hS6
               refine wpAnyE_last (by kernel_rfl) (by kernel_rfl) rfl (fun K hK => ?_)
               go_simp
               refine hK _ _ ?_
               have hR2b : R2.length ≤ 100000 := by have := HR2L.out; omega
               have HPS2 : Hid ((ps ++ [(⟨V.heap.size, fA, fc, fb, pkA, pkc, pk⟩ : Pq)]).length = k + 1) := hid (by rw [List.length_append, HPS.out]; rfl)
               obtain ⟨W7, hW7⟩ : ∃ W7, w6.setCell ⟨Y.heap.size, 0, none⟩ (.slice PA6 (ps.length + 1) PC6) = W7 := ⟨_, rfl⟩
               rw [hW7] at HFIN ⊢
               clear hW7 g1 g2 g3 fz6 hpb6 hvr6 hbx6 hLn hL ho6 hg6 hat6
               obtain ⟨pp, hpp⟩ : ∃ pp : Pq, pp = ⟨V.heap.size, fA, fc, fb, pkA, pkc, pk⟩ := ⟨_, rfl⟩
               rw [← hpp] at HFIN HPT2 HPS2
               clear hpp
               go_wp2_with fail
               go_roundw
               case rel => exact ⟨k + 1, RA2, RC2, R2, PA6, PC6, ps ++ [pp], hlt, by simp, rfl, hR2b, HPS2, HFIN, HT2, HPT2⟩
               case measure =>
                 show n - ((k : Int) + 1).toNat < n - ((k : Int)).toNat
                 omega
               -- THERE30
       · have hke : k = n := by omega
         have HTE : Hid (Tb.TR b (L.map Fv.pr) ((L.map Fv.pr).length - 3) 0 R) := hid (by
           have h1 := HTR.out
           have e : (L.map Fv.pr).length - 3 = k := by rw [List.length_map]; have := HN3.out; omega
           rw [e]; exact h1)
         have HFIVE : Hid (∀ l s t, Tb.Is b l s t → s = (a0 : Int) ∧ t = (a1 : Int) ∧ a2 = l.length ∧ (a3 : Int) = Tb.low l ∧ (a4 : Int) = Tb.high l) := hid (fun l s t hi => by
           have h1 := HN.out.all rfl hi
           unfold Tb.five at h1
           injection h1 with e0 h1
           injection h1 with e1 h1
           injection h1 with e2 h1
           injection h1 with e3 h1
           injection h1 with e4 h1
           have u := hi.unf
           have := u.s1; have := u.t1
           have hlo := low_nat u.r (by have := u.l1; omega)
           exact ⟨by omega, by omega, e2, by rw [e3]; exact hlo.1, by rw [e4]; exact hlo.2⟩)
         have hxy : X.heap.size < Y.heap.size := (Array.getElem?_eq_some_iff.1 HTVY.out).1
         have htv := (HOP.out.recs.below.block _ hxy).trans HTVY.out
         have q0 := cell_of_row wr X.heap.size 0 _ _ (0, 0) htv
         have q1 := cell_of_row wr X.heap.size 1 _ _ (0, 0) htv
         simp only [fiveRow, tv, List.getElem?_toArray, List.getElem?_cons_zero, List.getElem?_cons_succ, List.getD_cons_zero, List.getD_cons_succ] at q0 q1
         have KB := tbuild_any RA RC R (a0 : Int) (a1 : Int) wr HOP.out.recs.rd (by omega)
         obtain ⟨er, her⟩ : ∃ er, er = (Tb.build R (a0 : Int) (a1 : Int)).1 := ⟨_, rfl⟩
         obtain ⟨bb, hbb⟩ : ∃ bb, bb = (Tb.build R (a0 : Int) (a1 : Int)).2 := ⟨_, rfl⟩
         have HBE : Hid (Tb.build R (a0 : Int) (a1 : Int) = (er, bb)) := hid (by rw [her, hbb])
         rw [← her, ← hbb] at KB
         have HK := hid KB
         have HLAST : Hid ((er, bb) ≠ (0, b) → ∀ l s t, ¬ Tb.Is b l s t) := hid (fun hne => Tb.last_no HTE.out HSC.out HTN.out (fun l s t hi => ⟨(HFIVE.out l s t hi).1, (HFIVE.out l s t hi).2.1⟩) (by rw [HBE.out]; exact hne))
         clear KB her hbb htv
         go_wp2_with fail
         refine HK.out.mono ?_
         rintro e w4 ⟨hb4, ⟨hne, rfl⟩ | ⟨rfl, AA, ac, rfl, hoa⟩⟩
         · have HNO := hid (HLAST.out (fun e => hne (by injection e)))
           have HBD := hid (HBY.out.trans ((HOP.out.recs.call hb4).below.mono HBY.out.size))
           have hx2 : (er == 0) = false := by simpa using hne
           have hx3 : (er != 0) = true := by simpa using hne
           clear hb4 hne
           go_wp2_with fail
           go_ret2
           exact openQ_no HBD.out HNO.out
         · have HBD := hid (HBY.out.trans ((HOP.out.recs.call hb4).below.mono HBY.out.size))
           have KE := bytesEq_any AA A ac c bb b w4 hoa.rd (HH.out.below HBD.out (Nat.le_refl _) |>.more HBD.out.size)
           obtain ⟨q, hq⟩ : ∃ q, q = (bb == b) := ⟨_, rfl⟩
           rw [← hq] at KE
           have HK := hid KE
           have HQ := hid hq
           have HOPE := hid (HOP.out.call hb4)
           clear KE hq hb4 hoa
           rcases q with _ | _
           · have HNO := hid (HLAST.out (fun e => by
               have h1 := HQ.out
               injection e with _ e
               rw [e] at h1
               simp at h1))
             go_wp2_with fail
             refine HK.out.mono ?_
             rintro e w5 ⟨rfl, rfl⟩
             go_wp2_with fail
             go_ret2
             exact openQ_no HBD.out HNO.out
           · have hfx : bb = b := by have := HQ.out; simpa using this.symm
             have HIS : Hid (Tb.Is b R (a0 : Int) (a1 : Int)) := hid (by unfold Tb.Is; rw [HBE.out, hfx])
             have HALL : Hid (∀ l s t, Tb.Is b l s t → l.map Rv.core = R.map Rv.core) := hid (fun l s t hi => HTE.out.all HSC.out HTN.out hi)
             have HFV5 := hid (HFIVE.out _ _ _ HIS.out)
             clear hfx
             go_wp2_with fail
             refine HK.out.mono ?_
             rintro e w5 ⟨rfl, rfl⟩
             go_wp2_with fail
             go_ret2
             have hkk : ps.length = (L.map Fv.pr).length - 3 := by rw [List.length_map, HPS.out]; have := HN3.out; omega
             obtain ⟨rss, hrl, hR⟩ := open_fin HIS.out HSC.out hkk HPT.out HFFL.out ⟨Y.heap.size, PA, PC, ffA, ffc, ffb, (a2 : Int), (a3 : Int), (a4 : Int), []⟩ rfl (by show (a2 : Int) = _; rw [HFV5.out.2.2.1]) HFV5.out.2.2.2.1 HFV5.out.2.2.2.2
             refine ⟨HBD.out, .inr ⟨R, _, Y.heap.size, (a0 : Int), (a1 : Int), rfl, HBY.out.size, ?_, hR, HIS.out, HALL.out⟩⟩
             exact HOPE.out.tab HFV.out ⟨(HFFM.out.1.below HOPE.out.recs.below (Nat.le_refl _)).more HOPE.out.recs.size, fun hne g hg => .inl (by
                   obtain ⟨ad, e, hlt, _⟩ := HFFM.out.1.2 (List.length_pos_iff.2 hne)
                   have e' : ffA = some ad := e
                   have hg' : blk ffA = some g := hg
                   rw [e'] at hg'
                   have : ad.block = g := by simpa [blk] using hg'
                   omega)⟩ HFFM.out.2.1 HFFM.out.2.2.1 HFFM.out.2.2.2 rss hrl
end Go.Proofs.YtgafionfojnieaaGreatDoor
