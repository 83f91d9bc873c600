/- Parts of the proof, one behind the other: The law VersionLasts, walked. -/
import Derived.Test.YtgmnhdkdicgkcaaGreatDoorOtg12
import Derived.Test.YtgmnhdkdicgkcaaGreatDoorOtg02
namespace Go.Proofs.YtgmnhdkdicgkcaaGreatDoor
open Go.RowKit Go.Maps
open Lib (hid)
namespace Ver
section
variable {P : Program} {ops : Array Oper} {o : Oper} {a : Act} {K : Act → World → Prop} {Q : Exit → Act → World → Prop} {w : World} {E : Prop}
theorem step_hide0 (v : Value) (w' : World) (hw : Region.wanted o (yielded ops a.tmps) = true)
   (h : ∀ E : Operand → Value, (∀ c, E (.const c) = c) → ∀ (a' : Act) (K' : Act → World → Prop), K' (a'.put o.dst v) w' → o.upon P a' K' Q ((execOp E o).run P w)) (hk : K (a.put o.dst v) w') : if Region.wanted o (yielded ops a.tmps) = true then Oper.wp P o a w K Q else E := by
 rw [if_pos hw]
 exact h a.eval (fun _ => rfl) a K hk
theorem step_hide2 (x y : Operand) (vx vy v : Value) (w' : World) (hw : Region.wanted o (yielded ops a.tmps) = true) (hx : a.eval x = vx) (hy : a.eval y = vy)
   (h : ∀ E : Operand → Value, (∀ c, E (.const c) = c) → E x = vx → E y = vy → ∀ (a' : Act) (K' : Act → World → Prop), K' (a'.put o.dst v) w' → o.upon P a' K' Q ((execOp E o).run P w)) (hk : K (a.put o.dst v) w') : if Region.wanted o (yielded ops a.tmps) = true then Oper.wp P o a w K Q else E := by
 rw [if_pos hw]
 exact h a.eval (fun _ => rfl) hx hy a K hk
end
theorem LvR.box3 {w w' : World} {base g gk k c q0 : Nat} {A : Option Addr} {L X : List Sv} (h : LvR w base g gk k A c L X) (ht : Sto.Tag w q0 24) (hs : w'.heap.size = w.heap.size) (hk : ∀ q, q ≠ q0 → w'.heap[q]? = w.heap[q]?) (hne : ∀ q, blk A = some q → q ≠ q0) : LvR w' base g gk k A c L X := by
 obtain ⟨s, m, n, t, br, h1, h2⟩ := h
 obtain ⟨A1, c1, l1, b1, b2, b3, b4⟩ := h1.bk
 refine ⟨s, m, n, t, br, ⟨h1.st.keep (by omega) (fun q _ hf => hk q (fun e => by subst e; exact not_foot_state h1.st ht hf)), ⟨A1, c1, l1, (hk gk (h1.tag.ne ht (by decide))).trans b1, b2, owV_set3 b3 ht (by omega) hk, b4⟩, h1.ge, ⟨h1.my.row.keep (fun q e => hk q (hne q e)), fun v hv => ⟨owV_set3 (h1.my.ok v hv).ow ht (by omega) hk, (h1.my.ok v hv).off⟩⟩⟩, h2⟩
set_option maxHeartbeats 8000000 in
set_option maxRecDepth 1000000 in
theorem versionLasts_walk (TA : Option Addr) (tc : Nat) (tl : List Tp) (w : World) (hh : RdTp w w.heap.size TA tl ∧ tl.length ≤ 9223372036854775807) (ht : Tab w) :
   Calls Tryz.prog 7 #[.slice TA tl.length tc] w fun r w' => r = .returned (.bool true) ∧ Below w.heap.size w w' := by
 obtain ⟨h, hl⟩ := hh
 have KA := hid (awake2_any w ht)
 have HT := hid ht
 have HL0 := hid h
 clear ht h
 go_enter Tryz.func7, Tryz.ntmps7
 go_wp2_with fail
 refine KA.out.mono ?_
 rintro r w1 ⟨rfl, hb1⟩
 dsimp only
 have HB1 := hid hb1
 have HTU := hid (TabU.of (HT.out.below hb1))
 have KN := hid (new_val w1)
 clear hb1 KA HT
 go_wp2_with fail
 refine KN.out.mono ?_
 rintro r w2 ⟨g, rfl, hlc, hb2⟩
 dsimp only
 have HB2 := hid hb2
 have KO := hid (hlc.open_val (HTU.out.keep hb2))
 clear hlc hb2 KN
 go_wp2_with fail
 refine KO.out.mono ?_
 rintro r w3 ⟨gk0, rfl, hlo, hb3⟩
 dsimp only
 have HB3 := hid (HB2.out.trans hb3)
 have HLO := hid hlo
 have KS := hid hlo.state_val
 clear hlo hb3 KO
 go_wp2_with fail
 refine KS.out.mono ?_
 rintro r w4 ⟨v0, rfl, hvs, hvo, hb4⟩
 unfold Sv.val
 dsimp only
 obtain ⟨w5, hw5⟩ : ∃ w5, w5 = w4.alloc v0.obj := ⟨_, rfl⟩
 have hb45 : Below w4.heap.size w4 w5 := by rw [hw5]; exact (Below.refl _ _).alloc (Nat.le_refl _) _
 have hb35 : Below w3.heap.size w3 w5 := hb4.trans (hb45.mono hb4.size)
 have HLR : Hid (LvR w5 w1.heap.size g gk0 0 (some ⟨w4.heap.size, 0, none⟩) 1 [v0] []) := hid (HLO.out.one hb35 (hvo.below hb45) hvs (by rw [hw5]; exact own_sv_new w4 v0 (Nat.le_trans HB3.out.size hb4.size)))
 have HB5 := hid (HB3.out.trans (hb35.mono HB3.out.size))
 have HW5 := hid hw5
 unfold Sv.obj at hw5
 clear hvs hvo hb4 hb45 hb35 KS HLO
 go_wp2_with fail
 rw [← hw5]
 clear hw5 HW5
 go_loopw [6, 7, 8] (fun bk y i wr => ∃ (k gk c : Nat) (A : Option Addr) (L : List Sv), k ≤ tl.length ∧ k ≤ 60 ∧ i = .int .i64 (k : Int) ∧ bk = .pointer (some ⟨gk, 0, none⟩) ∧ y = .slice A L.length c ∧ Hid (LvR wr w1.heap.size g gk k A c L []) ∧ Hid (Below w1.heap.size w1 wr) ∧ Hid (L.length ≤ k + 1)) (fun _ _ i _ => tl.length - (intOf i).toNat)
 case atStart => exact ⟨0, gk0, 1, _, [v0], by omega, by omega, rfl, rfl, rfl, HLR, HB5, hid (by simp)⟩
 case round =>
   obtain ⟨k, gk, c, A, L, hk, hk6, rfl, rfl, rfl, HLV0, HBR, HLL⟩ := hrel
   by_cases hlt : k < tl.length
   rotate_left
   · have hlt' : ¬ (k : Int) < (tl.length : Int) := by omega
     go_wp2_with fail
     go_ret
     exact ⟨rfl, HB1.out.trans (HBR.out.mono HB1.out.size)⟩
   have hlt' : (k : Int) < (tl.length : Int) := by omega
   by_cases hk60 : k < 60
   rotate_left
   · have hk60' : ¬ (k : Int) < 60 := by omega
     go_wp2_with fail
     go_ret
     exact ⟨rfl, HB1.out.trans (HBR.out.mono HB1.out.size)⟩
   have hk60' : (k : Int) < 60 := by omega
   have hk0 : (0 : Int) ≤ (k : Int) := by omega
   have HWR := hid (HB1.out.trans (HBR.out.mono HB1.out.size))
   obtain ⟨tb, toff, hTA, htb, htc, htok⟩ := (HL0.out.below HWR.out (Nat.le_refl _)).cell hlt
   obtain ⟨x, hx⟩ : ∃ x, x = tl[k] := ⟨_, rfl⟩
   rw [← hx] at htc htok
   have HTO := hid htok
   have t0 := htc 0 _ rfl
   have t1 := htc 1 _ rfl
   have t2 := htc 2 _ rfl
   have t3 := htc 3 _ rfl
   have t4 := htc 4 _ rfl
   have t5 := htc 5 _ rfl
   have t6 := htc 6 _ rfl
   have t7 := htc 7 _ rfl
   rw [Nat.add_zero] at t0
   have HFE : Hid (∀ X, Below wr.heap.size wr X → Calls Tryz.prog 10 #[x.ev.val] X fun r w' => r = .returned (.bool (fewV x.ev.add && decide (x.ev.drop.length ≤ 100))) ∧ Below X.heap.size X w') := hid (fun X hX => fewEdit_any x.ev X ((htok.ev.more HWR.out.size).keep hX) htok.al htok.dl htok.fl)
   obtain ⟨few, hfew⟩ : ∃ few, few = (fewV x.ev.add && decide (x.ev.drop.length ≤ 100)) := ⟨_, rfl⟩
   have HFW : Hid (few = true → x.ev.add.length ≤ 100 ∧ x.ev.drop.length ≤ 100) := hid (fun hf => by
     rw [hf] at hfew
     have h1 := hfew.symm
     rw [Bool.and_eq_true] at h1
     exact ⟨fewV_len h1.1, of_decide_eq_true h1.2⟩)
   rw [← hfew] at HFE
   obtain ⟨td, tev, tn, BA, bc, b, KAd, kc, keep⟩ := x
   obtain ⟨ev, hev⟩ : ∃ ev, ev = tev := ⟨_, rfl⟩
   have HEV := hid hev
   rw [← hev] at HTO
   obtain ⟨EA, ec, add, DA, dc, drop, elog, enext⟩ := tev
   simp only [Ev.val] at t0 t1 t2 t3 t4 t5 t6 t7 HFE HFW
   obtain ⟨w2', hw2'⟩ : ∃ w2', w2' = wr.alloc (.cells #[.int .i64 td, .slice EA add.length ec, .slice DA drop.length dc, .int .i64 elog, .int .i64 enext, .int .i64 tn, .slice BA b.length bc, .slice KAd keep.length kc] 61) := ⟨_, rfl⟩
   have hbt : Below wr.heap.size wr w2' := by rw [hw2']; exact (Below.refl _ _).alloc (Nat.le_refl _) _
   have hxt : w2'.heap[wr.heap.size]? = some (.cells #[.int .i64 td, .slice EA add.length ec, .slice DA drop.length dc, .int .i64 elog, .int .i64 enext, .int .i64 tn, .slice BA b.length bc, .slice KAd keep.length kc] 61) := by rw [hw2']; exact heap_alloc_new wr _
   have KF := hid (HFE.out w2' hbt)
   have HXT := hid hxt
   have HBT := hid hbt
   have HW2 := hid hw2'
   rw [hw2'] at KF
   subst hTA
   clear htc htok htb hx hfew hev hxt hbt hw2'
   go_wp2_with fail
   refine KF.out.mono ?_
   rw [← HW2.out]
   rintro r w4 ⟨rfl, hb4⟩
   dsimp only
   have HB4 := hid (HBT.out.trans (hb4.mono HBT.out.size))
   have HXT4 := hid ((hb4.block _ (Array.getElem?_eq_some_iff.1 HXT.out).1).trans HXT.out)
   have HTC : Hid (∀ X, Below w4.heap.size w4 X → X.cell? ⟨wr.heap.size, 0, none⟩ = some (.int .i64 td) ∧ X.cell? ⟨wr.heap.size, 1, none⟩ = some (.slice EA add.length ec) ∧ X.cell? ⟨wr.heap.size, 2, none⟩ = some (.slice DA drop.length dc) ∧ X.cell? ⟨wr.heap.size, 3, none⟩ = some (.int .i64 elog) ∧ X.cell? ⟨wr.heap.size, 4, none⟩ = some (.int .i64 enext) ∧ X.cell? ⟨wr.heap.size, 5, none⟩ = some (.int .i64 tn) ∧ X.cell? ⟨wr.heap.size, 6, none⟩ = some (.slice BA b.length bc) ∧ X.cell? ⟨wr.heap.size, 7, none⟩ = some (.slice KAd keep.length kc)) := hid (fun X hX => by
     have h0 := (hX.block _ (Array.getElem?_eq_some_iff.1 HXT4.out).1).trans HXT4.out
     exact ⟨by rw [cell_of_row X _ 0 _ _ (0, 0) h0]; rfl, by rw [cell_of_row X _ 1 _ _ (0, 0) h0]; rfl, by rw [cell_of_row X _ 2 _ _ (0, 0) h0]; rfl, by rw [cell_of_row X _ 3 _ _ (0, 0) h0]; rfl, by rw [cell_of_row X _ 4 _ _ (0, 0) h0]; rfl, by rw [cell_of_row X _ 5 _ _ (0, 0) h0]; rfl, by rw [cell_of_row X _ 6 _ _ (0, 0) h0]; rfl, by rw [cell_of_row X _ 7 _ _ (0, 0) h0]; rfl⟩)
   clear hb4 KF HFE t0 t1 t2 t3 t4 t5 t6 t7
   have HWW := hid (HWR.out.trans (HB4.out.mono HWR.out.size))
   have HLV := hid (HLV0.out.below HB4.out)
   have HBB := hid (HBR.out.trans (HB4.out.mono HBR.out.size))
   have HTK : Hid (TpOk w4 w4.heap.size ⟨td, ev, tn, BA, bc, b, KAd, kc, keep⟩) := hid (by
     have h1 := (HTO.out.below HB4.out HWR.out.size)
     exact ⟨h1.ev.more HWW.out.size, h1.b.more HWW.out.size, h1.keep.more HWW.out.size, h1.al, h1.dl, h1.fl, h1.bl, h1.kl⟩)
   have HKP : Hid (RdS Sto.I1 1 w4 w1.heap.size KAd keep ∧ keep.length ≤ 9223372036854775807) := hid (by
     have h1 := (HTO.out.below HB4.out HWR.out.size)
     exact ⟨h1.keep.more HB1.out.size, h1.kl⟩)
   clear HB4 HXT4 HXT HBT HW2 HLV0 HTO
   obtain ⟨d0, d1, d2, d3, d4, d5, d6, d7⟩ := HTC.out w4 (Below.refl _ _)
   rcases few with _ | _
   · go_wp2_with fail
     go_ret
     exact ⟨rfl, HWW.out⟩
   have HFD := hid (HFW.out rfl)
   clear HFW
   by_cases hbl : b.length ≤ 1000
   rotate_left
   · have hbl' : (1000 : Int) < (b.length : Int) := by omega
     go_wp2_with fail
     go_ret
     exact ⟨rfl, HWW.out⟩
   have hbl' : ¬ (1000 : Int) < (b.length : Int) := by omega
   have HBN := hid hbl
   clear hbl
   by_cases c0 : td = 0
   · have e1 : ((td : Int) == 0) = true := by rw [c0]; rfl
     subst c0
     have HROW := hid HLV.out.row
     obtain ⟨li, hli⟩ : ∃ li, L.length = li + 1 := ⟨L.length - 1, by have := HROW.out.2.2.2; omega⟩
     have hlin : li < L.length := by omega
     obtain ⟨rb, off, hA, hrb, hrc⟩ := RdS.row (f := Sv.cells) (n := 3) (fun _ => rfl) (by omega) HROW.out.1.rd (by omega)
     have hc3 := hrc li hlin
     obtain ⟨v, hv⟩ : ∃ v, v = L[li] := ⟨_, rfl⟩
     rw [← hv] at hc3
     have HVM : Hid (v ∈ L ∧ L.getLast? = some v) := hid ⟨by rw [hv]; exact List.getElem_mem hlin, by rw [hv, List.getLast?_eq_getElem?, hli, Nat.add_sub_cancel, List.getElem?_eq_getElem hlin]⟩
     have r0 := hc3 0 _ rfl
     have r1 := hc3 1 _ rfl
     have r2 := hc3 2 _ rfl
     rw [Nat.add_zero] at r0
     have HYS : Hid (∀ X, Below w4.heap.size w4 X → X.cell? ⟨rb, off + li * 3, none⟩ = some (.slice v.A v.l.length v.c) ∧ X.cell? ⟨rb, off + li * 3 + 1, none⟩ = some (.int .i64 v.log) ∧ X.cell? ⟨rb, off + li * 3 + 2, none⟩ = some (.int .i64 v.next) ∧ X.cell? ⟨wr.heap.size, 1, none⟩ = some (.slice EA add.length ec) ∧ X.cell? ⟨wr.heap.size, 2, none⟩ = some (.slice DA drop.length dc) ∧ X.cell? ⟨wr.heap.size, 3, none⟩ = some (.int .i64 elog) ∧ X.cell? ⟨wr.heap.size, 4, none⟩ = some (.int .i64 enext)) := hid (fun X hX => by
       obtain ⟨_, h1, h2, h3, h4, _⟩ := HTC.out X hX
       exact ⟨(hX.cell (p := ⟨rb, off + li * 3, none⟩) hrb).trans r0, (hX.cell (p := ⟨rb, off + li * 3 + 1, none⟩) hrb).trans r1, (hX.cell (p := ⟨rb, off + li * 3 + 2, none⟩) hrb).trans r2, h1, h2, h3, h4⟩)
     have hli0 : (0 : Int) ≤ (li : Int) := by omega
     have hlil : (li : Int) < (L.length : Int) := by omega
     have hliw : IntKind.i64.wrap ((L.length : Int) - 1) = (li : Int) := by rw [IntKind.wrap_i64]; have := HLL.out; omega
     obtain ⟨p, hp⟩ : ∃ p, p = apply v.ss ev.ed := ⟨_, rfl⟩
     obtain ⟨pc, hpc⟩ : ∃ pc, pc = p.1 := ⟨_, rfl⟩
     have HPC := hid hpc
     have hevv : ev.val = .agg #[.slice EA add.length ec, .slice DA drop.length dc, .int .i64 elog, .int .i64 enext] := by rw [HEV.out]; rfl
     have HAL : Hid (ev.add.length ≤ 1000000 ∧ ev.drop.length ≤ 1000000) := hid (by rw [HEV.out]; have := HFD.out; simp only; omega)
     have KX : Hid (∀ X, Below w4.heap.size w4 X → Calls Tryz.prog 12 #[.agg #[.slice v.A v.l.length v.c, .int .i64 v.log, .int .i64 v.next], .agg #[.slice EA add.length ec, .slice DA drop.length dc, .int .i64 elog, .int .i64 enext]] X fun r w' => ∃ x : Sv, r = .returned (.tuple #[x.val, .int .i64 pc]) ∧ x.ss = p.2 ∧ LvR w' w1.heap.size g gk k (some ⟨rb, off, none⟩) c L [x] ∧ Below X.heap.size X w') := hid (fun X hX => by
       rw [hpc, hp, ← hevv]
       rw [hA] at HLV
       exact (HLV.out.below hX).apply_val HVM.out.1 ev (HTK.out.ev.keep hX) HAL.out.1 HAL.out.2)
     have KLG : Hid (∀ X x, LvR X w1.heap.size g gk k (some ⟨rb, off, none⟩) c L [x] → Below w4.heap.size w4 X → Calls Tryz.prog 32 #[.pointer (some ⟨gk, 0, none⟩), .agg #[.slice EA add.length ec, .slice DA drop.length dc, .int .i64 elog, .int .i64 enext]] X fun r w' => ∃ code : Int, r = .returned (.int .i64 code) ∧ LvG w' w1.heap.size g gk k (some ⟨rb, off, none⟩) c L [x] code p ∧ Below w1.heap.size X w' ∧ BxKept X w') := hid (fun X x hlx hX => by
       rw [hp, ← hevv]
       exact hlx.log_val (by omega) HVM.out.2 ev (HTK.out.ev.keep hX) HAL.out.1 HAL.out.2)
     have HNB : Hid (rb < w4.heap.size) := hid hrb
     subst hA
     clear hli hlin hrb hrc hc3 hv r0 r1 r2 hp hpc hevv d0 d1 d2 d3 d4 d5 d6 d7
     obtain ⟨d0, d1, d2, d3, d4, d5, d6, d7⟩ := HTC.out w4 (Below.refl _ _)
     go_upto_region 18 with fail
     clear d0 d1 d2 d3 d4 d5 d6 d7
     go_cut [11, 12] from 50 to 172 (fun v11 v12 wx => ∃ (bn : Nat) (x : Sv), v11 = .pointer (some ⟨bn, 0, none⟩) ∧ v12 = .int .i64 pc ∧ Hid (x.ss = p.2) ∧ Hid (w4.heap.size ≤ bn) ∧ Hid (Below w4.heap.size w4 wx ∧ wx.heap[bn]? = some (.cells #[.slice x.A x.l.length x.c, .int .i64 x.log, .int .i64 x.next] 24) ∧ LvR wx w1.heap.size g gk k (some ⟨rb, off, none⟩) c L [x]))
     case first =>
       obtain ⟨V, hV⟩ : ∃ V, V = w4.drew := ⟨_, rfl⟩
       have hbV : Below w4.heap.size w4 V := by rw [hV]; exact (Below.refl _ _).drew
       have HBV := hid hbV
       have hy := HYS.out V hbV
       refine wp_region_E 14 (fun X => X.cell? ⟨rb, off + li * 3, none⟩ = some (.slice v.A v.l.length v.c) ∧ X.cell? ⟨rb, off + li * 3 + 1, none⟩ = some (.int .i64 v.log) ∧ X.cell? ⟨rb, off + li * 3 + 2, none⟩ = some (.int .i64 v.next) ∧ X.cell? ⟨wr.heap.size, 1, none⟩ = some (.slice EA add.length ec) ∧ X.cell? ⟨wr.heap.size, 2, none⟩ = some (.slice DA drop.length dc) ∧ X.cell? ⟨wr.heap.size, 3, none⟩ = some (.int .i64 elog) ∧ X.cell? ⟨wr.heap.size, 4, none⟩ = some (.int .i64 enext)) (by kernel_rfl) ?_
       rw [← hV]
       clear hV hbV
       try simp only [List.getElem_toArray, List.getElem_cons_succ, List.getElem_cons_zero, Act.put, List.setIfInBounds_toArray, List.set_cons_succ, List.set_cons_zero]
       refine wT (i := 0) (v := (.slice (some ⟨rb, off, none⟩) L.length c)) rfl (yields_of1 (.tmp 7) (.slice (some ⟨rb, off, none⟩) L.length c) (by rfl) (by rfl) ?_) hy ?_
       · intro E wy hSw hc q1
         obtain ⟨hs1, hs2, hs3, hs4, hs5, hs6, hs7⟩ := hSw
         go_simp
       try simp only [List.getElem_toArray, List.getElem_cons_zero, Act.put, List.setIfInBounds_toArray, List.set_cons_succ, List.set_cons_zero]
       refine wT (i := 1) (v := (.slice (some ⟨rb, off, none⟩) L.length c)) rfl (yields_of1 (.tmp 7) (.slice (some ⟨rb, off, none⟩) L.length c) (by rfl) (by rfl) ?_) hy ?_
       · intro E wy hSw hc q1
         obtain ⟨hs1, hs2, hs3, hs4, hs5, hs6, hs7⟩ := hSw
         go_simp
       try simp only [List.getElem_toArray, List.getElem_cons_succ, List.getElem_cons_zero, Act.put, List.setIfInBounds_toArray, List.set_cons_succ, List.set_cons_zero]
       refine wT (i := 2) (v := (.int .i64 (L.length : Int))) rfl (yields_of1 (.tmp 81) (.slice (some ⟨rb, off, none⟩) L.length c) (by rfl) (by rfl) ?_) hy ?_
       · intro E wy hSw hc q1
         obtain ⟨hs1, hs2, hs3, hs4, hs5, hs6, hs7⟩ := hSw
         go_simp
       try simp only [List.getElem_toArray, List.getElem_cons_succ, List.getElem_cons_zero, Act.put, List.setIfInBounds_toArray, List.set_cons_succ, List.set_cons_zero]
       refine wT (i := 3) (v := (.int .i64 (li : Int))) rfl (yields_of1 (.tmp 82) (.int .i64 (L.length : Int)) (by rfl) (by rfl) ?_) hy ?_
       · intro E wy hSw hc q1
         obtain ⟨hs1, hs2, hs3, hs4, hs5, hs6, hs7⟩ := hSw
         go_simp
       try simp only [List.getElem_toArray, List.getElem_cons_succ, List.getElem_cons_zero, Act.put, List.setIfInBounds_toArray, List.set_cons_succ, List.set_cons_zero]
       refine wT (i := 4) (v := (.pointer (some ⟨rb, off + li * 3, none⟩))) rfl (yields_of2 (.tmp 80) (.tmp 83) (.slice (some ⟨rb, off, none⟩) L.length c) (.int .i64 (li : Int)) (by rfl) (by rfl) (by rfl) ?_) hy ?_
       · intro E wy hSw hc q1 q2
         obtain ⟨hs1, hs2, hs3, hs4, hs5, hs6, hs7⟩ := hSw
         go_simp
       try simp only [List.getElem_toArray, List.getElem_cons_succ, List.getElem_cons_zero, Act.put, List.setIfInBounds_toArray, List.set_cons_succ, List.set_cons_zero]
       refine wT (i := 5) (v := (.agg #[.slice v.A v.l.length v.c, .int .i64 v.log, .int .i64 v.next])) rfl (yields_of1 (.tmp 84) (.pointer (some ⟨rb, off + li * 3, none⟩)) (by rfl) (by rfl) ?_) hy ?_
       · intro E wy hSw hc q1
         obtain ⟨hs1, hs2, hs3, hs4, hs5, hs6, hs7⟩ := hSw
         go_simp
       try simp only [List.getElem_toArray, List.getElem_cons_succ, List.getElem_cons_zero, Act.put, List.setIfInBounds_toArray, List.set_cons_succ, List.set_cons_zero]
       refine wT (i := 6) (v := (.pointer (some ⟨wr.heap.size, 1, none⟩))) rfl (yields_of1 (.tmp 9) (.pointer (some ⟨wr.heap.size, 0, none⟩)) (by rfl) (by rfl) ?_) hy ?_
       · intro E wy hSw hc q1
         obtain ⟨hs1, hs2, hs3, hs4, hs5, hs6, hs7⟩ := hSw
         go_simp
       try simp only [List.getElem_toArray, List.getElem_cons_succ, List.getElem_cons_zero, Act.put, List.setIfInBounds_toArray, List.set_cons_succ, List.set_cons_zero]
       refine wT (i := 7) (v := (.agg #[.slice EA add.length ec, .slice DA drop.length dc, .int .i64 elog, .int .i64 enext])) rfl (yields_of1 (.tmp 86) (.pointer (some ⟨wr.heap.size, 1, none⟩)) (by rfl) (by rfl) ?_) hy ?_
       · intro E wy hSw hc q1
         obtain ⟨hs1, hs2, hs3, hs4, hs5, hs6, hs7⟩ := hSw
         go_simp
       try simp only [List.getElem_toArray, List.getElem_cons_succ, List.getElem_cons_zero, Act.put, List.setIfInBounds_toArray, List.set_cons_succ, List.set_cons_zero]
       refine wpAnyE_two (i := 8) (k := 12) (by kernel_rfl) rfl rfl (fun K hK => ?_) (fun K hK => ?_)
       · refine step_call2_dv (by rfl) (some 88) (by rfl) (.tmp 85) (.tmp 87) (by rfl) (.agg #[.slice v.A v.l.length v.c, .int .i64 v.log, .int .i64 v.next]) (.agg #[.slice EA add.length ec, .slice DA drop.length dc, .int .i64 elog, .int .i64 enext]) rfl rfl (enters_of Tryz.func12 (by kernel_rfl) rfl) _ (KX.out V HBV.out) ?_
         rintro e w6 ⟨x, rfl, hxs, hlv, hb6⟩
         have hb6' : Below w4.heap.size w4 w6 := HBV.out.trans (hb6.mono HBV.out.size)
         have hy6 := HYS.out w6 hb6'
         obtain ⟨w7, hw7⟩ : ∃ w7, w7 = w6.alloc (.cells #[.slice none 0 0, .int .i64 0, .int .i64 0] 24) := ⟨_, rfl⟩
         have hb67 : Below w6.heap.size w6 w7 := by rw [hw7]; exact (Below.refl _ _).alloc (Nat.le_refl _) _
         have HB7 : Hid (Below w4.heap.size w4 w7) := hid (hb6'.trans (hb67.mono hb6'.size))
         have HBX : Hid (w7.heap[w6.heap.size]? = some (.cells #[.slice none 0 0, .int .i64 0, .int .i64 0] 24)) := hid (by rw [hw7]; exact heap_alloc_new w6 _)
         have HBL : Hid (w4.heap.size ≤ w6.heap.size) := hid hb6'.size
         have HLV := hid (hlv.below hb67)
         have HXS := hid hxs
         clear hb6 hb6' hb67 HBV KX hy hlv hxs
         refine ⟨_, rfl, ?_⟩
         refine hK _ _ hy6 ?_
         clear hK K
         try simp only [Act.put, List.setIfInBounds_toArray, List.set_cons_succ, List.set_cons_zero]
         refine wT (i := 9) (v := (.tuple #[x.val, .int .i64 pc])) rfl (yields_of1 (.tmp 88) (.tuple #[x.val, .int .i64 pc]) (by rfl) (by rfl) ?_) hy6 ?_
         · intro E wy hSw hc q1
           obtain ⟨hs1, hs2, hs3, hs4, hs5, hs6, hs7⟩ := hSw
           go_simp
         try simp only [List.getElem_toArray, List.getElem_cons_succ, List.getElem_cons_zero, Act.put, List.setIfInBounds_toArray, List.set_cons_succ, List.set_cons_zero]
         refine wT (i := 10) (v := x.val) rfl (yields_of1 (.tmp 79) (.tuple #[x.val, .int .i64 pc]) (by rfl) (by rfl) ?_) hy6 ?_
         · intro E wy hSw hc q1
           obtain ⟨hs1, hs2, hs3, hs4, hs5, hs6, hs7⟩ := hSw
           go_simp
         try simp only [List.getElem_toArray, List.getElem_cons_succ, List.getElem_cons_zero, Act.put, List.setIfInBounds_toArray, List.set_cons_succ, List.set_cons_zero]
         refine wT (i := 11) (v := (.int .i64 pc)) rfl (yields_of1 (.tmp 79) (.tuple #[x.val, .int .i64 pc]) (by rfl) (by rfl) ?_) hy6 ?_
         · intro E wy hSw hc q1
           obtain ⟨hs1, hs2, hs3, hs4, hs5, hs6, hs7⟩ := hSw
           go_simp
         try simp only [List.getElem_toArray, List.getElem_cons_succ, List.getElem_cons_zero, Act.put, List.setIfInBounds_toArray, List.set_cons_succ, List.set_cons_zero]
         refine wpAnyE_one (i := 12) (by kernel_rfl) rfl (fun K hK => ?_)
         refine step_hide0 (.pointer (some ⟨w6.heap.size, 0, none⟩)) w7 (by rfl) ?_ ?_
         · intro E hcE a' K' hK'
           rw [hw7] at hK'
           go_simp
           exact hK'
         refine hK _ _ (HYS.out _ HB7.out) ?_
         clear hK K hw7 hy6
         try simp only [List.getElem_toArray, List.getElem_cons_succ, List.getElem_cons_zero, Act.put, List.setIfInBounds_toArray, List.set_cons_succ, List.set_cons_zero]
         have hx7 := HBX.out
         have hc0 : w7.cell? ⟨w6.heap.size, 0, none⟩ = some (.slice none 0 0) := by rw [cell_of_row w7 _ 0 _ _ (0, 0) hx7]; rfl
         have hfz0 := frozen_of_row w7 w6.heap.size 0 _ _ hx7
         have hc1 : w7.cell? ⟨w6.heap.size, 1, none⟩ = some (.int .i64 0) := by rw [cell_of_row w7 _ 1 _ _ (0, 0) hx7]; rfl
         have hfz1 := frozen_of_row w7 w6.heap.size 1 _ _ hx7
         have hc2 : w7.cell? ⟨w6.heap.size, 2, none⟩ = some (.int .i64 0) := by rw [cell_of_row w7 _ 2 _ _ (0, 0) hx7]; rfl
         have hfz2 := frozen_of_row w7 w6.heap.size 2 _ _ hx7
         clear hx7
         refine wpAnyE_one (i := 13) (by kernel_rfl) rfl (fun K hK => ?_)
         refine step_hide2 (.tmp 11) (.tmp 89) (.pointer (some ⟨w6.heap.size, 0, none⟩)) x.val undef (((w7.setCell ⟨w6.heap.size, 0, none⟩ (.slice x.A x.l.length x.c)).setCell ⟨w6.heap.size, 1, none⟩ (.int .i64 x.log)).setCell ⟨w6.heap.size, 2, none⟩ (.int .i64 x.next)) (by rfl) (by rfl) (by rfl) ?_ ?_
         · intro E hcE q1 q2 a' K' hK'
           unfold Sv.val at q2
           go_simp
           exact hK'
         have hbs : Below w4.heap.size w4 (((w7.setCell ⟨w6.heap.size, 0, none⟩ (.slice x.A x.l.length x.c)).setCell ⟨w6.heap.size, 1, none⟩ (.int .i64 x.log)).setCell ⟨w6.heap.size, 2, none⟩ (.int .i64 x.next)) := ((HB7.out.setCell HBL.out _).setCell HBL.out _).setCell HBL.out _
         refine hK _ _ (HYS.out _ hbs) ?_
         clear hK K hc0 hc1 hc2 hfz0 hfz1 hfz2
         try simp only [List.getElem_toArray, List.getElem_cons_succ, List.getElem_cons_zero, Act.put]
         refine wpAnyE_last (by kernel_rfl) (by kernel_rfl) rfl (fun K hK => ?_)
         refine step_hide2 (.tmp 90) (.tmp 90) (.int .i64 pc) (.int .i64 pc) (.int .i64 pc) (((w7.setCell ⟨w6.heap.size, 0, none⟩ (.slice x.A x.l.length x.c)).setCell ⟨w6.heap.size, 1, none⟩ (.int .i64 x.log)).setCell ⟨w6.heap.size, 2, none⟩ (.int .i64 x.next)) (by rfl) (by rfl) (by rfl) ?_ ?_
         · intro E hcE q1 q2 a' K' hK'
           go_simp
           exact hK'
         refine hK _ _ ?_
         clear hK K
         try simp only [List.getElem_toArray, List.getElem_cons_succ, List.getElem_cons_zero, Act.put, List.setIfInBounds_toArray, List.set_cons_succ, List.set_cons_zero]
         go_wp2_with fail
         go_meet
         obtain ⟨n1, n2⟩ := box3_set (a' := .slice x.A x.l.length x.c) (b' := .int .i64 x.log) (c' := .int .i64 x.next) HBX.out
         exact ⟨w6.heap.size, x, rfl, rfl, HXS, HBL, hid ⟨hbs, n1, HLV.out.box3 ⟨_, _, HBX.out⟩ (by simp [World.setCell]) n2 (fun q e e2 => by have := HNB.out; have := HBL.out; simp [blk] at e; omega)⟩⟩
       · obtain ⟨V1, hV1⟩ : ∃ V1, V1 = V.alloc (.cells #[.slice none 0 0, .int .i64 0, .int .i64 0] 24) := ⟨_, rfl⟩
         have hb1 : Below w4.heap.size w4 V1 := by rw [hV1]; exact HBV.out.alloc HBV.out.size _
         have hx1 : V1.heap[V.heap.size]? = some (.cells #[.slice none 0 0, .int .i64 0, .int .i64 0] 24) := by rw [hV1]; exact heap_alloc_new V _
         have HBL : Hid (w4.heap.size ≤ V.heap.size) := hid HBV.out.size
         have HLT : Hid (V.heap.size < V1.heap.size) := hid (Array.getElem?_eq_some_iff.1 hx1).1
         refine step_hide0 (.pointer (some ⟨V.heap.size, 0, none⟩)) V1 (by rfl) ?_ ?_
         · intro E hcE a' K' hK'
           rw [hV1] at hK'
           go_simp
           exact hK'
         refine hK _ _ (HYS.out _ hb1) ?_
         clear hK K hV1 hy
         try simp only [List.getElem_toArray, List.getElem_cons_succ, List.getElem_cons_zero, Act.put, List.setIfInBounds_toArray, List.set_cons_succ, List.set_cons_zero]
         refine wpAnyE_one (i := 8) (by kernel_rfl) rfl (fun K hK => ?_)
         refine step_call2_dv (by rfl) (some 88) (by rfl) (.tmp 85) (.tmp 87) (by rfl) (.agg #[.slice v.A v.l.length v.c, .int .i64 v.log, .int .i64 v.next]) (.agg #[.slice EA add.length ec, .slice DA drop.length dc, .int .i64 elog, .int .i64 enext]) rfl rfl (enters_of Tryz.func12 (by kernel_rfl) rfl) _ (KX.out V1 hb1) ?_
         rintro e w7 ⟨x, rfl, hxs, hlv, hb6⟩
         have HB7 : Hid (Below w4.heap.size w4 w7) := hid (hb1.trans (hb6.mono hb1.size))
         have HBX : Hid (w7.heap[V.heap.size]? = some (.cells #[.slice none 0 0, .int .i64 0, .int .i64 0] 24)) := hid ((hb6.block _ HLT.out).trans hx1)
         have HLV := hid hlv
         have HXS := hid hxs
         have hy7 := HYS.out _ HB7.out
         clear hb6 hb1 hx1 KX HBV hlv hxs
         refine ⟨_, rfl, ?_⟩
         refine hK _ _ hy7 ?_
         clear hK K
         try simp only [Act.put, List.setIfInBounds_toArray, List.set_cons_succ, List.set_cons_zero]
         refine wT (i := 9) (v := (.tuple #[x.val, .int .i64 pc])) rfl (yields_of1 (.tmp 88) (.tuple #[x.val, .int .i64 pc]) (by rfl) (by rfl) ?_) hy7 ?_
         · intro E wy hSw hc q1
           obtain ⟨hs1, hs2, hs3, hs4, hs5, hs6, hs7⟩ := hSw
           go_simp
         try simp only [List.getElem_toArray, List.getElem_cons_succ, List.getElem_cons_zero, Act.put, List.setIfInBounds_toArray, List.set_cons_succ, List.set_cons_zero]
         refine wT (i := 10) (v := x.val) rfl (yields_of1 (.tmp 79) (.tuple #[x.val, .int .i64 pc]) (by rfl) (by rfl) ?_) hy7 ?_
         · intro E wy hSw hc q1
           obtain ⟨hs1, hs2, hs3, hs4, hs5, hs6, hs7⟩ := hSw
           go_simp
         try simp only [List.getElem_toArray, List.getElem_cons_succ, List.getElem_cons_zero, Act.put, List.setIfInBounds_toArray, List.set_cons_succ, List.set_cons_zero]
         refine wT (i := 11) (v := (.int .i64 pc)) rfl (yields_of1 (.tmp 79) (.tuple #[x.val, .int .i64 pc]) (by rfl) (by rfl) ?_) hy7 ?_
         · intro E wy hSw hc q1
           obtain ⟨hs1, hs2, hs3, hs4, hs5, hs6, hs7⟩ := hSw
           go_simp
         try simp only [List.getElem_toArray, List.getElem_cons_succ, List.getElem_cons_zero, Act.put, List.setIfInBounds_toArray, List.set_cons_succ, List.set_cons_zero]
         clear hy7
         have hx7 := HBX.out
         have hc0 : w7.cell? ⟨V.heap.size, 0, none⟩ = some (.slice none 0 0) := by rw [cell_of_row w7 _ 0 _ _ (0, 0) hx7]; rfl
         have hfz0 := frozen_of_row w7 V.heap.size 0 _ _ hx7
         have hc1 : w7.cell? ⟨V.heap.size, 1, none⟩ = some (.int .i64 0) := by rw [cell_of_row w7 _ 1 _ _ (0, 0) hx7]; rfl
         have hfz1 := frozen_of_row w7 V.heap.size 1 _ _ hx7
         have hc2 : w7.cell? ⟨V.heap.size, 2, none⟩ = some (.int .i64 0) := by rw [cell_of_row w7 _ 2 _ _ (0, 0) hx7]; rfl
         have hfz2 := frozen_of_row w7 V.heap.size 2 _ _ hx7
         clear hx7
         refine wpAnyE_one (i := 13) (by kernel_rfl) rfl (fun K hK => ?_)
         refine step_hide2 (.tmp 11) (.tmp 89) (.pointer (some ⟨V.heap.size, 0, none⟩)) x.val undef (((w7.setCell ⟨V.heap.size, 0, none⟩ (.slice x.A x.l.length x.c)).setCell ⟨V.heap.size, 1, none⟩ (.int .i64 x.log)).setCell ⟨V.heap.size, 2, none⟩ (.int .i64 x.next)) (by rfl) (by rfl) (by rfl) ?_ ?_
         · intro E hcE q1 q2 a' K' hK'
           unfold Sv.val at q2
           go_simp
           exact hK'
         have hbs : Below w4.heap.size w4 (((w7.setCell ⟨V.heap.size, 0, none⟩ (.slice x.A x.l.length x.c)).setCell ⟨V.heap.size, 1, none⟩ (.int .i64 x.log)).setCell ⟨V.heap.size, 2, none⟩ (.int .i64 x.next)) := ((HB7.out.setCell HBL.out _).setCell HBL.out _).setCell HBL.out _
         refine hK _ _ (HYS.out _ hbs) ?_
         clear hK K hc0 hc1 hc2 hfz0 hfz1 hfz2
         try simp only [List.getElem_toArray, List.getElem_cons_succ, List.getElem_cons_zero, Act.put]
         refine wpAnyE_last (by kernel_rfl) (by kernel_rfl) rfl (fun K hK => ?_)
         refine step_hide2 (.tmp 90) (.tmp 90) (.int .i64 pc) (.int .i64 pc) (.int .i64 pc) (((w7.setCell ⟨V.heap.size, 0, none⟩ (.slice x.A x.l.length x.c)).setCell ⟨V.heap.size, 1, none⟩ (.int .i64 x.log)).setCell ⟨V.heap.size, 2, none⟩ (.int .i64 x.next)) (by rfl) (by rfl) (by rfl) ?_ ?_
         · intro E hcE q1 q2 a' K' hK'
           go_simp
           exact hK'
         refine hK _ _ ?_
         clear hK K
         try simp only [List.getElem_toArray, List.getElem_cons_succ, List.getElem_cons_zero, Act.put, List.setIfInBounds_toArray, List.set_cons_succ, List.set_cons_zero]
         go_wp2_with fail
         go_meet
         obtain ⟨n1, n2⟩ := box3_set (a' := .slice x.A x.l.length x.c) (b' := .int .i64 x.log) (c' := .int .i64 x.next) HBX.out
         exact ⟨V.heap.size, x, rfl, rfl, HXS, HBL, hid ⟨hbs, n1, HLV.out.box3 ⟨_, _, HBX.out⟩ (by simp [World.setCell]) n2 (fun q e e2 => by have := HNB.out; have := HBL.out; simp [blk] at e; omega)⟩⟩
     case rest =>
       obtain ⟨bn, x, rfl, rfl, HXS, HBN2, HCX⟩ := hcut
       have KL := hid (KLG.out wc x HCX.out.2.2 HCX.out.1)
       obtain ⟨d0, d1, d2, d3, d4, d5, d6, d7⟩ := HTC.out wc HCX.out.1
       clear KX KLG HYS HTK HKP
       go_wp2_with fail
       refine KL.out.mono ?_
       rintro r w5 ⟨code, rfl, hlg, hb5, hbk⟩
       dsimp only
       have HLG := hid hlg
       have HB5b := hid ((HBB.out.trans (HCX.out.1.mono HBB.out.size)).trans hb5)
       have hx5 := (hbk bn (.inr ⟨_, _, HCX.out.2.1⟩)).trans HCX.out.2.1
       obtain ⟨n0, n1, n2⟩ : w5.cell? ⟨bn, 0, none⟩ = some (.slice x.A x.l.length x.c) ∧ w5.cell? ⟨bn, 1, none⟩ = some (.int .i64 x.log) ∧ w5.cell? ⟨bn, 2, none⟩ = some (.int .i64 x.next) := ⟨by rw [cell_of_row w5 _ 0 _ _ (0, 0) hx5]; rfl, by rw [cell_of_row w5 _ 1 _ _ (0, 0) hx5]; rfl, by rw [cell_of_row w5 _ 2 _ _ (0, 0) hx5]; rfl⟩
       clear d0 d1 d2 d3 d4 d5 d6 d7 hlg hb5 hbk hx5 KL
       by_cases h0 : code = 0
       · have HP0 : Hid (pc = 0) := hid (by rw [HPC.out]; exact HLG.out.row.2 h0)
         have s1 : ((code : Int) == 0) = true := by rw [h0]; rfl
         have s2 : ((pc : Int) != 0) = false := by rw [HP0.out]; rfl
         have HC0 := hid h0
         have hb56 : Below w5.heap.size w5 (w5.alloc x.obj) := (Below.refl _ _).alloc (Nat.le_refl _) _
         have HNEW : Hid (LvR (w5.alloc x.obj) w1.heap.size g gk (k + 1) (some ⟨w5.heap.size, 0, none⟩) 1 [x] [] ∧ Below w1.heap.size w1 (w5.alloc x.obj)) := hid ⟨HLG.out.one h0 HXS.out hb56 (own_sv_new w5 x HB5b.out.size), HB5b.out.alloc HB5b.out.size _⟩
         unfold Sv.obj at HNEW
         clear hb56 h0
         go_wp2_with fail
         exact ⟨⟨k + 1, gk, 1, _, [x], hlt, by omega, by simp, rfl, rfl, hid HNEW.out.1, hid HNEW.out.2, hid (by simp)⟩, by simp only [intOf]; omega⟩
       have s1 : ((code : Int) == 0) = false := by simp [h0]
       have HC0 := hid h0
       clear h0
       by_cases hp0 : pc = 0
       rotate_left
       · have s2 : ((pc : Int) == 0) = false := by simp [hp0]
         have HNEW : Hid (LvR w5 w1.heap.size g gk (k + 1) (some ⟨rb, off, none⟩) c L []) := hid (HLG.out.same HC0.out (fun h => hp0 (by rw [HPC.out]; exact h.1)))
         clear hp0
         go_wp2_with fail
         exact ⟨⟨k + 1, gk, c, _, L, hlt, by omega, by simp, rfl, rfl, HNEW, HB5b, hid (by have := HLL.out; omega)⟩, by simp only [intOf]; omega⟩
       have s2 : ((pc : Int) == 0) = true := by rw [hp0]; rfl
       have HP0 := hid hp0
       clear hp0
       by_cases h9 : code = 9
       · have s3 : ((code : Int) != 9) = false := by rw [h9]; rfl
         have HNEW : Hid (LvR w5 w1.heap.size g gk (k + 1) (some ⟨rb, off, none⟩) c L []) := hid (HLG.out.same HC0.out (fun h => h.2.1 h9))
         clear h9
         go_wp2_with fail
         exact ⟨⟨k + 1, gk, c, _, L, hlt, by omega, by simp, rfl, rfl, HNEW, HB5b, hid (by have := HLL.out; omega)⟩, by simp only [intOf]; omega⟩
       have s3 : ((code : Int) != 9) = true := by simp [h9]
       have HC9 := hid h9
       clear h9
       by_cases h2 : code = 2
       · have s4 : ((code : Int) != 2) = false := by rw [h2]; rfl
         have HNEW : Hid (LvR w5 w1.heap.size g gk (k + 1) (some ⟨rb, off, none⟩) c L []) := hid (HLG.out.same HC0.out (fun h => h.2.2 h2))
         clear h2
         go_wp2_with fail
         exact ⟨⟨k + 1, gk, c, _, L, hlt, by omega, by simp, rfl, rfl, HNEW, HB5b, hid (by have := HLL.out; omega)⟩, by simp only [intOf]; omega⟩
       have s4 : ((code : Int) != 2) = true := by simp [h2]
       have HC2 := hid h2
       clear h2
       have HR5 := hid HLG.out.row.1
       have HLX : Hid ((L.length + 1) * 40 ≤ 140737488355328 ∧ L.length + 1 ≤ 9223372036854775807) := hid (by have := HLL.out; omega)
       have HRD := hid (rd_sv_new w5 x rfl)
       have HRA := hid (HR5.out.alloc x.obj)
       have HWZ := hid HB5b.out.size
       unfold Sv.obj at HRD HRA
       go_wp2_with (at_builtin; (refine wpList_append_s _ rfl _ _ svT rfl w1.heap.size (some ⟨rb, off, none⟩) c L rfl HRA.out (w5.heap.size + 1) (some ⟨w5.heap.size, 0, none⟩) 1 1 [x] rfl rfl HRD.out HLX.out.1 HLX.out.2 (by have := HWZ.out; simp; omega) ?_; intro A3 c3 L3 w8 hl3 ho3 hg3 hat3))
       have hl3 : L3 = L ++ [x] := hl3
       subst hl3
       obtain ⟨m1, m2⟩ := HLG.out.more HC0.out (by rw [← HPC.out]; exact HP0.out) HC9.out HC2.out HXS.out ((Below.refl _ _).alloc (Nat.le_refl _) x.obj) hg3 ho3
       exact ⟨⟨k + 1, gk, c3, A3, L ++ [x], hlt, by omega, by simp, rfl, by simp, hid m1, hid (HB5b.out.trans m2), hid (by have := HLL.out; simp; omega)⟩, by simp only [intOf]; omega⟩
   have e0 : ((td : Int) == 0) = false := by simp [c0]
   clear c0
   by_cases c1 : td = 1
   · have e1 : ((td : Int) == 1) = true := by rw [c1]; rfl
     have KP := hid (HLV.out.plan_val BA bc b HTK.out.b (by have := HBN.out; omega))
     clear c1 HTK HKP
     go_wp2_with fail
     refine KP.out.mono ?_
     rintro r w5 ⟨rfl, hlr, hb5⟩
     dsimp only
     have HNEW := hid hlr
     have HB5b := hid (HBB.out.trans hb5)
     clear d0 d1 d2 d3 d4 d5 d6 d7 hlr hb5 KP
     go_wp2_with fail
     exact ⟨⟨k + 1, gk, c, A, L, hlt, by omega, by simp, rfl, rfl, HNEW, HB5b, hid (by have := HLL.out; omega)⟩, by simp only [intOf]; omega⟩
   have e1 : ((td : Int) == 1) = false := by simp [c1]
   clear c1
   by_cases c2 : td = 2
   rotate_left
   · have e2 : ((td : Int) == 2) = false := by simp [c2]
     clear c2
     have HNEW := hid HLV.out.mono
     go_wp2_with fail
     exact ⟨⟨k + 1, gk, c, A, L, hlt, by omega, by simp, rfl, rfl, HNEW, HBB, hid (by have := HLL.out; omega)⟩, by simp only [intOf]; omega⟩
   have e2 : ((td : Int) == 2) = true := by rw [c2]; rfl
   have KC := hid (HLV.out.crash_val hk60 tn KAd kc keep HKP.out.1 HKP.out.2)
   clear c2 HTK HKP
   go_wp2_with fail
   refine KC.out.mono ?_
   rintro r w5 ⟨rfl, t', hmem, hlc, hb5⟩
   dsimp only
   have HMEM := hid hmem
   have HB5b := hid (HBB.out.trans hb5)
   have KO2 := hid (hlc.open_val (HTU.out.keep HB5b.out))
   clear d0 d1 d2 d3 d4 d5 d6 d7 hmem hlc hb5 KC
   go_wp2_with fail
   refine KO2.out.mono ?_
   rintro r w6 ⟨gk2, rfl, hlo, hb6⟩
   dsimp only
   have HLO := hid hlo
   have HB6 := hid (HB5b.out.trans hb6)
   have KS2 := hid hlo.state_val
   clear hlo hb6 KO2
   go_wp2_with fail
   refine KS2.out.mono ?_
   rintro r w7 ⟨u, rfl, hus, huo, hb7⟩
   unfold Sv.val
   dsimp only
   obtain ⟨w8, hw8⟩ : ∃ w8, w8 = w7.alloc (.cells #[.slice u.A u.l.length u.c, .int .i64 u.log, .int .i64 u.next] 24) := ⟨_, rfl⟩
   have hb78 : Below w7.heap.size w7 w8 := by rw [hw8]; exact (Below.refl _ _).alloc (Nat.le_refl _) _
   have hxs : w8.heap[w7.heap.size]? = some (.cells #[.slice u.A u.l.length u.c, .int .i64 u.log, .int .i64 u.next] 24) := by rw [hw8]; exact heap_alloc_new w7 _
   have hb68 : Below w6.heap.size w6 w8 := hb7.trans (hb78.mono hb7.size)
   have HB68 := hid hb68
   have HB8 := hid (HB6.out.trans (hb68.mono HB6.out.size))
   have HUO := hid (huo.below hb78)
   have HUS := hid hus
   have HXS := hid hxs
   have HROW := hid (HLO.out.below hb68).row
   have HULN : Hid (u.l.length ≤ 1000000) := hid (by
     have h1 := sv_len (v := u) (by rw [hus]; exact HROW.out.2.2)
     omega)
   have hLpos : 0 < L.length := by
     have h1 := HMEM.out
     cases L with
     | nil => cases h1
     | cons a L => simp
   obtain ⟨rb, off, hA, hrb, hrc⟩ := RdS.row (f := Sv.cells) (n := 3) (fun _ => rfl) (by omega) HROW.out.1.rd hLpos
   have HRC := hid hrc
   have HRB := hid hrb
   have HW8 := hid hw8
   obtain ⟨sb, hsb⟩ : ∃ sb, sb = w7.heap.size := ⟨_, rfl⟩
   rw [← hsb] at HXS
   have HCELL : Hid (∀ X, Below w8.heap.size w8 X → (X.cell? ⟨sb, 0, none⟩ = some (.slice u.A u.l.length u.c) ∧ X.cell? ⟨sb, 1, none⟩ = some (.int .i64 u.log) ∧ X.cell? ⟨sb, 2, none⟩ = some (.int .i64 u.next))) := hid (fun X hX => by
     have h0 := (hX.block _ (Array.getElem?_eq_some_iff.1 HXS.out).1).trans HXS.out
     exact ⟨by rw [cell_of_row X _ 0 _ _ (0, 0) h0]; rfl, by rw [cell_of_row X _ 1 _ _ (0, 0) h0]; rfl, by rw [cell_of_row X _ 2 _ _ (0, 0) h0]; rfl⟩)
   subst hA
   clear hus huo hb7 hb78 hxs hb68 hrb hrc KS2 hLpos
   go_wp2_with fail
   rw [← hw8, ← hsb]
   clear hw8 hsb HW8
   go_loopw [17, 18] (fun f i2 wy => ∃ (k2 : Nat) (fb : Bool), k2 ≤ L.length ∧ i2 = .int .i64 (k2 : Int) ∧ f = .bool fb ∧ Hid (fb = (L.take k2).any (fun v => ssE u.ss v.ss)) ∧ Hid (Below w8.heap.size w8 wy)) (fun _ i2 _ => L.length - (intOf i2).toNat)
   case atStart => exact ⟨0, false, by omega, rfl, rfl, hid (by simp), hid (Below.refl _ _)⟩
   case round =>
     obtain ⟨k2, fb, hk2, rfl, rfl, HFB, HBY⟩ := hrel
     by_cases hlt2 : k2 < L.length
     · have hlt2' : (k2 : Int) < (L.length : Int) := by omega
       have hk20 : (0 : Int) ≤ (k2 : Int) := by omega
       have hk2b : (k2 : Int) < 100 := by have := HLL.out; omega
       have HTK2 : Hid (L.take (k2 + 1) = L.take k2 ++ [L[k2]]) := hid (List.take_succ_eq_append_getElem hlt2)
       have hc3 := HRC.out k2 hlt2
       have HVO : Hid (OwV w8 w1.heap.size L[k2].A L[k2].c L[k2].l) := hid (HROW.out.2.1 _ (List.getElem_mem hlt2))
       obtain ⟨v, hv⟩ : ∃ v, v = L[k2] := ⟨_, rfl⟩
       rw [← hv] at hc3 HVO HTK2
       have r0 := hc3 0 _ rfl
       have r1 := hc3 1 _ rfl
       have r2 := hc3 2 _ rfl
       rw [Nat.add_zero] at r0
       have HYC : Hid (∀ X, Below wr.heap.size wr X → X.cell? ⟨sb, 0, none⟩ = some (.slice u.A u.l.length u.c) ∧ X.cell? ⟨sb, 1, none⟩ = some (.int .i64 u.log) ∧ X.cell? ⟨sb, 2, none⟩ = some (.int .i64 u.next) ∧ X.cell? ⟨rb, off + k2 * 3, none⟩ = some (.slice v.A v.l.length v.c) ∧ X.cell? ⟨rb, off + k2 * 3 + 1, none⟩ = some (.int .i64 v.log) ∧ X.cell? ⟨rb, off + k2 * 3 + 2, none⟩ = some (.int .i64 v.next)) := hid (fun X hX => by
         have hX8 := HBY.out.trans (hX.mono HBY.out.size)
         obtain ⟨h1, h2, h3⟩ := HCELL.out X hX8
         exact ⟨h1, h2, h3, (hX8.cell (p := ⟨rb, off + k2 * 3, none⟩) HRB.out).trans r0, (hX8.cell (p := ⟨rb, off + k2 * 3 + 1, none⟩) HRB.out).trans r1, (hX8.cell (p := ⟨rb, off + k2 * 3 + 2, none⟩) HRB.out).trans r2⟩)
       obtain ⟨sm, hsm⟩ : ∃ sm, sm = ssE u.ss v.ss := ⟨_, rfl⟩
       have HSM := hid hsm
       have KSS : Hid (∀ X, Below wr.heap.size wr X → Calls Tryz.prog 13 #[.agg #[.slice u.A u.l.length u.c, .int .i64 u.log, .int .i64 u.next], .agg #[.slice v.A v.l.length v.c, .int .i64 v.log, .int .i64 v.next]] X fun e w' => e = .returned (.bool sm) ∧ Below X.heap.size X w') := hid (fun X hX => by
         have hX8 := HBY.out.trans (hX.mono HBY.out.size)
         rw [hsm]
         exact rsameState_any u.A v.A u.c v.c u.l v.l u.log v.log u.next v.next X (HUO.out.below hX8).rd (HVO.out.below hX8).rd HULN.out)
       clear hc3 hv r0 r1 r2 hsm
       go_upto_region 38 with fail
       obtain ⟨V, hV⟩ : ∃ V, V = wr.drew := ⟨_, rfl⟩
       have hbV : Below wr.heap.size wr V := by rw [hV]; exact (Below.refl _ _).drew
       have HBV := hid hbV
       have hy := HYC.out V hbV
       refine wp_region_E 6 (fun X => X.cell? ⟨sb, 0, none⟩ = some (.slice u.A u.l.length u.c) ∧ X.cell? ⟨sb, 1, none⟩ = some (.int .i64 u.log) ∧ X.cell? ⟨sb, 2, none⟩ = some (.int .i64 u.next) ∧ X.cell? ⟨rb, off + k2 * 3, none⟩ = some (.slice v.A v.l.length v.c) ∧ X.cell? ⟨rb, off + k2 * 3 + 1, none⟩ = some (.int .i64 v.log) ∧ X.cell? ⟨rb, off + k2 * 3 + 2, none⟩ = some (.int .i64 v.next)) (by kernel_rfl) ?_
       rw [← hV]
       clear hV hbV
       try simp only [List.getElem_toArray, List.getElem_cons_succ, List.getElem_cons_zero, Act.put, List.setIfInBounds_toArray, List.set_cons_succ, List.set_cons_zero]
       refine wT (i := 0) (v := (.agg #[.slice u.A u.l.length u.c, .int .i64 u.log, .int .i64 u.next])) rfl (yields_of1 (.tmp 16) (.pointer (some ⟨sb, 0, none⟩)) (by rfl) (by rfl) ?_) hy ?_
       · intro E wy hSw hc q1
         obtain ⟨hs1, hs2, hs3, hs4, hs5, hs6⟩ := hSw
         go_simp
       try simp only [List.getElem_toArray, List.getElem_cons_zero, Act.put, List.setIfInBounds_toArray, List.set_cons_succ, List.set_cons_zero]
       refine wT (i := 1) (v := (.slice (some ⟨rb, off, none⟩) L.length c)) rfl (yields_of1 (.tmp 7) (.slice (some ⟨rb, off, none⟩) L.length c) (by rfl) (by rfl) ?_) hy ?_
       · intro E wy hSw hc q1
         obtain ⟨hs1, hs2, hs3, hs4, hs5, hs6⟩ := hSw
         go_simp
       try simp only [List.getElem_toArray, List.getElem_cons_succ, List.getElem_cons_zero, Act.put, List.setIfInBounds_toArray, List.set_cons_succ, List.set_cons_zero]
       refine wT (i := 2) (v := (.int .i64 (k2 : Int))) rfl (yields_of1 (.tmp 18) (.int .i64 (k2 : Int)) (by rfl) (by rfl) ?_) hy ?_
       · intro E wy hSw hc q1
         obtain ⟨hs1, hs2, hs3, hs4, hs5, hs6⟩ := hSw
         go_simp
       try simp only [List.getElem_toArray, List.getElem_cons_succ, List.getElem_cons_zero, Act.put, List.setIfInBounds_toArray, List.set_cons_succ, List.set_cons_zero]
       refine wT (i := 3) (v := (.pointer (some ⟨rb, off + k2 * 3, none⟩))) rfl (yields_of2 (.tmp 153) (.tmp 154) (.slice (some ⟨rb, off, none⟩) L.length c) (.int .i64 (k2 : Int)) (by rfl) (by rfl) (by rfl) ?_) hy ?_
       · intro E wy hSw hc q1 q2
         obtain ⟨hs1, hs2, hs3, hs4, hs5, hs6⟩ := hSw
         go_simp
       try simp only [List.getElem_toArray, List.getElem_cons_succ, List.getElem_cons_zero, Act.put, List.setIfInBounds_toArray, List.set_cons_succ, List.set_cons_zero]
       refine wT (i := 4) (v := (.agg #[.slice v.A v.l.length v.c, .int .i64 v.log, .int .i64 v.next])) rfl (yields_of1 (.tmp 155) (.pointer (some ⟨rb, off + k2 * 3, none⟩)) (by rfl) (by rfl) ?_) hy ?_
       · intro E wy hSw hc q1
         obtain ⟨hs1, hs2, hs3, hs4, hs5, hs6⟩ := hSw
         go_simp
       try simp only [List.getElem_toArray, List.getElem_cons_succ, List.getElem_cons_zero, Act.put, List.setIfInBounds_toArray, List.set_cons_succ, List.set_cons_zero]
       refine wpAnyE_one (i := 5) (by kernel_rfl) rfl (fun K hK => ?_)
       refine step_call2_dv (by rfl) (some 157) (by rfl) (.tmp 152) (.tmp 156) (by rfl) (.agg #[.slice u.A u.l.length u.c, .int .i64 u.log, .int .i64 u.next]) (.agg #[.slice v.A v.l.length v.c, .int .i64 v.log, .int .i64 v.next]) rfl rfl (enters_of Tryz.func13 (by kernel_rfl) rfl) _ (KSS.out V HBV.out) ?_
       rintro e w7 ⟨rfl, hb7⟩
       have hb7' : Below wr.heap.size wr w7 := HBV.out.trans (hb7.mono HBV.out.size)
       refine ⟨_, rfl, ?_⟩
       refine hK _ _ (HYC.out _ hb7') ?_
       have HB7 := hid hb7'
       clear hK K hb7 hb7' hy HBV KSS
       try simp only [Act.put, List.setIfInBounds_toArray, List.set_cons_succ, List.set_cons_zero]
       refine wpAnyE_last (by kernel_rfl) (by kernel_rfl) rfl (fun K hK => ?_)
       refine step_hide2 (.tmp 157) (.tmp 157) (.bool sm) (.bool sm) (.bool sm) w7 (by rfl) (by rfl) (by rfl) ?_ ?_
       · intro E hcE q1 q2 a' K' hK'
         go_simp
         exact hK'
       refine hK _ _ ?_
       clear hK K
       try simp only [List.getElem_toArray, List.getElem_cons_succ, List.getElem_cons_zero, Act.put, List.setIfInBounds_toArray, List.set_cons_succ, List.set_cons_zero]
       have HBY7 := hid (HBY.out.trans (HB7.out.mono HBY.out.size))
       have HNXT : Hid ((fb || sm) = (L.take (k2 + 1)).any (fun v => ssE u.ss v.ss)) := hid (by rw [HTK2.out, List.any_append, ← HFB.out, HSM.out]; simp)
       rcases fb with _ | _
       · go_wp2_with fail
         exact ⟨⟨k2 + 1, sm, hlt2, by simp, rfl, hid (by have := HNXT.out; simpa using this), HBY7⟩, by simp only [intOf]; omega⟩
       · go_wp2_with fail
         exact ⟨⟨k2 + 1, true, hlt2, by simp, rfl, hid (by have := HNXT.out; simpa using this), HBY7⟩, by simp only [intOf]; omega⟩
     · have hlt2' : ¬ (k2 : Int) < (L.length : Int) := by omega
       have hke : k2 = L.length := by omega
       have hfb : fb = true := by
         rw [HFB.out, hke, List.take_length]
         obtain ⟨y, hy, hye⟩ := List.mem_map.1 HMEM.out
         exact List.any_eq_true.2 ⟨y, hy, by rw [HUS.out, hye]; exact ssE_refl _⟩
       subst hfb
       obtain ⟨d0, d1, d2⟩ := HCELL.out wr HBY.out
       have KR := hid (right_any u.A u.c u.l u.log u.next wr (HUO.out.below HBY.out).rd HULN.out)
       have hru : Ver.right ⟨u.l.map Vf.fi, u.log, u.next⟩ = true := by
         have h1 := HROW.out.2.2
         rw [← HUS.out] at h1
         exact h1
       rw [hru] at KR
       clear hru hke
       go_wp2_with fail
       refine KR.out.mono ?_
       rintro r w9 ⟨rfl, hb9⟩
       dsimp only
       have HB89 := hid (HBY.out.trans (hb9.mono HBY.out.size))
       clear d0 d1 d2 hb9 KR
       obtain ⟨d0, d1, d2⟩ := HCELL.out w9 HB89.out
       have hb910 : Below w9.heap.size w9 (w9.alloc u.obj) := (Below.refl _ _).alloc (Nat.le_refl _) _
       have hb810 : Below w8.heap.size w8 (w9.alloc u.obj) := HB89.out.trans (hb910.mono HB89.out.size)
       have HNEW : Hid (LvR (w9.alloc u.obj) w1.heap.size g gk2 (k + 1) (some ⟨w9.heap.size, 0, none⟩) 1 [u] [] ∧ Below w1.heap.size w1 (w9.alloc u.obj)) := hid ⟨HLO.out.one (HB68.out.trans (hb810.mono HB68.out.size)) (HUO.out.below hb810) HUS.out (own_sv_new w9 u (Nat.le_trans HB8.out.size HB89.out.size)), HB8.out.trans (hb810.mono HB8.out.size)⟩
       unfold Sv.obj at HNEW
       clear hb910 hb810
       go_wp2_with fail
       exact ⟨⟨k + 1, gk2, 1, _, [u], hlt, by omega, by simp, rfl, rfl, hid HNEW.out.1, hid HNEW.out.2, hid (by simp)⟩, by simp only [intOf]; omega⟩
end Ver
end Go.Proofs.YtgmnhdkdicgkcaaGreatDoor
