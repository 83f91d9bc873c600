/- Parts of the proof, one behind the other: Files of tables copied. -/
import Derived.Test.YtgmnhdkdicgkcaaGreatDoorOrg24
namespace Go.Proofs.YtgmnhdkdicgkcaaGreatDoor
open Go.RowKit Go.Maps
open Lib (hid)
theorem rd_vf_new (w : World) (v : Vf) : RdS Vf.cells 6 (w.alloc (.cells v.cells.toArray 43)) (w.heap.size + 1) (some ⟨w.heap.size, 0, none⟩) [v] := by
 refine RdS.of (f := Vf.cells) (n := 6) (l := [v]) (fun _ => rfl) _ 0 (by omega) (fun k hk j u hj => ?_)
 obtain rfl : k = 0 := by simp at hk; exact hk
 have hj' : (Vf.cells v)[j]? = some u := hj
 rw [cell_of_row _ w.heap.size _ _ _ (0, 0) (heap_alloc_new w _)]
 simpa using hj'
theorem heap6 {w : World} {g : Nat} {x0 x1 x2 x3 x4 x5 a b c d e f : Value} {T : TypeId} (h : w.heap[g]? = some (.cells #[x0, x1, x2, x3, x4, x5] T)) : ((((((w.setCell ⟨g, 0, none⟩ a).setCell ⟨g, 1, none⟩ b).setCell ⟨g, 2, none⟩ c).setCell ⟨g, 3, none⟩ d).setCell ⟨g, 4, none⟩ e).setCell ⟨g, 5, none⟩ f).heap[g]? = some (.cells #[a, b, c, d, e, f] T) := by
 have h1 := heap_setCell_same w g 0 _ T a h
 have h2 := heap_setCell_same _ g 1 _ T b h1
 have h3 := heap_setCell_same _ g 2 _ T c h2
 have h4 := heap_setCell_same _ g 3 _ T d h3
 have h5 := heap_setCell_same _ g 4 _ T e h4
 have h6 := heap_setCell_same _ g 5 _ T f h5
 simpa using h6
theorem step_call1_dv {P : Program} {w : World} {ops : Array Oper} {o : Oper} {a : Act} {K : Act → World → Prop} {Q : Exit → Act → World → Prop} {E : Prop} (hgd : o.guard = none) (d : Option Tmp) (hd : o.dst = d) {f : Nat} (x : Operand) {ats : Array TypeId}
   (ho : o.op = .call { callee := .value (.func f), args := #[x], argTypes := ats }) (vx : Value) (hx : a.eval x = vx) (hen : ∀ args w, (callFunc f args).run P w = .ok (.enter f args) w) (R : Ending → World → Prop) (hc : Calls P f #[vx] w R)
   (h : ∀ e w', R e w' → ∃ v, e = .returned v ∧ K (a.put d v) w') : if Region.wanted o (yielded ops a.tmps) = true then Oper.wp P o a w K Q else E := by
 subst hd hx
 have hw : Region.wanted o (yielded ops a.tmps) = true := by simp [Region.wanted, hgd]
 rw [if_pos hw]
 unfold Oper.wp execOp
 have e1 : a.eval (.func f) = .func (.func f) #[] #[] := rfl
 simp [ho, resolve, invoke, Deferred.ofValue, e1, hen]
 rw [Oper.upon_enter]
 refine hc.mono ?_
 intro e w' hr
 obtain ⟨v, rfl, hk⟩ := h e w' hr
 exact hk
set_option maxHeartbeats 2000000 in
set_option maxRecDepth 100000 in
theorem vcopied_any (l : List Vf) (A : Option Addr) (c : Nat) (w : World) (h : RdV w w.heap.size A l) (hl : l.length ≤ 1000000) (hb : ∀ v ∈ l, v.first.length ≤ 1000000 ∧ v.last.length ≤ 1000000) :
   Calls Tryz.prog 38 #[.slice A l.length c] w fun e w' => ∃ (A' : Option Addr) (c' : Nat) (l' : List Vf), e = .returned (.slice A' l'.length c') ∧ l'.map Vf.fi = l.map Vf.fi ∧ OwV w' w.heap.size A' c' l' ∧ Below w.heap.size w w' := by
 have HB0 := hid hb
 have HR0 := hid h
 clear h hb
 go_enter Tryz.func38, Tryz.ntmps38
 go_wp2_with fail
 go_loopw [3, 8] (fun o i wr => ∃ (k oc : Nat) (OA : Option Addr) (L : List Vf), k ≤ l.length ∧ i = .int .i64 (k : Int) ∧ o = .slice OA L.length oc ∧ Hid (L.length = k) ∧ Hid (L.map Vf.fi = (l.take k).map Vf.fi) ∧ Hid (OwV wr w.heap.size OA oc L) ∧ Hid (Below w.heap.size w wr)) (fun _ i _ => l.length - (intOf i).toNat)
 case atStart => exact ⟨0, 0, none, [], by omega, rfl, rfl, hid rfl, hid rfl, hid (OwV.nil _ _), hid (Below.refl _ _)⟩
 case round =>
   obtain ⟨k, oc, OA, L, hk, rfl, rfl, hLk, HL, HOL, HB⟩ := hrel
   by_cases hlt : k < l.length
   · obtain ⟨b, off, hA, hbb, hc, hok⟩ := (HR0.out.below HB.out (Nat.le_refl _)).cell hlt
     obtain ⟨hfl, hll⟩ := HB0.out _ (List.getElem_mem hlt)
     have hTK : Hid (l.take (k + 1) = l.take k ++ [l[k]]) := hid (List.take_succ_eq_append_getElem hlt)
     obtain ⟨v, hv⟩ : ∃ v, v = l[k] := ⟨_, rfl⟩
     rw [← hv] at hc hok hfl hll hTK
     obtain ⟨nu, lv, FA, fc, fi, LA, lc, la, lo, hi⟩ := v
     have c0 := hc 0 _ rfl
     have c1 := hc 1 _ rfl
     have c2 := hc 2 _ rfl
     have c3 := hc 3 _ rfl
     have c4 := hc 4 _ rfl
     have c5 := hc 5 _ rfl
     rw [Nat.add_zero] at c0
     simp only at c0 c1 c2 c3 c4 c5 hfl hll
     subst hA
     have HOK := hid hok
     clear hc hv hok
     go_wp2_with fail
     have hba : Below w.heap.size w (wr.alloc (.cells #[.int .i64 nu, .int .i64 lv, .slice FA fi.length fc, .slice LA la.length lc, .int .i64 lo, .int .i64 hi] 43)) := HB.out.alloc HB.out.size _
     obtain ⟨n, hn⟩ : ∃ n, n = wr.heap.size := ⟨_, rfl⟩
     obtain ⟨V, hV⟩ : ∃ V, (wr.alloc (.cells #[.int .i64 nu, .int .i64 lv, .slice FA fi.length fc, .slice LA la.length lc, .int .i64 lo, .int .i64 hi] 43)).drew = V := ⟨_, rfl⟩
     have HBV : Hid (Below w.heap.size w V) := hid (by rw [← hV]; exact hba.drew)
     have HBW : Hid (Below wr.heap.size wr V) := hid (by rw [← hV]; exact ((Below.refl _ _).alloc (Nat.le_refl _) _).drew)
     have hz : V.heap.size = n + 1 := by rw [← hV, hn]; simp
     have HX0 : Hid (V.heap[n]? = some (.cells #[.int .i64 nu, .int .i64 lv, .slice FA fi.length fc, .slice LA la.length lc, .int .i64 lo, .int .i64 hi] 43)) := hid (by
       rw [← hV, hn]
       exact heap_alloc_new wr _)
     have HSV : V.cell? ⟨n, 3, none⟩ = some (.slice LA la.length lc) := by rw [cell_of_row V n 3 _ _ (0, 0) HX0.out]; rfl
     have d0 : V.cell? ⟨n, 2, none⟩ = some (.slice FA fi.length fc) := by rw [cell_of_row V n 2 _ _ (0, 0) HX0.out]; rfl
     have hwr := HB.out.size
     have HKR : Hid (∀ X, Below wr.heap.size wr X → Calls Tryz.prog 84 #[.slice FA fi.length fc] X (GivesB X fi)) := hid (fun X hX => clone_any FA fc fi X ((HOK.out.f.below hX hwr).more (Nat.le_trans hwr hX.size)) (by omega))
     have HVR : Hid (∀ X, Below wr.heap.size wr X → Calls Tryz.prog 84 #[.slice LA la.length lc] X (GivesB X la)) := hid (fun X hX => clone_any LA lc la X ((HOK.out.l.below hX hwr).more (Nat.le_trans hwr hX.size)) (by omega))
     have HN : Hid (n = wr.heap.size) := hid hn
     have HZ := hid hz
     have HLT : Hid (∀ q, blk OA = some q ∨ (∃ v ∈ L, blk v.FA = some q ∨ blk v.LA = some q) → q < wr.heap.size) := hid (fun q e => by
       rcases e with e | ⟨v, hv, e⟩
       · exact (HOL.out.row.blk_ge q e).2
       · exact ((HOL.out.own v hv).at_ e).2.lt)
     have HOV := hid (HOL.out.below HBW.out)
     rw [← hn]
     clear hba hn hz HOL HB HOK c0 c1 c2 c3 c4 c5
     refine wp_region_E 9 (fun w' => w'.cell? ⟨n, 3, none⟩ = some (.slice LA la.length lc)) (by kernel_rfl) ?_
     rw [hV]
     clear hV
     refine wT (i := 0) (v := ?_) rfl (Or.inl ⟨by rfl, ?_⟩) HSV ?_
     rotate_left
     · (intro wy hSw; go_simp; try with_reducible rfl)
     try simp only [Act.put, List.setIfInBounds_toArray]
     refine wT (i := 3) (v := ?_) rfl (Or.inl ⟨by rfl, ?_⟩) HSV ?_
     rotate_left
     · (intro wy hSw; go_simp; try with_reducible rfl)
     try simp only [Act.put]
     refine wT (i := 4) (v := ?_) rfl (Or.inl ⟨by rfl, ?_⟩) HSV ?_
     rotate_left
     · (intro wy hSw; go_simp; try with_reducible rfl)
     try simp only [Act.put]
     refine wpAnyE_one (i := 1) (by kernel_rfl) rfl (fun K hK => ?_)
     go_simp
     refine hK _ _ HSV ?_
     try simp only [Act.put, List.setIfInBounds_toArray]
     refine wpAnyE_one (i := 2) (by kernel_rfl) rfl (fun K hK => ?_)
     refine step_call1_dv (by rfl) (some 14) (by rfl) (.tmp 13) (by rfl) (.slice FA fi.length fc) rfl (enters_of Tryz.func84 (by kernel_rfl) rfl) _ (HKR.out V HBW.out) ?_
     rintro e w1 ⟨A1, c1, rfl, ho1, hb1⟩
     refine ⟨_, rfl, ?_⟩
     have hS1 : w1.cell? ⟨n, 3, none⟩ = some (.slice LA la.length lc) := (hb1.cell (p := ⟨n, 3, none⟩) (by have := HZ.out; simp; omega)).trans HSV
     refine hK _ _ hS1 ?_
     try simp only [Act.put, List.setIfInBounds_toArray]
     refine wT (i := 6) (v := ?_) rfl (Or.inl ⟨by rfl, ?_⟩) hS1 ?_
     rotate_left
     · (intro wy hSw; go_simp; try with_reducible rfl)
     try simp only [Act.put, List.setIfInBounds_toArray]
     refine wpAnyE_one (i := 5) (by kernel_rfl) rfl (fun K hK => ?_)
     refine step_call1_dv (by rfl) (some 17) (by rfl) (.tmp 16) (by rfl) (.slice LA la.length lc) rfl (enters_of Tryz.func84 (by kernel_rfl) rfl) _ (HVR.out w1 (HBW.out.trans (hb1.mono HBW.out.size))) ?_
     rintro e w2 ⟨A2, c2, rfl, ho2, hb2⟩
     refine ⟨_, rfl, ?_⟩
     have hS2 : w2.cell? ⟨n, 3, none⟩ = some (.slice LA la.length lc) := (hb2.cell (p := ⟨n, 3, none⟩) (by have := HZ.out; have := hb1.size; simp; omega)).trans hS1
     refine hK _ _ hS2 ?_
     try simp only [Act.put]
     have hz1 := hb1.size
     have hz2 := hb2.size
     have hzV := HZ.out
     have hnr := HN.out
     have hwV := HBV.out.size
     have HX2 : Hid (w2.heap[n]? = some (.cells #[.int .i64 nu, .int .i64 lv, .slice FA fi.length fc, .slice LA la.length lc, .int .i64 lo, .int .i64 hi] 43)) := hid ((hb2.block _ (by omega)).trans ((hb1.block _ (by omega)).trans HX0.out))
     have HO1 : Hid (Ref.Rby w2 w.heap.size A1 fi) := hid ((Ref.Rby.own ho1 (by omega)).below hb2)
     have HO2 : Hid (Ref.Rby w2 w.heap.size A2 la) := hid (Ref.Rby.own ho2 (by omega))
     have HCP : Hid (fi.length ≤ c1 ∧ la.length ≤ c2) := hid ⟨ho1.cap, ho2.cap⟩
     have HB2 : Hid (Below w.heap.size w w2) := hid ((HBV.out.trans (hb1.mono hwV)).trans (hb2.mono (by omega)))
     have HOV2 := hid ((HOV.out.below hb1).below hb2)
     have HNB : Hid (∀ q, blk OA = some q ∨ (∃ v ∈ L, blk v.FA = some q ∨ blk v.LA = some q) → q ≠ n) := hid (fun q e e2 => by
       subst e2
       have h1 : q < wr.heap.size := HLT.out q e
       omega)
     have hwn : Hid (w.heap.size ≤ n) := hid (by omega)
     clear HBW hwr ho1 ho2 hb1 hb2 HSV d0 hzV hnr hwV HOV HBV HKR HVR hS1
     have f0 := frozen_of_row w2 n 2 _ _ HX2.out
     have e0 : w2.cell? ⟨n, 2, none⟩ = some (.slice FA fi.length fc) := by rw [cell_of_row w2 n 2 _ _ (0, 0) HX2.out]; rfl
     refine wpAnyE_one (i := 7) (by kernel_rfl) rfl (fun K hK => ?_)
     go_simp
     have hx3 : (w2.setCell ⟨n, 2, none⟩ (.slice A1 fi.length c1)).heap[n]? = some (.cells #[.int .i64 nu, .int .i64 lv, .slice A1 fi.length c1, .slice LA la.length lc, .int .i64 lo, .int .i64 hi] 43) := by
       have := heap_setCell_same w2 n 2 _ _ (.slice A1 fi.length c1) HX2.out
       simpa using this
     have hS3 : (w2.setCell ⟨n, 2, none⟩ (.slice A1 fi.length c1)).cell? ⟨n, 3, none⟩ = some (.slice LA la.length lc) := by rw [cell_of_row _ n 3 _ _ (0, 0) hx3]; rfl
     refine hK _ _ hS3 ?_
     try simp only [Act.put, List.setIfInBounds_toArray]
     refine wpAnyE_one (i := 8) (by kernel_rfl) rfl (fun K hK => ?_)
     go_simp
     refine hK _ _ hS3 ?_
     try simp only [Act.put, List.setIfInBounds_toArray]
     have f3 := frozen_of_row _ n 3 _ _ hx3
     refine wpAnyE_last (by kernel_rfl) (by kernel_rfl) rfl (fun K hK => ?_)
     go_simp
     refine hK _ _ ?_
     have HX4 : Hid (((w2.setCell ⟨n, 2, none⟩ (.slice A1 fi.length c1)).setCell ⟨n, 3, none⟩ (.slice A2 la.length c2)).heap[n]? = some (.cells #[.int .i64 nu, .int .i64 lv, .slice A1 fi.length c1, .slice A2 la.length c2, .int .i64 lo, .int .i64 hi] 43)) := hid (by
       have := heap_setCell_same _ n 3 _ _ (.slice A2 la.length c2) hx3
       simpa using this)
     have htn : Sto.Tag w2 n 43 := ⟨_, _, HX2.out⟩
     have hoth : ∀ q, q ≠ n → ((w2.setCell ⟨n, 2, none⟩ (.slice A1 fi.length c1)).setCell ⟨n, 3, none⟩ (.slice A2 la.length c2)).heap[q]? = w2.heap[q]? := fun q hq => (heap_setCell_other _ ⟨n, 3, none⟩ q _ hq).trans (heap_setCell_other _ ⟨n, 2, none⟩ q _ hq)
     have HB4 : Hid (Below w.heap.size w ((w2.setCell ⟨n, 2, none⟩ (.slice A1 fi.length c1)).setCell ⟨n, 3, none⟩ (.slice A2 la.length c2))) := hid ((HB2.out.setCell hwn.out _).setCell hwn.out _)
     obtain ⟨W4, hW4⟩ : ∃ W4, (w2.setCell ⟨n, 2, none⟩ (.slice A1 fi.length c1)).setCell ⟨n, 3, none⟩ (.slice A2 la.length c2) = W4 := ⟨_, rfl⟩
     have hz4 : W4.heap.size = w2.heap.size := by rw [← hW4]; simp
     rw [hW4] at HX4 HB4 hoth ⊢
     have HO14 : Hid (Ref.Rby W4 w.heap.size A1 fi) := hid (HO1.out.keep (by omega) (fun q e => hoth q ((HO1.out.at_ q e).2.ne htn (by decide))))
     have HO24 : Hid (Ref.Rby W4 w.heap.size A2 la) := hid (HO2.out.keep (by omega) (fun q e => hoth q ((HO2.out.at_ q e).2.ne htn (by decide))))
     have HOV4 : Hid (OwV W4 w.heap.size OA oc L) := hid (HOV2.out.keep (by omega) (fun q e => hoth q (HNB.out q e)))
     clear hz4 hW4 hx3 hS3 hS2 f0 f3 e0 HO1 HO2 HOV2 HX2 htn hoth HX0
     have g0 := cell_of_row W4 n 0 _ _ (0, 0) HX4.out
     have g1 := cell_of_row W4 n 1 _ _ (0, 0) HX4.out
     have g2 := cell_of_row W4 n 2 _ _ (0, 0) HX4.out
     have g3 := cell_of_row W4 n 3 _ _ (0, 0) HX4.out
     have g4 := cell_of_row W4 n 4 _ _ (0, 0) HX4.out
     have g5 := cell_of_row W4 n 5 _ _ (0, 0) HX4.out
     simp only [List.getElem?_toArray, List.getElem?_cons_zero, List.getElem?_cons_succ] at g0 g1 g2 g3 g4 g5
     have hlk := hLk.out
     have hwz := HB4.out.size
     go_wp2_with (at_builtin; (refine wpList_append_s _ rfl _ _ vfT rfl w.heap.size OA oc L rfl (HOV4.out.row.alloc _) (W4.heap.size + 1) (some ⟨W4.heap.size, 0, none⟩) 1 1 [⟨nu, lv, A1, c1, fi, A2, c2, la, lo, hi⟩] rfl rfl (rd_vf_new W4 ⟨nu, lv, A1, c1, fi, A2, c2, la, lo, hi⟩) (by simp; omega) (by unfold maxLen; simp; omega) (by simp; omega) ?_; intro A3 c3 L3 w8 hl3 ho3 hg3 hat3))
     have hl3 : L3 = L ++ [⟨nu, lv, A1, c1, fi, A2, c2, la, lo, hi⟩] := hl3
     subst hl3
     have hba : Below W4.heap.size W4 (W4.alloc (.cells #[.int .i64 nu, .int .i64 lv, .slice A1 fi.length c1, .slice A2 la.length c2, .int .i64 lo, .int .i64 hi] 43)) := (Below.refl _ _).alloc (Nat.le_refl _) _
     have HON : Hid (OwV w8 w.heap.size A3 c3 (L ++ [⟨nu, lv, A1, c1, fi, A2, c2, la, lo, hi⟩])) := hid ((HOV4.out.below hba).app hg3 ho3 (fun v hv => by
       rw [List.mem_singleton] at hv
       subst hv
       exact ⟨HO14.out.below hba, HO24.out.below hba, HCP.out.1, HCP.out.2⟩))
     have HBN : Hid (Below w.heap.size w w8) := hid ((HB4.out.alloc hwz _).grown hg3 (by simp; omega) (fun g e => (HOV4.out.row.blk_ge g e).1))
     exact ⟨⟨k + 1, c3, A3, L ++ [⟨nu, lv, A1, c1, fi, A2, c2, la, lo, hi⟩], hlt, by simp; try omega, by simp; try omega, hid (by simp; omega), hid (by rw [hTK.out, List.map_append, List.map_append, HL.out]; rfl), HON, HBN⟩, by simp only [intOf]; omega⟩
   · have hke : k = l.length := by omega
     subst hke
     have HLE : Hid (L.map Vf.fi = l.map Vf.fi) := hid (by rw [HL.out, List.take_length])
     go_wp2_with fail
     go_ret
     exact ⟨OA, oc, L, rfl, HLE.out, HOL.out, HB.out⟩
def CopyP (w : World) (base : Nat) (v : Vf) (e : Ending) (w' : World) : Prop := ∃ v' : Vf, e = .returned v'.val ∧ v'.fi = v.fi ∧ VfOwn w' base v' ∧ Below base w w'
set_option maxHeartbeats 2000000 in
set_option maxRecDepth 100000 in
theorem rcopy_any (v : Vf) (w : World) (h : VfOk w w.heap.size v) (hf : v.first.length ≤ 1000000) (hl : v.last.length ≤ 1000000) :
   Calls Tryz.prog 46 #[v.val] w (CopyP w w.heap.size v) := by
 obtain ⟨nu, lv, FA, fc, fi, LA, lc, la, lo, hi⟩ := v
 have HOK := hid h
 simp only at hf hl
 clear h
 simp only [Vf.val]
 have E1 : Hid (Own (((w.alloc (.cells #[.int .i64 nu, .int .i64 lv, .slice FA fi.length fc, .slice LA la.length lc, .int .i64 lo, .int .i64 hi] 43)).alloc (.cells #[.int .i64 0, .int .i64 0, .slice none 0 0, .slice none 0 0, .int .i64 0, .int .i64 0] 43)).alloc (.cells #[] 5)) (w.heap.size + 2) 5 (some ⟨w.heap.size + 1 + 1, 0, none⟩) 0 []) := hid (by
   have := own_empty ((w.alloc (.cells #[.int .i64 nu, .int .i64 lv, .slice FA fi.length fc, .slice LA la.length lc, .int .i64 lo, .int .i64 hi] 43)).alloc (.cells #[.int .i64 0, .int .i64 0, .slice none 0 0, .slice none 0 0, .int .i64 0, .int .i64 0] 43))
   simpa using this)
 have B1 : Hid (Below w.heap.size w (((w.alloc (.cells #[.int .i64 nu, .int .i64 lv, .slice FA fi.length fc, .slice LA la.length lc, .int .i64 lo, .int .i64 hi] 43)).alloc (.cells #[.int .i64 0, .int .i64 0, .slice none 0 0, .slice none 0 0, .int .i64 0, .int .i64 0] 43)).alloc (.cells #[] 5))) := hid ((((Below.refl _ _).alloc (Nat.le_refl _) _).alloc (by simp) _).alloc (by simp; omega) _)
 have X1 : Hid ((((w.alloc (.cells #[.int .i64 nu, .int .i64 lv, .slice FA fi.length fc, .slice LA la.length lc, .int .i64 lo, .int .i64 hi] 43)).alloc (.cells #[.int .i64 0, .int .i64 0, .slice none 0 0, .slice none 0 0, .int .i64 0, .int .i64 0] 43)).alloc (.cells #[] 5)).heap[w.heap.size]? = some (.cells #[.int .i64 nu, .int .i64 lv, .slice FA fi.length fc, .slice LA la.length lc, .int .i64 lo, .int .i64 hi] 43)) := hid (by
   rw [Below.heap_alloc _ _ _ (by simp; omega), Below.heap_alloc _ _ _ (by simp)]
   exact heap_alloc_new w _)
 have Y1 : Hid ((((w.alloc (.cells #[.int .i64 nu, .int .i64 lv, .slice FA fi.length fc, .slice LA la.length lc, .int .i64 lo, .int .i64 hi] 43)).alloc (.cells #[.int .i64 0, .int .i64 0, .slice none 0 0, .slice none 0 0, .int .i64 0, .int .i64 0] 43)).alloc (.cells #[] 5)).heap[w.heap.size + 1]? = some (.cells #[.int .i64 0, .int .i64 0, .slice none 0 0, .slice none 0 0, .int .i64 0, .int .i64 0] 43)) := hid (by
   rw [Below.heap_alloc _ _ _ (by simp)]
   have := heap_alloc_new (w.alloc (.cells #[.int .i64 nu, .int .i64 lv, .slice FA fi.length fc, .slice LA la.length lc, .int .i64 lo, .int .i64 hi] 43)) (.cells #[.int .i64 0, .int .i64 0, .slice none 0 0, .slice none 0 0, .int .i64 0, .int .i64 0] 43)
   simpa using this)
 have S1 : Hid ((((w.alloc (.cells #[.int .i64 nu, .int .i64 lv, .slice FA fi.length fc, .slice LA la.length lc, .int .i64 lo, .int .i64 hi] 43)).alloc (.cells #[.int .i64 0, .int .i64 0, .slice none 0 0, .slice none 0 0, .int .i64 0, .int .i64 0] 43)).alloc (.cells #[] 5)).heap.size = w.heap.size + 3) := hid (by simp)
 go_enter Tryz.func46, Tryz.ntmps46
 go_wp2_with (at_builtin; first
   | (refine wpList_append_b _ rfl (.tmp 3) (.tmp 5) bt rfl (w.heap.size + 2) (some ⟨w.heap.size + 1 + 1, 0, none⟩) 0 [] rfl E1.out _ FA fi.length fc fi rfl rfl (HOK.out.f.below B1.out (Nat.le_refl _)) (by simp; omega) (by simp) ?_
      intro A1 c1 L1 w8 hl1 ho1 hg1 hat1
      replace hl1 : L1 = fi := hl1
      subst hl1
      have hn0 : ∀ q, q < w.heap.size + 2 → w8.heap[q]? = _ := fun q hq => hg1.block q (by have := S1.out; omega) (fun e => by simp [blk] at e; omega)
      have X8 : Hid (w8.heap[w.heap.size]? = some (.cells #[.int .i64 nu, .int .i64 lv, .slice FA L1.length fc, .slice LA la.length lc, .int .i64 lo, .int .i64 hi] 43)) := hid ((hn0 _ (by omega)).trans X1.out)
      have Y8 : Hid (w8.heap[w.heap.size + 1]? = some (.cells #[.int .i64 0, .int .i64 0, .slice none 0 0, .slice none 0 0, .int .i64 0, .int .i64 0] 43)) := hid ((hn0 _ (by omega)).trans Y1.out)
      have X9 : Hid ((w8.setCell ⟨w.heap.size, 2, none⟩ (.slice A1 L1.length c1)).heap[w.heap.size]? = some (.cells #[.int .i64 nu, .int .i64 lv, .slice A1 L1.length c1, .slice LA la.length lc, .int .i64 lo, .int .i64 hi] 43)) := hid (by
        have := heap_setCell_same w8 w.heap.size 2 _ _ (.slice A1 L1.length c1) X8.out
        simpa using this)
      have B8 : Hid (Below w.heap.size w w8) := hid (B1.out.grown hg1 (by have := S1.out; omega) (fun g e => by simp [blk] at e; omega))
      have R8 : Hid (Ref.Rby w8 w.heap.size A1 L1 ∧ L1.length ≤ c1) := hid ⟨Ref.Rby.own ho1 (by omega), ho1.cap⟩
      have H8Z : Hid (w.heap.size + 3 ≤ w8.heap.size) := hid (by have := hg1.size; have := S1.out; omega)
      have f8 := frozen_of_row w8 w.heap.size 2 _ _ X8.out
      have p8 : w8.cell? ⟨w.heap.size, 2, none⟩ = some (.slice FA L1.length fc) := (by rw [cell_of_row _ w.heap.size 2 _ _ (0, 0) X8.out]; rfl)
      have d8 : (w8.setCell ⟨w.heap.size, 2, none⟩ (.slice A1 L1.length c1)).cell? ⟨w.heap.size, 3, none⟩ = some (.slice LA la.length lc) := (by rw [cell_of_row _ w.heap.size 3 _ _ (0, 0) X9.out]; rfl)
      have E2 : Hid (Own ((w8.setCell ⟨w.heap.size, 2, none⟩ (.slice A1 L1.length c1)).alloc (.cells #[] 5)) w8.heap.size 5 (some ⟨w8.heap.size, 0, none⟩) 0 []) := hid (by
        have := own_empty (w8.setCell ⟨w.heap.size, 2, none⟩ (.slice A1 L1.length c1))
        simpa using this)
      have q8 : w.heap.size < w8.heap.size := (by have := H8Z.out; omega)
      clear hg1 ho1 hn0 hat1)
   | (refine wpList_append_b _ rfl (.tmp 8) (.tmp 10) bt rfl w8.heap.size (some ⟨w8.heap.size, 0, none⟩) 0 [] rfl E2.out _ LA la.length lc la rfl rfl ((HOK.out.l.below B8.out (Nat.le_refl _)).below (((Below.refl _ _).setCell (Nat.le_refl _) _).alloc (by have := H8Z.out; simp; omega) _) (Nat.le_refl _)) (by simp; omega) (by simp) ?_
      intro A2 c2 L2 w9 hl2 ho2 hg2 hat2
      replace hl2 : L2 = la := hl2
      subst hl2
      have h8z := H8Z.out
      have hn0 : ∀ q, q < w8.heap.size → w9.heap[q]? = (w8.setCell ⟨w.heap.size, 2, none⟩ (.slice A1 L1.length c1)).heap[q]? := fun q hq => (hg2.block q (by simp; omega) (fun e => by simp [blk] at e; omega)).trans (Below.heap_alloc _ _ _ (by simp; omega))
      have XA : Hid (w9.heap[w.heap.size]? = some (.cells #[.int .i64 nu, .int .i64 lv, .slice A1 L1.length c1, .slice LA L2.length lc, .int .i64 lo, .int .i64 hi] 43)) := hid ((hn0 _ (by omega)).trans X9.out)
      have XB : Hid ((w9.setCell ⟨w.heap.size, 3, none⟩ (.slice A2 L2.length c2)).heap[w.heap.size]? = some (.cells #[.int .i64 nu, .int .i64 lv, .slice A1 L1.length c1, .slice A2 L2.length c2, .int .i64 lo, .int .i64 hi] 43)) := hid (by
        have := heap_setCell_same w9 w.heap.size 3 _ _ (.slice A2 L2.length c2) XA.out
        simpa using this)
      have YB : Hid ((w9.setCell ⟨w.heap.size, 3, none⟩ (.slice A2 L2.length c2)).heap[w.heap.size + 1]? = some (.cells #[.int .i64 0, .int .i64 0, .slice none 0 0, .slice none 0 0, .int .i64 0, .int .i64 0] 43)) := hid (by
        rw [heap_setCell_other _ ⟨w.heap.size, 3, none⟩ _ _ (by simp), hn0 _ (by omega), heap_setCell_other _ ⟨w.heap.size, 2, none⟩ _ _ (by simp)]
        exact Y8.out)
      have hw9 : w8.heap.size ≤ w9.heap.size := by have := hg2.size; simp at this; omega
      have BB : Hid (Below w.heap.size w (w9.setCell ⟨w.heap.size, 3, none⟩ (.slice A2 L2.length c2))) := hid ((((B8.out.setCell (Nat.le_refl _) _).alloc (by simp; omega) _).grown hg2 (by simp; omega) (fun g e => by simp [blk] at e; omega)).setCell (Nat.le_refl _) _)
      have RB1 : Hid (Ref.Rby (w9.setCell ⟨w.heap.size, 3, none⟩ (.slice A2 L2.length c2)) w.heap.size A1 L1) := hid (R8.out.1.keep (by simp; omega) (fun q e => by
        have t := (R8.out.1.at_ q e).2
        have tn : q ≠ w.heap.size := t.ne ⟨_, _, X8.out⟩ (by decide)
        rw [heap_setCell_other _ ⟨w.heap.size, 3, none⟩ _ _ tn, hn0 _ t.lt, heap_setCell_other _ ⟨w.heap.size, 2, none⟩ _ _ tn]))
      have RB2 : Hid (Ref.Rby (w9.setCell ⟨w.heap.size, 3, none⟩ (.slice A2 L2.length c2)) w.heap.size A2 L2 ∧ L2.length ≤ c2) := hid ⟨(Ref.Rby.own ho2 (by omega)).keep (by simp) (fun q e => heap_setCell_other _ ⟨w.heap.size, 3, none⟩ _ _ ((Sto.ownTag ho2 e).ne ⟨_, _, XA.out⟩ (by decide))), ho2.cap⟩
      clear hg2 ho2 hn0 hw9 h8z hat2
      have f9 := frozen_of_row w9 w.heap.size 3 _ _ XA.out
      have p9 : w9.cell? ⟨w.heap.size, 3, none⟩ = some (.slice LA L2.length lc) := (by rw [cell_of_row _ w.heap.size 3 _ _ (0, 0) XA.out]; rfl)
      obtain ⟨W9, hW9⟩ : ∃ W9, W9 = w9.setCell ⟨w.heap.size, 3, none⟩ (.slice A2 L2.length c2) := ⟨_, rfl⟩
      rw [← hW9] at XB YB BB RB1 RB2
      have g0 := cell_of_row W9 w.heap.size 0 _ _ (0, 0) XB.out
      have g1 := cell_of_row W9 w.heap.size 1 _ _ (0, 0) XB.out
      have g2 := cell_of_row W9 w.heap.size 2 _ _ (0, 0) XB.out
      have g3 := cell_of_row W9 w.heap.size 3 _ _ (0, 0) XB.out
      have g4 := cell_of_row W9 w.heap.size 4 _ _ (0, 0) XB.out
      have g5 := cell_of_row W9 w.heap.size 5 _ _ (0, 0) XB.out
      have i0 := cell_of_row W9 (w.heap.size + 1) 0 _ _ (0, 0) YB.out
      have i1 := cell_of_row W9 (w.heap.size + 1) 1 _ _ (0, 0) YB.out
      have i2 := cell_of_row W9 (w.heap.size + 1) 2 _ _ (0, 0) YB.out
      have i3 := cell_of_row W9 (w.heap.size + 1) 3 _ _ (0, 0) YB.out
      have i4 := cell_of_row W9 (w.heap.size + 1) 4 _ _ (0, 0) YB.out
      have i5 := cell_of_row W9 (w.heap.size + 1) 5 _ _ (0, 0) YB.out
      have j0 := frozen_of_row W9 (w.heap.size + 1) 0 _ _ YB.out
      have j1 := frozen_of_row W9 (w.heap.size + 1) 1 _ _ YB.out
      have j2 := frozen_of_row W9 (w.heap.size + 1) 2 _ _ YB.out
      have j3 := frozen_of_row W9 (w.heap.size + 1) 3 _ _ YB.out
      have j4 := frozen_of_row W9 (w.heap.size + 1) 4 _ _ YB.out
      have j5 := frozen_of_row W9 (w.heap.size + 1) 5 _ _ YB.out
      simp only [List.getElem?_toArray, List.getElem?_cons_zero, List.getElem?_cons_succ] at g0 g1 g2 g3 g4 g5 i0 i1 i2 i3 i4 i5
      rw [hW9] at g0 g1 g2 g3 g4 g5 i0 i1 i2 i3 i4 i5 j0 j1 j2 j3 j4 j5
      have HW9 := hid hW9
      clear hW9))
 rw [← HW9.out]
 have hx6 := heap6 (a := .int .i64 nu) (b := .int .i64 lv) (c := .slice A1 L1.length c1) (d := .slice A2 L2.length c2) (e := .int .i64 lo) (f := .int .i64 hi) YB.out
 have hoth : ∀ q, q ≠ w.heap.size + 1 → ((((((W9.setCell ⟨w.heap.size + 1, 0, none⟩ (.int .i64 nu)).setCell ⟨w.heap.size + 1, 1, none⟩ (.int .i64 lv)).setCell ⟨w.heap.size + 1, 2, none⟩ (.slice A1 L1.length c1)).setCell ⟨w.heap.size + 1, 3, none⟩ (.slice A2 L2.length c2)).setCell ⟨w.heap.size + 1, 4, none⟩ (.int .i64 lo)).setCell ⟨w.heap.size + 1, 5, none⟩ (.int .i64 hi)).heap[q]? = W9.heap[q]? := fun q hq => by
   rw [heap_setCell_other _ ⟨w.heap.size + 1, 5, none⟩ _ _ hq, heap_setCell_other _ ⟨w.heap.size + 1, 4, none⟩ _ _ hq, heap_setCell_other _ ⟨w.heap.size + 1, 3, none⟩ _ _ hq, heap_setCell_other _ ⟨w.heap.size + 1, 2, none⟩ _ _ hq, heap_setCell_other _ ⟨w.heap.size + 1, 1, none⟩ _ _ hq, heap_setCell_other _ ⟨w.heap.size + 1, 0, none⟩ _ _ hq]
 have hbb : Below w.heap.size w ((((((W9.setCell ⟨w.heap.size + 1, 0, none⟩ (.int .i64 nu)).setCell ⟨w.heap.size + 1, 1, none⟩ (.int .i64 lv)).setCell ⟨w.heap.size + 1, 2, none⟩ (.slice A1 L1.length c1)).setCell ⟨w.heap.size + 1, 3, none⟩ (.slice A2 L2.length c2)).setCell ⟨w.heap.size + 1, 4, none⟩ (.int .i64 lo)).setCell ⟨w.heap.size + 1, 5, none⟩ (.int .i64 hi)) := (((((BB.out.setCell (by simp) _).setCell (by simp) _).setCell (by simp) _).setCell (by simp) _).setCell (by simp) _).setCell (by simp) _
 have hsz : ((((((W9.setCell ⟨w.heap.size + 1, 0, none⟩ (.int .i64 nu)).setCell ⟨w.heap.size + 1, 1, none⟩ (.int .i64 lv)).setCell ⟨w.heap.size + 1, 2, none⟩ (.slice A1 L1.length c1)).setCell ⟨w.heap.size + 1, 3, none⟩ (.slice A2 L2.length c2)).setCell ⟨w.heap.size + 1, 4, none⟩ (.int .i64 lo)).setCell ⟨w.heap.size + 1, 5, none⟩ (.int .i64 hi)).heap.size = W9.heap.size := by simp
 obtain ⟨W, hW⟩ : ∃ W, W = (((((W9.setCell ⟨w.heap.size + 1, 0, none⟩ (.int .i64 nu)).setCell ⟨w.heap.size + 1, 1, none⟩ (.int .i64 lv)).setCell ⟨w.heap.size + 1, 2, none⟩ (.slice A1 L1.length c1)).setCell ⟨w.heap.size + 1, 3, none⟩ (.slice A2 L2.length c2)).setCell ⟨w.heap.size + 1, 4, none⟩ (.int .i64 lo)).setCell ⟨w.heap.size + 1, 5, none⟩ (.int .i64 hi) := ⟨_, rfl⟩
 rw [← hW] at hx6 hoth hbb hsz ⊢
 have e0 := cell_of_row W (w.heap.size + 1) 0 _ _ (0, 0) hx6
 have e1 := cell_of_row W (w.heap.size + 1) 1 _ _ (0, 0) hx6
 have e2 := cell_of_row W (w.heap.size + 1) 2 _ _ (0, 0) hx6
 have e3 := cell_of_row W (w.heap.size + 1) 3 _ _ (0, 0) hx6
 have e4 := cell_of_row W (w.heap.size + 1) 4 _ _ (0, 0) hx6
 have e5 := cell_of_row W (w.heap.size + 1) 5 _ _ (0, 0) hx6
 simp only [List.getElem?_toArray, List.getElem?_cons_zero, List.getElem?_cons_succ] at e0 e1 e2 e3 e4 e5
 have hk : ∀ {A : Option Addr} {l : List UInt8}, Ref.Rby W9 w.heap.size A l → Ref.Rby W w.heap.size A l := fun {A l} h => h.keep (by omega) (fun q e => hoth q ((h.at_ q e).2.ne ⟨_, _, YB.out⟩ (by decide)))
 exact bodyPost_ret (v := .agg #[.int .i64 nu, .int .i64 lv, .slice A1 L1.length c1, .slice A2 L2.length c2, .int .i64 lo, .int .i64 hi]) (by simp [results, Tryz.results46, go_sem, e0, e1, e2, e3, e4, e5]) rfl
   ⟨⟨nu, lv, A1, c1, L1, A2, c2, L2, lo, hi⟩, rfl, rfl, ⟨hk RB1.out, hk RB2.out.1, R8.out.2, RB2.out.2⟩, hbb⟩
end Go.Proofs.YtgmnhdkdicgkcaaGreatDoor
