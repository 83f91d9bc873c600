/- Parts of the proof, one behind the other: The skip list's own helpers: copied, right, levels, order.; behind: on each level, the last one that stands ahead.; The skip list: New, Len.; The skip list: Get.; The contract of a table's From.; The skip list: From.; The skip list: a store into a row.; The skip list while one more is put behind all.; The skip list: Put, behind all. -/
import Derived.Test.YtgafionfojnieaaGreatDoorMrg45
namespace Go.Proofs.YtgafionfojnieaaGreatDoor
open Go.RowKit
open Lib (hid)
set_option maxHeartbeats 2000000 in
set_option maxRecDepth 100000 in
theorem scopied_any (r : Rv) (w : World) (hk : RdB w w.heap.size r.kA r.k) (hv : RdB w w.heap.size r.vA r.v) (hkl : r.k.length ≤ 1000000) (hvl : r.v.length ≤ 1000000) :
   Calls Tryz.prog 50 #[r.val] w (CpdQ w r) := by
 obtain ⟨kA, kc, k, seq, del, vA, vc, v⟩ := r
 simp only at hk hv hkl hvl
 have HKR : Hid (∀ X, Below w.heap.size w X → Calls Tryz.prog 34 #[.slice kA k.length kc] X (GivesB X k)) := hid (fun X hX => cloneU_any kA kc k X ((hk.below hX (Nat.le_refl _)).more hX.size) (by omega))
 have HVR : Hid (∀ X, Below w.heap.size w X → Calls Tryz.prog 34 #[.slice vA v.length vc] X (GivesB X v)) := hid (fun X hX => cloneU_any vA vc v X ((hv.below hX (Nat.le_refl _)).more hX.size) (by omega))
 clear hk hv
 simp only [Rv.val]
 go_enter Tryz.func50, Tryz.ntmps50
 go_wp2_with fail
 obtain ⟨V, hV⟩ : ∃ V, ((w.alloc (.cells #[.slice kA k.length kc, .int .i64 seq, .bool del, .slice vA v.length vc] 35)).alloc (.cells #[.slice none 0 0, .int .i64 0, .bool false, .slice none 0 0] 35)).drew = V := ⟨_, rfl⟩
 have hbV : Below w.heap.size w V := by rw [← hV]; exact (below_al2 w _ _).drew
 have hz : V.heap.size = w.heap.size + 2 := by rw [← hV]; simp
 have hx0 : V.heap[w.heap.size]? = some (.cells #[.slice kA k.length kc, .int .i64 seq, .bool del, .slice vA v.length vc] 35) := by
   rw [← hV]
   exact (((Below.refl _ _).alloc (Nat.le_refl _) _).block _ (by simp)).trans (heap_alloc_new w _)
 have hx1 : V.heap[w.heap.size + 1]? = some (.cells #[.slice none 0 0, .int .i64 0, .bool false, .slice none 0 0] 35) := by
   rw [← hV]
   have h1 := heap_alloc_new (w.alloc (.cells #[.slice kA k.length kc, .int .i64 seq, .bool del, .slice vA v.length vc] 35)) (.cells #[.slice none 0 0, .int .i64 0, .bool false, .slice none 0 0] 35)
   rw [show (w.alloc (.cells #[.slice kA k.length kc, .int .i64 seq, .bool del, .slice vA v.length vc] 35)).heap.size = w.heap.size + 1 by simp] at h1
   exact h1
 have HSV : V.cell? ⟨w.heap.size, 3, none⟩ = some (.slice vA v.length vc) := by rw [cell_of_row V w.heap.size 3 _ _ (0, 0) hx0]; rfl
 have c0 : V.cell? ⟨w.heap.size, 0, none⟩ = some (.slice kA k.length kc) := by rw [cell_of_row V w.heap.size 0 _ _ (0, 0) hx0]; rfl
 have HBV := hid hbV
 have HX0 := hid hx0
 have HX1 := hid hx1
 have HZ := hid hz
 clear hbV hx0 hx1 hz
 refine wp_region_E 9 (fun w' => w'.cell? ⟨w.heap.size, 3, none⟩ = some (.slice vA v.length vc)) (by kernel_rfl) ?_
 rw [hV]
 clear hV
 refine wpAnyE_take (i := 0) (v := ?_) rfl (by kernel_rfl) (by kernel_rfl) (by kernel_rfl) (by kernel_rfl) (fun _ _ _ h => h) (Or.inl ⟨by rfl, ?_⟩) HSV ?_
 rotate_left
 · (intro wy hSw; go_simp; try with_reducible rfl)
 try simp only [Act.put, List.setIfInBounds_toArray]
 refine wpAnyE_take (i := 3) (v := ?_) rfl (by kernel_rfl) (by kernel_rfl) (by kernel_rfl) (by kernel_rfl) (fun _ _ _ h => h) (Or.inl ⟨by rfl, ?_⟩) HSV ?_
 rotate_left
 · (intro wy hSw; go_simp; try with_reducible rfl)
 try simp only [Act.put]
 refine wpAnyE_take (i := 4) (v := ?_) rfl (by kernel_rfl) (by kernel_rfl) (by kernel_rfl) (by kernel_rfl) (fun _ _ _ h => h) (Or.inl ⟨by rfl, ?_⟩) HSV ?_
 rotate_left
 · (intro wy hSw; go_simp; try with_reducible rfl)
 try simp only [Act.put]
 refine wpAnyE_one (i := 1) (by kernel_rfl) rfl (fun K hK => ?_)
 go_simp
 refine hK _ _ HSV ?_
 try simp only [Act.put, List.setIfInBounds_toArray]
 refine wpAnyE_one (i := 2) (by kernel_rfl) rfl (fun K hK => ?_)
 refine step_call1_d (by rfl) (some 5) (by rfl) (.tmp 4) (by rfl) (.slice kA k.length kc) rfl (enters_of Tryz.func34 (by kernel_rfl) rfl) _ (HKR.out V HBV.out) ?_
 rintro e w1 ⟨A1, c1, rfl, ho1, hb1⟩
 refine ⟨_, rfl, ?_⟩
 have hS1 : w1.cell? ⟨w.heap.size, 3, none⟩ = some (.slice vA v.length vc) := (hb1.cell (p := ⟨w.heap.size, 3, none⟩) (by have := HZ.out; simp; omega)).trans HSV
 refine hK _ _ hS1 ?_
 try simp only [Act.put, List.setIfInBounds_toArray]
 refine wpAnyE_take (i := 6) (v := ?_) rfl (by kernel_rfl) (by kernel_rfl) (by kernel_rfl) (by kernel_rfl) (fun _ _ _ h => h) (Or.inl ⟨by rfl, ?_⟩) hS1 ?_
 rotate_left
 · (intro wy hSw; go_simp; try with_reducible rfl)
 try simp only [Act.put, List.setIfInBounds_toArray]
 refine wpAnyE_one (i := 5) (by kernel_rfl) rfl (fun K hK => ?_)
 refine step_call1_d (by rfl) (some 8) (by rfl) (.tmp 7) (by rfl) (.slice vA v.length vc) rfl (enters_of Tryz.func34 (by kernel_rfl) rfl) _ (HVR.out w1 (HBV.out.trans (hb1.mono HBV.out.size))) ?_
 rintro e w2 ⟨A2, c2, rfl, ho2, hb2⟩
 refine ⟨_, rfl, ?_⟩
 have hS2 : w2.cell? ⟨w.heap.size, 3, none⟩ = some (.slice vA v.length vc) := (hb2.cell (p := ⟨w.heap.size, 3, none⟩) (by have := HZ.out; have := hb1.size; simp; omega)).trans hS1
 refine hK _ _ hS2 ?_
 try simp only [Act.put]
 have hz1 := hb1.size
 have hz2 := hb2.size
 have hzV := HZ.out
 have HX02 : Hid (w2.heap[w.heap.size]? = some (.cells #[.slice kA k.length kc, .int .i64 seq, .bool del, .slice vA v.length vc] 35)) := hid ((hb2.block _ (by omega)).trans ((hb1.block _ (by omega)).trans HX0.out))
 have HX12 : Hid (w2.heap[w.heap.size + 1]? = some (.cells #[.slice none 0 0, .int .i64 0, .bool false, .slice none 0 0] 35)) := hid ((hb2.block _ (by omega)).trans ((hb1.block _ (by omega)).trans HX1.out))
 have HO1 : Hid (Own w2 w.heap.size 5 A1 c1 k) := hid ((ho1.below hb2).mono (by omega))
 have HO2 : Hid (Own w2 w.heap.size 5 A2 c2 v) := hid (ho2.mono (by omega))
 have HB2 : Hid (Below w.heap.size w w2) := hid ((HBV.out.trans (hb1.mono HBV.out.size)).trans (hb2.mono (by omega)))
 clear ho1 ho2 hb1 hb2 HSV c0 hzV
 have f0 := frozen_of_row w2 w.heap.size 0 _ _ HX02.out
 have d0 : w2.cell? ⟨w.heap.size, 0, none⟩ = some (.slice kA k.length kc) := by rw [cell_of_row w2 w.heap.size 0 _ _ (0, 0) HX02.out]; rfl
 refine wpAnyE_one (i := 7) (by kernel_rfl) rfl (fun K hK => ?_)
 go_simp
 have hx3 : (w2.setCell ⟨w.heap.size, 0, none⟩ (.slice A1 k.length c1)).heap[w.heap.size]? = some (.cells #[.slice A1 k.length c1, .int .i64 seq, .bool del, .slice vA v.length vc] 35) := by
   have := heap_setCell_same w2 w.heap.size 0 _ _ (.slice A1 k.length c1) HX02.out
   simpa using this
 have hS3 : (w2.setCell ⟨w.heap.size, 0, none⟩ (.slice A1 k.length c1)).cell? ⟨w.heap.size, 3, none⟩ = some (.slice vA v.length vc) := by rw [cell_of_row _ w.heap.size 3 _ _ (0, 0) hx3]; rfl
 refine hK _ _ hS3 ?_
 try simp only [Act.put, List.setIfInBounds_toArray]
 refine wpAnyE_one (i := 8) (by kernel_rfl) rfl (fun K hK => ?_)
 go_simp
 refine hK _ _ hS3 ?_
 try simp only [Act.put, List.setIfInBounds_toArray]
 have f3 := frozen_of_row _ w.heap.size 3 _ _ hx3
 refine wpAnyE_last (by kernel_rfl) (by kernel_rfl) rfl (fun K hK => ?_)
 go_simp
 refine hK _ _ ?_
 have hx4 : ((w2.setCell ⟨w.heap.size, 0, none⟩ (.slice A1 k.length c1)).setCell ⟨w.heap.size, 3, none⟩ (.slice A2 v.length c2)).heap[w.heap.size]? = some (.cells #[.slice A1 k.length c1, .int .i64 seq, .bool del, .slice A2 v.length c2] 35) := by
   have := heap_setCell_same _ w.heap.size 3 _ _ (.slice A2 v.length c2) hx3
   simpa using this
 have hx5 : ((w2.setCell ⟨w.heap.size, 0, none⟩ (.slice A1 k.length c1)).setCell ⟨w.heap.size, 3, none⟩ (.slice A2 v.length c2)).heap[w.heap.size + 1]? = some (.cells #[.slice none 0 0, .int .i64 0, .bool false, .slice none 0 0] 35) := by
   rw [heap_setD _ (by simp), heap_setD _ (by simp)]; exact HX12.out
 have HB4 : Hid (Below w.heap.size w ((w2.setCell ⟨w.heap.size, 0, none⟩ (.slice A1 k.length c1)).setCell ⟨w.heap.size, 3, none⟩ (.slice A2 v.length c2))) := hid ((HB2.out.setCell (Nat.le_refl _) _).setCell (Nat.le_refl _) _)
 have hnb : ∀ {A : Option Addr} {c : Nat} {l : List UInt8}, Own w2 w.heap.size 5 A c l → Own ((w2.setCell ⟨w.heap.size, 0, none⟩ (.slice A1 k.length c1)).setCell ⟨w.heap.size, 3, none⟩ (.slice A2 v.length c2)) w.heap.size 5 A c l := fun {A c l} ho => by
   have hne : blk A ≠ some w.heap.size := fun e => by
     obtain ⟨_, cs, fr, h1⟩ := own_tag ho e
     exact tag_ne2 h1 HX02.out (by decide) rfl
   exact (ho.cellput ⟨w.heap.size, 0, none⟩ _ hne).cellput ⟨w.heap.size, 3, none⟩ _ hne
 have HO1' := hid (hnb HO1.out)
 have HO2' := hid (hnb HO2.out)
 obtain ⟨W4, hW4⟩ : ∃ W4, (w2.setCell ⟨w.heap.size, 0, none⟩ (.slice A1 k.length c1)).setCell ⟨w.heap.size, 3, none⟩ (.slice A2 v.length c2) = W4 := ⟨_, rfl⟩
 rw [hW4] at hx4 hx5 HB4 HO1' HO2' ⊢
 have g0 := cell_of_row W4 w.heap.size 0 _ _ (0, 0) hx4
 have g1 := cell_of_row W4 w.heap.size 1 _ _ (0, 0) hx4
 have g2 := cell_of_row W4 w.heap.size 2 _ _ (0, 0) hx4
 have g3 := cell_of_row W4 w.heap.size 3 _ _ (0, 0) hx4
 have i0 := cell_of_row W4 (w.heap.size + 1) 0 _ _ (0, 0) hx5
 have i1 := cell_of_row W4 (w.heap.size + 1) 1 _ _ (0, 0) hx5
 have i2 := cell_of_row W4 (w.heap.size + 1) 2 _ _ (0, 0) hx5
 have i3 := cell_of_row W4 (w.heap.size + 1) 3 _ _ (0, 0) hx5
 have j0 := frozen_of_row W4 (w.heap.size + 1) 0 _ _ hx5
 have j1 := frozen_of_row W4 (w.heap.size + 1) 1 _ _ hx5
 have j2 := frozen_of_row W4 (w.heap.size + 1) 2 _ _ hx5
 have j3 := frozen_of_row W4 (w.heap.size + 1) 3 _ _ hx5
 simp only [List.getElem?_toArray, List.getElem?_cons_zero, List.getElem?_cons_succ] at g0 g1 g2 g3 i0 i1 i2 i3
 have HX5 := hid hx5
 clear hW4 hx3 hx4 hS3 hS2 hS1 f0 f3 d0 hnb hx5
 go_wp2_with fail
 obtain ⟨W5, hW5, hx6, HB5, HO15, HO25⟩ : ∃ W5, (((W4.setCell ⟨w.heap.size + 1, 0, none⟩ (.slice A1 k.length c1)).setCell ⟨w.heap.size + 1, 1, none⟩ (.int .i64 seq)).setCell ⟨w.heap.size + 1, 2, none⟩ (.bool del)).setCell ⟨w.heap.size + 1, 3, none⟩ (.slice A2 v.length c2) = W5 ∧
     W5.heap[w.heap.size + 1]? = some (.cells #[.slice A1 k.length c1, .int .i64 seq, .bool del, .slice A2 v.length c2] 35) ∧ Hid (Below w.heap.size w W5) ∧ Hid (Own W5 w.heap.size 5 A1 c1 k) ∧ Hid (Own W5 w.heap.size 5 A2 c2 v) := by
   have hnb : ∀ {A : Option Addr} {c : Nat} {l : List UInt8}, Own W4 w.heap.size 5 A c l → blk A ≠ some (w.heap.size + 1) := fun {A c l} ho e => by
     obtain ⟨_, cs, fr, h1⟩ := own_tag ho e
     exact tag_ne2 h1 HX5.out (by decide) rfl
   refine ⟨_, rfl, heap_set4 HX5.out, hid ((((HB4.out.setCell (by simp) _).setCell (by simp) _).setCell (by simp) _).setCell (by simp) _), hid ?_, hid ?_⟩
   · have h1 := hnb HO1'.out
     exact (((HO1'.out.cellput ⟨w.heap.size + 1, 0, none⟩ _ h1).cellput ⟨w.heap.size + 1, 1, none⟩ _ h1).cellput ⟨w.heap.size + 1, 2, none⟩ _ h1).cellput ⟨w.heap.size + 1, 3, none⟩ _ h1
   · have h1 := hnb HO2'.out
     exact (((HO2'.out.cellput ⟨w.heap.size + 1, 0, none⟩ _ h1).cellput ⟨w.heap.size + 1, 1, none⟩ _ h1).cellput ⟨w.heap.size + 1, 2, none⟩ _ h1).cellput ⟨w.heap.size + 1, 3, none⟩ _ h1
 rw [hW5]
 have e0 := cell_of_row W5 (w.heap.size + 1) 0 _ _ (0, 0) hx6
 have e1 := cell_of_row W5 (w.heap.size + 1) 1 _ _ (0, 0) hx6
 have e2 := cell_of_row W5 (w.heap.size + 1) 2 _ _ (0, 0) hx6
 have e3 := cell_of_row W5 (w.heap.size + 1) 3 _ _ (0, 0) hx6
 simp only [List.getElem?_toArray, List.getElem?_cons_zero, List.getElem?_cons_succ] at e0 e1 e2 e3
 exact bodyPost_ret (v := .agg #[.slice A1 k.length c1, .int .i64 seq, .bool del, .slice A2 v.length c2]) (by simp [results, Tryz.results50, go_sem, e0, e1, e2, e3]) rfl
   ⟨HB5.out, ⟨A1, c1, k, seq, del, A2, c2, v⟩, rfl, rfl, HO15.out, HO25.out⟩
set_option maxRecDepth 100000 in
theorem srightT_all (r : Rv) (w : World) : Calls Tryz.prog 47 #[r.val] w fun e w' => e = .returned (.bool (Tb.right r)) ∧ Below w.heap.size w w' := by
 obtain ⟨kA, kc, k, seq, del, vA, vc, v⟩ := r
 unfold Rv.val
 simp only
 obtain ⟨K, hK⟩ : ∃ K, K = k.length := ⟨_, rfl⟩
 obtain ⟨V, hV⟩ : ∃ V, V = v.length := ⟨_, rfl⟩
 have E : Hid (Tb.right ⟨kA, kc, k, seq, del, vA, vc, v⟩ = decide (1 ≤ K ∧ K ≤ 512 ∧ 1 ≤ seq ∧ seq ≤ 1099511627776 ∧ V ≤ 4096 ∧ (del = true → V = 0))) := hid (by rw [hK, hV]; rfl)
 rw [← hK]
 rw [← hV]
 clear hK hV
 cases del with
 | true =>
   go_enter Tryz.func47, Tryz.ntmps47
   go_wp2_with fail
   all_goals (go_ret; refine ⟨?_, (Below.refl _ _).alloc (Nat.le_refl _) _⟩; rw [E.out]; refine ret_bb ?_; rw [Bool.eq_iff_iff]; simp; omega)
 | false =>
   go_enter Tryz.func47, Tryz.ntmps47
   go_wp2_with fail
   all_goals (go_ret; refine ⟨?_, (Below.refl _ _).alloc (Nat.le_refl _) _⟩; rw [E.out]; refine ret_bb ?_; rw [Bool.eq_iff_iff]; simp; omega)
def LevQ (e : Ending) : Prop := ∃ n : Nat, e = .returned (.int .i64 (n : Int)) ∧ 1 ≤ n ∧ n ≤ 12
set_option maxRecDepth 100000 in
theorem levels_any (x : Int) (hx0 : 0 ≤ x) (hx1 : x ≤ 100000) (w : World) : Calls Tryz.prog 51 #[.int .i64 x] w fun e w' => LevQ e ∧ w = w' := by
 go_enter Tryz.func51, Tryz.ntmps51
 go_wp2_with fail
 go_loop [0, 3] (fun d n => ∃ (y : Int) (k : Nat), 0 ≤ y ∧ y ≤ 100000 ∧ d = .int .i64 y ∧ n = .int .i64 (k : Int) ∧ 1 ≤ k ∧ k ≤ 12) (fun _ n => 12 - (intOf n).toNat)
 case atStart => exact ⟨x, 1, hx0, hx1, rfl, rfl, by omega, by omega⟩
 case round =>
   obtain ⟨y, k, hy0, hy1, rfl, rfl, hk1, hk2⟩ := hrel
   obtain ⟨b, hb⟩ : ∃ b, bits .and .i64 y 3 = b := ⟨_, rfl⟩
   by_cases hb0 : b = 0
   · have d1 : (b == 0) = true := by simpa using hb0
     by_cases hk : (k : Int) < 12
     · go_wp2_with fail
       exact ⟨⟨y / 4, k + 1, by omega, by omega, rfl, by simp, by omega, by omega⟩, by simp [intOf]; omega⟩
     · go_wp2_with fail
       go_ret
       exact ⟨⟨k, rfl, hk1, hk2⟩, rfl⟩
   · have d1 : (b == 0) = false := by simpa using hb0
     go_wp2_with fail
     go_ret
     exact ⟨⟨k, rfl, hk1, hk2⟩, rfl⟩
set_option maxHeartbeats 1000000 in
set_option maxRecDepth 100000 in
theorem sorder_any (g : Nat) (kA : Option Addr) (kc : Nat) (k : List UInt8) (s : Int) (qA : Option Addr) (qc : Nat) (q : List UInt8) (seq : Int) (w : World) (h0 : w.cell? ⟨g, 0, none⟩ = some (.slice kA k.length kc)) (h1 : w.cell? ⟨g, 1, none⟩ = some (.int .i64 s)) (_ : g < w.heap.size)
   (hk : RdB w w.heap.size kA k) (hq : RdB w w.heap.size qA q) :
   Calls Tryz.prog 49 #[.pointer (some ⟨g, 0, none⟩), .slice qA q.length qc, .int .i64 seq] w fun e w' => e = .returned (.int .i64 (Tb.orI [Lib.compareBytes k q, Tb.cmpI seq s])) ∧ Below w.heap.size w w' := by
 have C1 : Hid (∀ wx, Below w.heap.size w wx → Calls Tryz.prog 59 #[.slice kA k.length kc, .slice qA q.length qc] wx fun e w' => e = .returned (.int .i64 (Lib.compareBytes k q)) ∧ w' = wx) := hid (fun wx hbx => (bcmp_any w.heap.size kA kc k w.heap.size qA qc q wx (hk.below hbx (Nat.le_refl _)) (hq.below hbx (Nat.le_refl _))).mono (fun _ _ h => ⟨h.1, h.2.symm⟩))
 have C2 : Hid (∀ w, Calls Tryz.prog 76 #[.int .i64 seq, .int .i64 s] w fun e w' => e = .returned (.int .i64 (Tb.cmpI seq s)) ∧ w' = w) := hid (fun w => (cmpT_any seq s w).mono (fun _ _ h => ⟨h.1, h.2.symm⟩))
 obtain ⟨x, hx⟩ : ∃ x, x = Lib.compareBytes k q := ⟨_, rfl⟩
 obtain ⟨y, hy⟩ : ∃ y, y = Tb.cmpI seq s := ⟨_, rfl⟩
 rw [← hx] at C1 ⊢; rw [← hy] at C2 ⊢
 clear hx hy hk hq
 go_enter Tryz.func49, Tryz.ntmps49
 go_wp2_with fail
 obtain ⟨W, hW, f0, f1, HBW⟩ : ∃ W : World, w.drew = W ∧ W.cell? ⟨g, 0, none⟩ = some (.slice kA k.length kc) ∧ W.cell? ⟨g, 1, none⟩ = some (.int .i64 s) ∧ Hid (Below w.heap.size w W) := ⟨_, rfl, h0, h1, hid (Below.refl _ _).drew⟩
 clear h0 h1
 refine region_still_tail 14 (by kernel_rfl) (by kernel_rfl) hW ?_
 simp only [List.take_succ_cons, List.take_zero, List.drop_succ_cons, List.drop_zero]
 have HW := hid hW
 clear hW
 repeat still_step
 still_call (C1.out _ HBW.out)
 repeat still_step
 still_call (C2.out _)
 repeat still_step
 refine wpStill_nil ?_
 go_wp2_with fail
 have HO := hid (orT_any W.heap.size 2 [x, y] (by simp) (W.alloc (.cells #[.int .i64 x, .int .i64 y] 3)) (fun k hk => by
   match k, hk with
   | 0, _ => simp
   | 1, _ => simp))
 refine HO.out.mono ?_
 rintro e w' ⟨rfl, rfl⟩
 go_wp2_with fail
 go_ret
 exact ⟨rfl, HBW.out.alloc HBW.out.size _⟩
theorem SkAt.gne {base : Nat} {hd : Nd} {l : List Nd} {f : Nat → Nat → Option Nat} {w : World} (h : SkAt base hd l f w) : ∀ i j (hi : i < (hd :: l).length) (hj : j < (hd :: l).length), ((hd :: l)[i]).g = ((hd :: l)[j]).g → i = j := by
 obtain ⟨hg, hs, e⟩ := h.list
 have hh : ∀ i (hi : i < l.length), (l[i]).g ≠ hd.g := fun i hi e2 => by
   have := (h.node _ (List.getElem_mem hi)).2.1
   rw [e2, e] at this
   have := Option.some.inj this
   injection this with _ t
   exact absurd t (by decide)
 intro i j hi hj e2
 cases i with
 | zero =>
   cases j with
   | zero => rfl
   | succ j => exact absurd e2.symm (hh j (by simpa using hj))
 | succ i =>
   cases j with
   | zero => exact absurd e2 (hh i (by simpa using hi))
   | succ j =>
     have hi2 : i < l.length := by simpa using hi
     have hj2 : j < l.length := by simpa using hj
     have e3 : (l[i]).g = (l[j]).g := e2
     have h1 := (h.node _ (List.getElem_mem hi2)).2.1
     have h2 := (h.node _ (List.getElem_mem hj2)).2.1
     rw [e3, h2] at h1
     have h1 := Option.some.inj h1
     injection h1 with h1 _
     have h3 := congrArg (fun a => a[4]?) h1
     simp at h3
     have h4 : ((hd :: l).map Nd.nb)[i + 1]'(by simpa using hi) = ((hd :: l).map Nd.nb)[j + 1]'(by simpa using hj) := by
       simp [h3.1]
     exact (List.getElem_inj h.nd).1 h4
theorem SkAt.look {base : Nat} {hd : Nd} {l : List Nd} {f : Nat → Nat → Option Nat} {w : World} (h : SkAt base hd l f w) (p : Nat) (hp : p < (hd :: l).length) : w.cell? ⟨((hd :: l)[p]).g, 4, none⟩ = some (.slice (some ⟨((hd :: l)[p]).nb, 0, none⟩) ((hd :: l)[p]).h ((hd :: l)[p]).h) ∧
   (∀ lv, lv < ((hd :: l)[p]).h → w.cell? ⟨((hd :: l)[p]).nb, lv, none⟩ = some (ptrV (f p lv))) ∧ ((hd :: l)[p]).g < w.heap.size ∧ ((hd :: l)[p]).nb < w.heap.size := by
 obtain ⟨_, cs, h1, h2, h3⟩ := h.rows p hp
 have h4 : ∀ lv, lv < ((hd :: l)[p]).h → w.cell? ⟨((hd :: l)[p]).nb, lv, none⟩ = some (ptrV (f p lv)) := fun lv hlv => by
   have e := cell_of_row w ((hd :: l)[p]).nb lv cs _ (0, 0) h1
   rw [e, h3 lv hlv]
 cases p with
 | zero =>
   obtain ⟨hg, hs, e⟩ := h.list
   refine ⟨?_, h4, (Array.getElem?_eq_some_iff.1 e).1, (Array.getElem?_eq_some_iff.1 h1).1⟩
   have := cell_of_row w hd.g 4 _ _ (0, 0) e
   simp only [List.getElem?_toArray, List.getElem?_cons_zero, List.getElem?_cons_succ] at this
   simpa [h.h12] using this
 | succ p =>
   have hp2 : p < l.length := by simpa using hp
   have e := (h.node _ (List.getElem_mem hp2)).2.1
   refine ⟨?_, h4, (Array.getElem?_eq_some_iff.1 e).1, (Array.getElem?_eq_some_iff.1 h1).1⟩
   have := cell_of_row w (l[p]).g 4 _ _ (0, 0) e
   simp only [List.getElem?_toArray, List.getElem?_cons_zero, List.getElem?_cons_succ] at this
   exact this
def Sk.at_ (hd : Nd) (l : List Nd) : Value → Nat
 | .pointer (some a) => (hd :: l).findIdx (fun d => d.g == a.block)
 | _ => 0
theorem SkAt.at_ {base : Nat} {hd : Nd} {l : List Nd} {f : Nat → Nat → Option Nat} {w : World} (h : SkAt base hd l f w) (i : Nat) (hi : i < (hd :: l).length) : Sk.at_ hd l (.pointer (some ⟨((hd :: l)[i]).g, 0, none⟩)) = i := by
 unfold Sk.at_
 simp only
 rw [List.findIdx_eq hi]
 refine ⟨by simp, fun j hj => ?_⟩
 simp only [beq_eq_false_iff_ne, ne_eq]
 intro e
 have := h.gne j i (by omega) hi e
 omega
structure OutQ (hd : Nd) (l : List Nd) (P : Nat) (from_ : Nat) (o : Nat → Nat) (cs : Array Value) : Prop where
 size : cs.size = 12
 cell : ∀ lv, from_ ≤ lv → lv < 12 → ∃ h : o lv < (hd :: l).length, cs[lv]? = some (.pointer (some ⟨((hd :: l)[o lv]).g, 0, none⟩)) ∧ o lv ≤ P ∧ lv < ((hd :: l)[o lv]).h ∧ ∀ m (hm : m < l.length), o lv ≤ m → m < P → l[m].h ≤ lv
theorem arr12 (a : Array Value) (h : a.size = 12) : ∃ x0 x1 x2 x3 x4 x5 x6 x7 x8 x9 x10 x11, a = #[x0, x1, x2, x3, x4, x5, x6, x7, x8, x9, x10, x11] := by
 obtain ⟨a⟩ := a
 have h : a.length = 12 := h
 match a, h with
 | [x0, x1, x2, x3, x4, x5, x6, x7, x8, x9, x10, x11], _ => exact ⟨x0, x1, x2, x3, x4, x5, x6, x7, x8, x9, x10, x11, rfl⟩
set_option maxRecDepth 100000 in
theorem heap_set12 {w : World} {g : Nat} {x0 x1 x2 x3 x4 x5 x6 x7 x8 x9 x10 x11 y0 y1 y2 y3 y4 y5 y6 y7 y8 y9 y10 y11 : Value} {T : TypeId} (h : w.heap[g]? = some (.cells #[y0, y1, y2, y3, y4, y5, y6, y7, y8, y9, y10, y11] T)) : ((((((((((((w.setCell ⟨g, 0, none⟩ x0).setCell ⟨g, 1, none⟩ x1).setCell ⟨g, 2, none⟩ x2).setCell ⟨g, 3, none⟩ x3).setCell ⟨g, 4, none⟩ x4).setCell ⟨g, 5, none⟩ x5).setCell ⟨g, 6, none⟩ x6).setCell ⟨g, 7, none⟩ x7).setCell ⟨g, 8, none⟩ x8).setCell ⟨g, 9, none⟩ x9).setCell ⟨g, 10, none⟩ x10).setCell ⟨g, 11, none⟩ x11).heap[g]? = some (.cells #[x0, x1, x2, x3, x4, x5, x6, x7, x8, x9, x10, x11] T) := by
 have h0 := heap_setCell_same w g 0 _ T x0 h
 have h1 := heap_setCell_same _ g 1 _ T x1 h0
 have h2 := heap_setCell_same _ g 2 _ T x2 h1
 have h3 := heap_setCell_same _ g 3 _ T x3 h2
 have h4 := heap_setCell_same _ g 4 _ T x4 h3
 have h5 := heap_setCell_same _ g 5 _ T x5 h4
 have h6 := heap_setCell_same _ g 6 _ T x6 h5
 have h7 := heap_setCell_same _ g 7 _ T x7 h6
 have h8 := heap_setCell_same _ g 8 _ T x8 h7
 have h9 := heap_setCell_same _ g 9 _ T x9 h8
 have h10 := heap_setCell_same _ g 10 _ T x10 h9
 have h11 := heap_setCell_same _ g 11 _ T x11 h10
 simpa using h11
set_option maxHeartbeats 2000000 in
set_option maxRecDepth 100000 in
theorem behind_any (base : Nat) (hd : Nd) (l : List Nd) (qA : Option Addr) (qc : Nat) (q : List UInt8) (seq : Int) (P : Nat) (w : World) (h : SkAt base hd l (Sk.F l) w) (hq : RdB w w.heap.size qA q)
   (hs : ∀ i (hi : i < l.length), (Tb.orI [Lib.compareBytes l[i].r.k q, Tb.cmpI seq l[i].r.seq] < 0) ↔ i < P) :
   Calls Tryz.prog 48 #[.pointer (some ⟨hd.g, 0, none⟩), .slice qA q.length qc, .int .i64 seq] w fun e w' => ∃ o cs, e = .returned (.agg cs) ∧ OutQ hd l P 0 o cs ∧ Below w.heap.size w w' := by
 have hgz : hd.g < w.heap.size := by
   obtain ⟨a, b, e⟩ := h.list
   exact (Array.getElem?_eq_some_iff.1 e).1
 have H := hid h
 have HQ := hid hq
 have HS := hid hs
 clear hs h hq
 go_enter Tryz.func48, Tryz.ntmps48
 go_wp2_with fail
 go_loopw [8, 9] (fun a lv wr => ∃ (n p : Nat) (hp : p < (hd :: l).length) (o : Nat → Nat) (cs : Array Value), n ≤ 12 ∧ lv = .int .i64 ((n : Int) - 1) ∧ a = .pointer (some ⟨((hd :: l)[p]).g, 0, none⟩) ∧ Hid (p ≤ P) ∧ Hid (n ≤ ((hd :: l)[p]).h) ∧ Hid (OutQ hd l P n o cs) ∧ Hid (Below w.heap.size w wr) ∧ Hid (wr.heap[w.heap.size + 1]? = some (.cells cs 117)) ∧ Hid (∃ c0 : Array Value, c0.size = 12 ∧ wr.heap[w.heap.size]? = some (.cells c0 117))) (fun _ lv _ => (intOf lv + 1).toNat)
 case atStart =>
   refine ⟨12, 0, by simp, fun _ => 0, #[.pointer none, .pointer none, .pointer none, .pointer none, .pointer none, .pointer none, .pointer none, .pointer none, .pointer none, .pointer none, .pointer none, .pointer none], by omega, rfl, rfl, hid (Nat.zero_le _), hid (by simp [H.out.h12]), hid ⟨by rfl, fun lv h1 h2 => absurd h1 (by omega)⟩, hid (below_al2 w _ _), hid ?_, hid ⟨_, rfl, (((Below.refl _ _).alloc (Nat.le_refl _) _).block _ (by simp)).trans (heap_alloc_new w _)⟩⟩
   have h1 := heap_alloc_new (w.alloc (.cells #[.pointer none, .pointer none, .pointer none, .pointer none, .pointer none, .pointer none, .pointer none, .pointer none, .pointer none, .pointer none, .pointer none, .pointer none] 117)) (.cells #[.pointer none, .pointer none, .pointer none, .pointer none, .pointer none, .pointer none, .pointer none, .pointer none, .pointer none, .pointer none, .pointer none, .pointer none] 117)
   rw [show (w.alloc (.cells #[.pointer none, .pointer none, .pointer none, .pointer none, .pointer none, .pointer none, .pointer none, .pointer none, .pointer none, .pointer none, .pointer none, .pointer none] 117)).heap.size = w.heap.size + 1 by simp] at h1
   exact h1
 case round =>
   obtain ⟨n, p, hp, o, cs, hn, rfl, rfl, HP, HH, HO, HB, HC, HC0⟩ := hrel
   by_cases hn0 : n = 0
   · subst hn0
     have e1 : ((0 : Nat) : Int) - 1 = -1 := by omega
     rw [e1]
     obtain ⟨x0, x1, x2, x3, x4, x5, x6, x7, x8, x9, x10, x11, rfl⟩ := arr12 cs HO.out.size
     obtain ⟨p0, rfl⟩ : ∃ p, x0 = .pointer p := by
       obtain ⟨_, e, _⟩ := HO.out.cell 0 (by omega) (by omega)
       exact ⟨_, Option.some.inj e⟩
     obtain ⟨p1, rfl⟩ : ∃ p, x1 = .pointer p := by
       obtain ⟨_, e, _⟩ := HO.out.cell 1 (by omega) (by omega)
       exact ⟨_, Option.some.inj e⟩
     obtain ⟨p2, rfl⟩ : ∃ p, x2 = .pointer p := by
       obtain ⟨_, e, _⟩ := HO.out.cell 2 (by omega) (by omega)
       exact ⟨_, Option.some.inj e⟩
     obtain ⟨p3, rfl⟩ : ∃ p, x3 = .pointer p := by
       obtain ⟨_, e, _⟩ := HO.out.cell 3 (by omega) (by omega)
       exact ⟨_, Option.some.inj e⟩
     obtain ⟨p4, rfl⟩ : ∃ p, x4 = .pointer p := by
       obtain ⟨_, e, _⟩ := HO.out.cell 4 (by omega) (by omega)
       exact ⟨_, Option.some.inj e⟩
     obtain ⟨p5, rfl⟩ : ∃ p, x5 = .pointer p := by
       obtain ⟨_, e, _⟩ := HO.out.cell 5 (by omega) (by omega)
       exact ⟨_, Option.some.inj e⟩
     obtain ⟨p6, rfl⟩ : ∃ p, x6 = .pointer p := by
       obtain ⟨_, e, _⟩ := HO.out.cell 6 (by omega) (by omega)
       exact ⟨_, Option.some.inj e⟩
     obtain ⟨p7, rfl⟩ : ∃ p, x7 = .pointer p := by
       obtain ⟨_, e, _⟩ := HO.out.cell 7 (by omega) (by omega)
       exact ⟨_, Option.some.inj e⟩
     obtain ⟨p8, rfl⟩ : ∃ p, x8 = .pointer p := by
       obtain ⟨_, e, _⟩ := HO.out.cell 8 (by omega) (by omega)
       exact ⟨_, Option.some.inj e⟩
     obtain ⟨p9, rfl⟩ : ∃ p, x9 = .pointer p := by
       obtain ⟨_, e, _⟩ := HO.out.cell 9 (by omega) (by omega)
       exact ⟨_, Option.some.inj e⟩
     obtain ⟨p10, rfl⟩ : ∃ p, x10 = .pointer p := by
       obtain ⟨_, e, _⟩ := HO.out.cell 10 (by omega) (by omega)
       exact ⟨_, Option.some.inj e⟩
     obtain ⟨p11, rfl⟩ : ∃ p, x11 = .pointer p := by
       obtain ⟨_, e, _⟩ := HO.out.cell 11 (by omega) (by omega)
       exact ⟨_, Option.some.inj e⟩
     obtain ⟨c0, hc0, hC0⟩ := HC0.out
     obtain ⟨y0, y1, y2, y3, y4, y5, y6, y7, y8, y9, y10, y11, rfl⟩ := arr12 c0 hc0
     have k0 := cell_of_row wr (w.heap.size + 1) 0 _ _ (0, 0) HC.out
     have k1 := cell_of_row wr (w.heap.size + 1) 1 _ _ (0, 0) HC.out
     have k2 := cell_of_row wr (w.heap.size + 1) 2 _ _ (0, 0) HC.out
     have k3 := cell_of_row wr (w.heap.size + 1) 3 _ _ (0, 0) HC.out
     have k4 := cell_of_row wr (w.heap.size + 1) 4 _ _ (0, 0) HC.out
     have k5 := cell_of_row wr (w.heap.size + 1) 5 _ _ (0, 0) HC.out
     have k6 := cell_of_row wr (w.heap.size + 1) 6 _ _ (0, 0) HC.out
     have k7 := cell_of_row wr (w.heap.size + 1) 7 _ _ (0, 0) HC.out
     have k8 := cell_of_row wr (w.heap.size + 1) 8 _ _ (0, 0) HC.out
     have k9 := cell_of_row wr (w.heap.size + 1) 9 _ _ (0, 0) HC.out
     have k10 := cell_of_row wr (w.heap.size + 1) 10 _ _ (0, 0) HC.out
     have k11 := cell_of_row wr (w.heap.size + 1) 11 _ _ (0, 0) HC.out
     have j0 := frozen_of_row wr w.heap.size 0 _ _ hC0
     have j1 := frozen_of_row wr w.heap.size 1 _ _ hC0
     have j2 := frozen_of_row wr w.heap.size 2 _ _ hC0
     have j3 := frozen_of_row wr w.heap.size 3 _ _ hC0
     have j4 := frozen_of_row wr w.heap.size 4 _ _ hC0
     have j5 := frozen_of_row wr w.heap.size 5 _ _ hC0
     have j6 := frozen_of_row wr w.heap.size 6 _ _ hC0
     have j7 := frozen_of_row wr w.heap.size 7 _ _ hC0
     have j8 := frozen_of_row wr w.heap.size 8 _ _ hC0
     have j9 := frozen_of_row wr w.heap.size 9 _ _ hC0
     have j10 := frozen_of_row wr w.heap.size 10 _ _ hC0
     have j11 := frozen_of_row wr w.heap.size 11 _ _ hC0
     have i0 := cell_of_row wr w.heap.size 0 _ _ (0, 0) hC0
     have i1 := cell_of_row wr w.heap.size 1 _ _ (0, 0) hC0
     have i2 := cell_of_row wr w.heap.size 2 _ _ (0, 0) hC0
     have i3 := cell_of_row wr w.heap.size 3 _ _ (0, 0) hC0
     have i4 := cell_of_row wr w.heap.size 4 _ _ (0, 0) hC0
     have i5 := cell_of_row wr w.heap.size 5 _ _ (0, 0) hC0
     have i6 := cell_of_row wr w.heap.size 6 _ _ (0, 0) hC0
     have i7 := cell_of_row wr w.heap.size 7 _ _ (0, 0) hC0
     have i8 := cell_of_row wr w.heap.size 8 _ _ (0, 0) hC0
     have i9 := cell_of_row wr w.heap.size 9 _ _ (0, 0) hC0
     have i10 := cell_of_row wr w.heap.size 10 _ _ (0, 0) hC0
     have i11 := cell_of_row wr w.heap.size 11 _ _ (0, 0) hC0
     simp only [List.getElem?_toArray, List.getElem?_cons_zero, List.getElem?_cons_succ] at i0 i1 i2 i3 i4 i5 i6 i7 i8 i9 i10 i11 k0 k1 k2 k3 k4 k5 k6 k7 k8 k9 k10 k11
     have HCC := hid hC0
     clear hC0 HC0
     go_wp2_with fail
     obtain ⟨V, hV, hx, HBV⟩ : ∃ V, ((((((((((((wr.setCell ⟨w.heap.size, 0, none⟩ (.pointer p0)).setCell ⟨w.heap.size, 1, none⟩ (.pointer p1)).setCell ⟨w.heap.size, 2, none⟩ (.pointer p2)).setCell ⟨w.heap.size, 3, none⟩ (.pointer p3)).setCell ⟨w.heap.size, 4, none⟩ (.pointer p4)).setCell ⟨w.heap.size, 5, none⟩ (.pointer p5)).setCell ⟨w.heap.size, 6, none⟩ (.pointer p6)).setCell ⟨w.heap.size, 7, none⟩ (.pointer p7)).setCell ⟨w.heap.size, 8, none⟩ (.pointer p8)).setCell ⟨w.heap.size, 9, none⟩ (.pointer p9)).setCell ⟨w.heap.size, 10, none⟩ (.pointer p10)).setCell ⟨w.heap.size, 11, none⟩ (.pointer p11)) = V ∧ V.heap[w.heap.size]? = some (.cells #[(.pointer p0), (.pointer p1), (.pointer p2), (.pointer p3), (.pointer p4), (.pointer p5), (.pointer p6), (.pointer p7), (.pointer p8), (.pointer p9), (.pointer p10), (.pointer p11)] 117) ∧ Hid (Below w.heap.size w V) := ⟨_, rfl, heap_set12 HCC.out, hid (((((((((((((HB.out.setCell (Nat.le_refl _) _).setCell (Nat.le_refl _) _).setCell (Nat.le_refl _) _).setCell (Nat.le_refl _) _).setCell (Nat.le_refl _) _).setCell (Nat.le_refl _) _).setCell (Nat.le_refl _) _).setCell (Nat.le_refl _) _).setCell (Nat.le_refl _) _).setCell (Nat.le_refl _) _).setCell (Nat.le_refl _) _).setCell (Nat.le_refl _) _))⟩
     rw [hV]
     have m0 := cell_of_row V w.heap.size 0 _ _ (0, 0) hx
     have m1 := cell_of_row V w.heap.size 1 _ _ (0, 0) hx
     have m2 := cell_of_row V w.heap.size 2 _ _ (0, 0) hx
     have m3 := cell_of_row V w.heap.size 3 _ _ (0, 0) hx
     have m4 := cell_of_row V w.heap.size 4 _ _ (0, 0) hx
     have m5 := cell_of_row V w.heap.size 5 _ _ (0, 0) hx
     have m6 := cell_of_row V w.heap.size 6 _ _ (0, 0) hx
     have m7 := cell_of_row V w.heap.size 7 _ _ (0, 0) hx
     have m8 := cell_of_row V w.heap.size 8 _ _ (0, 0) hx
     have m9 := cell_of_row V w.heap.size 9 _ _ (0, 0) hx
     have m10 := cell_of_row V w.heap.size 10 _ _ (0, 0) hx
     have m11 := cell_of_row V w.heap.size 11 _ _ (0, 0) hx
     simp only [List.getElem?_toArray, List.getElem?_cons_zero, List.getElem?_cons_succ] at m0 m1 m2 m3 m4 m5 m6 m7 m8 m9 m10 m11
     exact bodyPost_ret (v := .agg #[(.pointer p0), (.pointer p1), (.pointer p2), (.pointer p3), (.pointer p4), (.pointer p5), (.pointer p6), (.pointer p7), (.pointer p8), (.pointer p9), (.pointer p10), (.pointer p11)]) (by simp [results, Tryz.results48, go_sem, m0, m1, m2, m3, m4, m5, m6, m7, m8, m9, m10, m11]) rfl ⟨o, _, rfl, HO.out, HBV.out⟩
   · obtain ⟨v, rfl⟩ : ∃ v, n = v + 1 := ⟨n - 1, by omega⟩
     obtain ⟨x4, xr, hgz2, hnz2⟩ := (H.out.call HB.out).look p hp
     have xv := xr v (by have := HH.out; omega)
     obtain ⟨g, hg⟩ : ∃ g, g = ((hd :: l)[p]).g := ⟨_, rfl⟩
     obtain ⟨nb, hnb⟩ : ∃ nb, nb = ((hd :: l)[p]).nb := ⟨_, rfl⟩
     obtain ⟨hh, hhh⟩ : ∃ hh, hh = ((hd :: l)[p]).h := ⟨_, rfl⟩
     have hvh : v < hh := by rw [hhh]; have := HH.out; omega
     rw [← hg] at x4 ⊢
     rw [← hnb] at x4 xv
     rw [← hhh] at x4
     have HG := hid hg
     have HNB := hid hnb
     have HHH := hid hhh
     obtain ⟨v0, hv0⟩ : ∃ v0, v0 = ptrV (Sk.F l p v) := ⟨_, rfl⟩
     rw [← hv0] at xv
     have HV0 := hid hv0
     clear hg hnb hhh xr hv0
     have e1 : ((v + 1 : Nat) : Int) - 1 = (v : Int) := by omega
     rw [e1]
     go_wp2_with fail
     go_loopw [8, 10] (fun a nx wx => ∃ (p2 : Nat) (hp2 : p2 < (hd :: l).length), a = .pointer (some ⟨((hd :: l)[p2]).g, 0, none⟩) ∧ nx = ptrV (Sk.F l p2 v) ∧ Hid (p2 ≤ P) ∧ Hid (v < ((hd :: l)[p2]).h) ∧ Hid (Below w.heap.size w wx) ∧ Hid (wx.heap[w.heap.size + 1]? = some (.cells cs 117)) ∧ Hid (∃ c0 : Array Value, c0.size = 12 ∧ wx.heap[w.heap.size]? = some (.cells c0 117))) (fun a _ _ => P - Sk.at_ hd l a)
     case atStart =>
       exact ⟨p, hp, by rw [HG.out], HV0.out, HP, hid (by have := HH.out; omega), HB, HC, HC0⟩
     case round =>
       clear x4 xv HG HNB HHH hgz2 hnz2 HV0
       obtain ⟨p2, hp2, rfl, rfl, HP2, HV2, HB2, HC2, HC02⟩ := hrel
       have hvs : v < cs.size := by rw [HO.out.size]; omega
       have ST : Hid (∀ wy, Below w.heap.size w wy → Hid (wy.heap[w.heap.size + 1]? = some (.cells cs 117)) → Hid (∃ c0 : Array Value, c0.size = 12 ∧ wy.heap[w.heap.size]? = some (.cells c0 117)) →
           (wy.cell? ⟨w.heap.size + 1, v, none⟩ = some cs[v] ∧ wy.frozen? ⟨w.heap.size + 1, v, none⟩ = false) ∧
           Hid ((wy.setCell ⟨w.heap.size + 1, v, none⟩ (.pointer (some ⟨((hd :: l)[p2]).g, 0, none⟩))).heap[w.heap.size + 1]? = some (.cells (cs.setIfInBounds v (.pointer (some ⟨((hd :: l)[p2]).g, 0, none⟩))) 117)) ∧
           Hid (∃ c0 : Array Value, c0.size = 12 ∧ (wy.setCell ⟨w.heap.size + 1, v, none⟩ (.pointer (some ⟨((hd :: l)[p2]).g, 0, none⟩))).heap[w.heap.size]? = some (.cells c0 117)) ∧
           Hid (Below w.heap.size w (wy.setCell ⟨w.heap.size + 1, v, none⟩ (.pointer (some ⟨((hd :: l)[p2]).g, 0, none⟩))))) := hid (fun wy hb hc hc0 => by
         refine ⟨⟨?_, frozen_of_row wy _ v _ _ hc.out⟩, hid (heap_setCell_same wy _ v _ _ _ hc.out), hid ?_, hid (hb.setCell (by simp) _)⟩
         · rw [cell_of_row wy _ v _ _ (0, 0) hc.out, Array.getElem?_eq_getElem hvs]
         · obtain ⟨c0, h1, h2⟩ := hc0.out
           exact ⟨c0, h1, by rw [heap_setD _ (by simp)]; exact h2⟩)
       have OQ : Hid ((∀ m (hm : m < l.length), p2 ≤ m → m < P → l[m].h ≤ v) → OutQ hd l P v (fun lv => if lv = v then p2 else o lv) (cs.setIfInBounds v (.pointer (some ⟨((hd :: l)[p2]).g, 0, none⟩)))) := hid (fun hm => by
         refine ⟨by simpa using HO.out.size, fun lv h1 h2 => ?_⟩
         by_cases e : lv = v
         · subst e
           simp only [if_true]
           exact ⟨hp2, by rw [Array.getElem?_setIfInBounds_self_of_lt hvs], HP2.out, HV2.out, hm⟩
         · obtain ⟨ha, hb, hc⟩ := HO.out.cell lv (by omega) h2
           simp only [if_neg e]
           exact ⟨ha, by rw [Array.getElem?_setIfInBounds_ne (by omega)]; exact hb, hc⟩)
       cases hF : Sk.F l p2 v with
       | none =>
         simp only [ptrV]
         obtain ⟨⟨s1, s2⟩, s3, s4, s5⟩ := ST.out wr HB2.out HC2 HC02
         have HN := hid (Sk.F_none hF)
         clear hF
         go_wp2_with fail
         exact ⟨⟨v, p2, hp2, _, _, by omega, rfl, rfl, HP2, hid (by have := HV2.out; omega), hid (OQ.out (fun m hm h1 _ => HN.out m hm h1)), s5, s3, s4⟩, by simp [intOf]⟩
       | some g2 =>
         simp only [ptrV]
         obtain ⟨qn, hpq, hqn, rfl, hv2, hbt⟩ := Sk.F_some hF
         have HN := hid (H.out.call HB2.out)
         obtain ⟨hn1, hn2, hn3, _, hn5, _⟩ := HN.out.node _ (List.getElem_mem hqn)
         have hgw := (Array.getElem?_eq_some_iff.1 hn2).1
         have y0 := cell_of_row wr (l[qn]).g 0 _ _ (0, 0) hn2
         have y1 := cell_of_row wr (l[qn]).g 1 _ _ (0, 0) hn2
         simp only [List.getElem?_toArray, List.getElem?_cons_zero, List.getElem?_cons_succ] at y0 y1
         have HCALL := hid (sorder_any (l[qn]).g (l[qn]).r.kA (l[qn]).r.kc (l[qn]).r.k (l[qn]).r.seq qA qc q seq wr y0 y1 hgw hn3.rd (HQ.out.below HB2.out (Nat.le_refl _) |>.more HB2.out.size))
         have HSG := HS.out qn hqn
         obtain ⟨z, hz⟩ : ∃ z, z = Tb.orI [Lib.compareBytes l[qn].r.k q, Tb.cmpI seq l[qn].r.seq] := ⟨_, rfl⟩
         rw [← hz] at HCALL HSG
         clear hz y0 y1 hn2 hn3 hn5 hF
         have HB := hid hbt
         clear hbt
         go_wp2_with fail
         refine HCALL.out.mono ?_
         rintro e w1 ⟨rfl, hb1⟩
         have HB1 : Hid (Below w.heap.size w w1) := hid (HB2.out.trans (hb1.mono HB2.out.size))
         have HC1 : Hid (w1.heap[w.heap.size + 1]? = some (.cells cs 117)) := hid ((hb1.block _ (Array.getElem?_eq_some_iff.1 HC2.out).1).trans HC2.out)
         have HC01 : Hid (∃ c0 : Array Value, c0.size = 12 ∧ w1.heap[w.heap.size]? = some (.cells c0 117)) := hid (by
           obtain ⟨c0, h1, h2⟩ := HC02.out
           exact ⟨c0, h1, (hb1.block _ (Array.getElem?_eq_some_iff.1 h2).1).trans h2⟩)
         clear hb1
         by_cases hlt : z < 0
         · have hqP : qn < P := HSG.1 hlt
           obtain ⟨x4, xr, hgz2, hnz2⟩ := (H.out.call HB1.out).look (qn + 1) (by simp; omega)
           have xv := xr v (by simpa using hv2)
           simp only [List.getElem_cons_succ] at x4 xv hgz2 hnz2
           obtain ⟨v0, hv0⟩ : ∃ v0, v0 = ptrV (Sk.F l (qn + 1) v) := ⟨_, rfl⟩
           rw [← hv0] at xv
           have HV0 := hid hv0
           obtain ⟨g, hg⟩ : ∃ g, g = (l[qn]).g := ⟨_, rfl⟩
           obtain ⟨nb, hnb⟩ : ∃ nb, nb = (l[qn]).nb := ⟨_, rfl⟩
           obtain ⟨hh, hhh⟩ : ∃ hh, hh = (l[qn]).h := ⟨_, rfl⟩
           have hvh : v < hh := by rw [hhh]; exact hv2
           rw [← hg] at x4 ⊢
           rw [← hnb] at x4 xv
           rw [← hhh] at x4
           have HG := hid hg
           clear hg hnb hhh xr hv0 HSG
           go_wp2_with fail
           refine ⟨⟨qn + 1, by simp; omega, by rw [HG.out]; rfl, HV0.out, hid (by omega), hid (by simpa using hv2), HB1, HC1, HC01⟩, ?_⟩
           rw [H.out.at_ p2 hp2, HG.out]
           have := H.out.at_ (qn + 1) (by simp; omega)
           simp only [List.getElem_cons_succ] at this
           rw [this]
           omega
         · have hqP : ¬ qn < P := fun h => hlt (HSG.2 h)
           obtain ⟨⟨s1, s2⟩, s3, s4, s5⟩ := ST.out w1 HB1.out HC1 HC01
           clear HSG
           go_wp2_with fail
           exact ⟨⟨v, p2, hp2, _, _, by omega, rfl, rfl, HP2, hid (by have := HV2.out; omega), hid (OQ.out (fun m hm h1 h2 => HB.out m hm h1 (by omega))), s5, s3, s4⟩, by simp [intOf]⟩
set_option maxRecDepth 100000 in
theorem snew_any (w : World) : Calls Tryz.prog 14 #[] w fun e w' => ∃ hd, e = .returned (.pointer (some ⟨hd.g, 0, none⟩)) ∧ SkAt w.heap.size hd [] (Sk.F []) w' ∧ Below w.heap.size w w' := by
 have hmk : ∀ w : World, (Instr.makeSlice 111 (.int .i64 12) (.int .i64 12)).run Tryz.prog w = .ok (.slice (some ⟨w.heap.size, 0, none⟩) 12 12) (w.alloc (.cells #[.pointer none, .pointer none, .pointer none, .pointer none, .pointer none, .pointer none, .pointer none, .pointer none, .pointer none, .pointer none, .pointer none, .pointer none] 116)) := fun _ => by kernel_rfl
 go_enter Tryz.func14, Tryz.ntmps14
 go_wp2_with fail
 go_ret
 obtain ⟨R, hR⟩ : ∃ R, R = Obj.cells #[.pointer none, .pointer none, .pointer none, .pointer none, .pointer none, .pointer none, .pointer none, .pointer none, .pointer none, .pointer none, .pointer none, .pointer none] 116 := ⟨_, rfl⟩
 obtain ⟨B, hB⟩ : ∃ B, B = Obj.cells #[.slice none 0 0, .int .i64 0, .bool false, .slice none 0 0, .slice (some ⟨w.heap.size, 0, none⟩) 12 12, .int .i64 0, .int .i64 0, .int .i64 0] 115 := ⟨_, rfl⟩
 rw [← hR, ← hB]
 have h0 : ((w.alloc R).alloc B).heap[w.heap.size]? = some R := (((Below.refl _ _).alloc (Nat.le_refl _) _).block _ (by simp)).trans (heap_alloc_new w _)
 have h1 : ((w.alloc R).alloc B).heap[w.heap.size + 1]? = some B := by
   have := heap_alloc_new (w.alloc R) B
   rw [show (w.alloc R).heap.size = w.heap.size + 1 by simp] at this
   exact this
 refine ⟨⟨w.heap.size + 1, w.heap.size, 12, ⟨none, 0, [], 0, false, none, 0, []⟩⟩, rfl, ⟨by simp; omega, ⟨0, 0, by rw [h1, hB]; rfl⟩, rfl, by simp, fun d hd => (by cases hd), fun p hp => ?_, by simp⟩, below_al2 w R B⟩
 obtain rfl : p = 0 := by simp at hp; omega
 refine ⟨by simp, _, by simp only [List.getElem_cons_zero]; rw [h0, hR], rfl, fun lv hlv => ?_⟩
 simp only [List.getElem_cons_zero] at hlv
 have : lv = 0 ∨ lv = 1 ∨ lv = 2 ∨ lv = 3 ∨ lv = 4 ∨ lv = 5 ∨ lv = 6 ∨ lv = 7 ∨ lv = 8 ∨ lv = 9 ∨ lv = 10 ∨ lv = 11 := by omega
 rcases this with rfl | rfl | rfl | rfl | rfl | rfl | rfl | rfl | rfl | rfl | rfl | rfl <;> rfl
set_option maxRecDepth 100000 in
theorem slen_any {base : Nat} {hd : Nd} {l : List Nd} {f : Nat → Nat → Option Nat} {w : World} (h : SkAt base hd l f w) : Calls Tryz.prog 22 #[.pointer (some ⟨hd.g, 0, none⟩)] w fun e w' => e = .returned (.int .i64 (l.length : Int)) ∧ Below w.heap.size w w' := by
 obtain ⟨hg, hs, e⟩ := h.list
 have c6 := cell_of_row w hd.g 6 _ _ (0, 0) e
 simp only [List.getElem?_toArray, List.getElem?_cons_zero, List.getElem?_cons_succ] at c6
 obtain ⟨n, hn⟩ : ∃ n, n = l.length := ⟨_, rfl⟩
 rw [← hn] at c6 ⊢
 clear e hn h
 go_enter Tryz.func22, Tryz.ntmps22
 go_wp2_with fail
 go_ret
 exact ⟨rfl, Below.refl _ _⟩
theorem Sk.F_zero {l : List Nd} (h1 : ∀ d ∈ l, 1 ≤ d.h) (p : Nat) : Sk.F l p 0 = (l[p]?).map Nd.g := by
 unfold Sk.F Sk.nx
 have e : l[p]? = (l.drop p)[0]? := by rw [List.getElem?_drop]; rfl
 rw [e]
 cases hl : l.drop p with
 | nil => rfl
 | cons d t =>
   have hd : 1 ≤ d.h := h1 d (List.mem_of_mem_drop (by rw [hl]; exact List.mem_cons_self))
   have h2 : decide (0 < d.h) = true := by rw [decide_eq_true_eq]; omega
   simp only [List.find?, h2, List.getElem?_cons_zero, Option.map_some]
def SgQ (l : List Nd) (P : Nat) (q : List UInt8) (w : World) (e : Ending) (w' : World) : Prop := Below w.heap.size w w' ∧ ((e = .returned (.tuple #[zeroRec, .bool false]) ∧ ∀ d, l[P]? = some d → d.r.k ≠ q) ∨
 ∃ (d : Nd) (r' : Rv), l[P]? = some d ∧ d.r.k = q ∧ r'.core = d.r.core ∧ e = .returned (.tuple #[r'.val, .bool true]) ∧ Own w' w.heap.size 5 r'.kA r'.kc r'.k ∧ Own w' w.heap.size 5 r'.vA r'.vc r'.v)
theorem OutQ.zero {base : Nat} {hd : Nd} {l : List Nd} {f : Nat → Nat → Option Nat} {w : World} {P : Nat} {o : Nat → Nat} {cs : Array Value} (h : OutQ hd l P 0 o cs) (hs : SkAt base hd l f w) (hP : P ≤ l.length) : ∃ hp : P < (hd :: l).length, cs[0]? = some (.pointer (some ⟨((hd :: l)[P]).g, 0, none⟩)) := by
 obtain ⟨h1, h2, h3, h4, h5⟩ := h.cell 0 (by omega) (by omega)
 have e : o 0 = P := by
   by_cases hlt : o 0 < P
   · have := h5 (o 0) (by omega) (Nat.le_refl _) hlt
     have := (hs.node _ (List.getElem_mem (show o 0 < l.length by omega))).2.2.2.2.2.2.1
     omega
   · omega
 refine ⟨by simp; omega, ?_⟩
 rw [h2]
 simp [e]
theorem sfin {w w1 : World} {a b c d : Value} (hb : Below w.heap.size w w1) (h : w1.heap[w.heap.size]? = some (.cells #[a, b, c, d] 35)) (x y z u : Value) : ∃ W5, (((w1.setCell ⟨w.heap.size, 0, none⟩ x).setCell ⟨w.heap.size, 1, none⟩ y).setCell ⟨w.heap.size, 2, none⟩ z).setCell ⟨w.heap.size, 3, none⟩ u = W5 ∧
   W5.heap[w.heap.size]? = some (.cells #[x, y, z, u] 35) ∧ Below w.heap.size w W5 ∧ ∀ {A : Option Addr} {n : Nat} {l : List UInt8}, Own w1 w.heap.size 5 A n l → Own W5 w.heap.size 5 A n l := by
 refine ⟨_, rfl, heap_set4 h, (((hb.setCell (by simp) _).setCell (by simp) _).setCell (by simp) _).setCell (by simp) _, fun {A n l} ho => ?_⟩
 have hne : blk A ≠ some w.heap.size := fun e => by
   obtain ⟨_, cs, fr, h1⟩ := own_tag ho e
   exact tag_ne2 h1 h (by decide) rfl
 exact (((ho.cellput ⟨w.heap.size, 0, none⟩ _ hne).cellput ⟨w.heap.size, 1, none⟩ _ hne).cellput ⟨w.heap.size, 2, none⟩ _ hne).cellput ⟨w.heap.size, 3, none⟩ _ hne
set_option maxHeartbeats 2000000 in
set_option maxRecDepth 100000 in
theorem sget_any (base : Nat) (hd : Nd) (l : List Nd) (qA : Option Addr) (qc : Nat) (q : List UInt8) (seq : Int) (P : Nat) (hP : P ≤ l.length) (w : World) (h : SkAt base hd l (Sk.F l) w) (hq : RdB w w.heap.size qA q)
   (hs : ∀ i (hi : i < l.length), (Tb.orI [Lib.compareBytes l[i].r.k q, Tb.cmpI seq l[i].r.seq] < 0) ↔ i < P) :
   Calls Tryz.prog 20 #[.pointer (some ⟨hd.g, 0, none⟩), .slice qA q.length qc, .int .i64 seq] w (SgQ l P q w) := by
 have hb0 : Below w.heap.size w (w.alloc zObj) := (Below.refl _ _).alloc (Nat.le_refl _) _
 have HBH := hid (behind_any base hd l qA qc q seq P (w.alloc zObj) (h.call hb0) ((hq.below hb0 (Nat.le_refl _)).more (by simp)) hs)
 have H := hid h
 have HQ := hid hq
 have hgz : hd.g < w.heap.size := by
   obtain ⟨a, b, e⟩ := h.list
   exact (Array.getElem?_eq_some_iff.1 e).1
 have HB0 := hid hb0
 have hix : ∀ (x0 x1 x2 x3 x4 x5 x6 x7 x8 x9 x10 x11 : Value) (w : World), (Instr.index 117 (.agg #[x0, x1, x2, x3, x4, x5, x6, x7, x8, x9, x10, x11]) (.int .i64 0)).run Tryz.prog w = .ok x0 w := fun _ _ _ _ _ _ _ _ _ _ _ _ _ => by kernel_rfl
 clear h hq hs hb0
 go_enter Tryz.func20, Tryz.ntmps20
 go_wp2_with fail
 refine HBH.out.mono ?_
 rintro e w1 ⟨o, cs, rfl, ho, hb1⟩
 have hz1 : w.heap.size + 1 ≤ w1.heap.size := by have := hb1.size; simpa using this
 have HB1 : Hid (Below w.heap.size w w1) := hid (HB0.out.trans (hb1.mono (by simp)))
 have HZ : Hid (w1.heap[w.heap.size]? = some zObj) := hid ((hb1.block _ (by simp)).trans (heap_alloc_new w _))
 have H1 := hid (H.out.call HB1.out)
 obtain ⟨hp, e0⟩ := ho.zero H.out hP
 obtain ⟨x0, x1, x2, x3, x4, x5, x6, x7, x8, x9, x10, x11, rfl⟩ := arr12 cs ho.size
 obtain rfl := Option.some.inj e0
 obtain ⟨x4, xr, hgz2, hnz2⟩ := H1.out.look P hp
 have hh0 : 0 < ((hd :: l)[P]).h := by
   cases P with
   | zero => simp [H.out.h12]
   | succ k => exact (H.out.node _ (List.getElem_mem (show k < l.length by omega))).2.2.2.2.2.2.1
 have xv := xr 0 hh0
 rw [Sk.F_zero (fun d hd => (H.out.node d hd).2.2.2.2.2.2.1)] at xv
 clear ho hb1 xr
 cases hF : l[P]? with
 | none =>
   rw [hF] at xv
   simp only [Option.map_none, ptrV] at xv
   have z := zfacts HZ.out
   obtain ⟨⟨z0, z1, z2, z3⟩, y0, y1, y2, y3⟩ := z
   go_wp2_with fail
   obtain ⟨W5, hW5, hx5, hb5, _⟩ := sfin HB1.out HZ.out (.slice none 0 0) (.int .i64 0) (.bool false) (.slice none 0 0)
   rw [hW5]
   obtain ⟨u0, u1, u2, u3⟩ := rfacts hx5
   exact bodyPost_ret (v := .tuple #[zeroRec, .bool false]) (by simp [results, Tryz.results20, go_sem, u0, u1, u2, u3, zeroRec]) rfl ⟨hb5, .inl ⟨rfl, fun d hd => by rw [hF] at hd; cases hd⟩⟩
 | some d =>
   rw [hF] at xv
   simp only [Option.map_some, ptrV] at xv
   obtain ⟨hPl, rfl⟩ := List.getElem?_eq_some_iff.1 hF
   obtain ⟨hn1, hn2, hn3, hn4, hn5, hn6, hn7, hn8, hn9, hn10⟩ := H1.out.node _ (List.getElem_mem hPl)
   have hgw := (Array.getElem?_eq_some_iff.1 hn2).1
   have y0 := cell_of_row w1 (l[P]).g 0 _ _ (0, 0) hn2
   have y1 := cell_of_row w1 (l[P]).g 1 _ _ (0, 0) hn2
   have y2 := cell_of_row w1 (l[P]).g 2 _ _ (0, 0) hn2
   have y3 := cell_of_row w1 (l[P]).g 3 _ _ (0, 0) hn2
   simp only [List.getElem?_toArray, List.getElem?_cons_zero, List.getElem?_cons_succ] at y0 y1 y2 y3
   have HEQ := hid (bytesEq_any (l[P]).r.kA qA (l[P]).r.kc qc (l[P]).r.k q w1 hn3.rd ((HQ.out.below HB1.out (Nat.le_refl _)).more HB1.out.size))
   have HCP := hid (scopied_any (l[P]).r w1 hn3.rd hn4.rd (by omega) (by omega))
   have z := zfacts HZ.out
   obtain ⟨⟨z0, z1, z2, z3⟩, t0, t1, t2, t3⟩ := z
   obtain ⟨d, hd⟩ : ∃ d, d = l[P] := ⟨_, rfl⟩
   rw [← hd] at y0 y1 y2 y3 HEQ HCP xv hgw
   rw [← hd] at hF
   have HF := hid hF
   clear hn1 hn2 hn3 hn4 hn5 hn6 hn7 hn8 hn9 hn10 hF hd
   obtain ⟨⟨rA, rc, rk, rseq, rdel, rvA, rvc, rv⟩, hr⟩ : ∃ r, d.r = r := ⟨_, rfl⟩
   rw [hr] at y0 y1 y2 y3 HEQ HCP
   simp only at y0 y1 y2 y3 HEQ HCP
   have HR := hid hr
   clear hr
   by_cases hkq : rk = q
   · have d1 : (rk == q) = true := by simpa using hkq
     rw [d1] at HEQ
     have HKQ := hid hkq
     clear hkq d1
     go_wp2_with fail
     refine HEQ.out.mono ?_
     rintro e w2 ⟨rfl, rfl⟩
     go_wp2_with fail
     refine HCP.out.mono ?_
     rintro e w2 ⟨hb2, ⟨pA, pc, pk, pseq, pdel, pvA, pvc, pv⟩, rfl, hc, ho1, ho2⟩
     have HZ2 : Hid (w2.heap[w.heap.size]? = some zObj) := hid ((hb2.block _ (by omega)).trans HZ.out)
     have HB2 : Hid (Below w.heap.size w w2) := hid (HB1.out.trans (hb2.mono (by omega)))
     have HO1 := hid (ho1.mono (show w.heap.size ≤ w1.heap.size by omega))
     have HO2 := hid (ho2.mono (show w.heap.size ≤ w1.heap.size by omega))
     have HCR := hid hc
     simp only at HO1 HO2
     clear hb2 ho1 ho2 hc y0 y1 y2 y3 z0 z1 z2 z3 t0 t1 t2 t3 x4 xv
     obtain ⟨⟨z0, z1, z2, z3⟩, t0, t1, t2, t3⟩ := zfacts HZ2.out
     simp only [Rv.val]
     go_wp2_with fail
     obtain ⟨W5, hW5, hx5, hb5, ho5⟩ := sfin HB2.out HZ2.out (.slice pA pk.length pc) (.int .i64 pseq) (.bool pdel) (.slice pvA pv.length pvc)
     rw [hW5]
     obtain ⟨u0, u1, u2, u3⟩ := rfacts hx5
     exact bodyPost_ret (v := .tuple #[.agg #[.slice pA pk.length pc, .int .i64 pseq, .bool pdel, .slice pvA pv.length pvc], .bool true]) (by simp [results, Tryz.results20, go_sem, u0, u1, u2, u3]) rfl
       ⟨hb5, .inr ⟨d, ⟨pA, pc, pk, pseq, pdel, pvA, pvc, pv⟩, HF.out, by rw [HR.out]; exact HKQ.out, by rw [HR.out]; exact HCR.out, rfl, ho5 HO1.out, ho5 HO2.out⟩⟩
   · have d1 : (rk == q) = false := by simpa using hkq
     rw [d1] at HEQ
     have HKQ := hid hkq
     clear hkq d1
     go_wp2_with fail
     refine HEQ.out.mono ?_
     rintro e w2 ⟨rfl, rfl⟩
     go_wp2_with fail
     obtain ⟨W5, hW5, hx5, hb5, _⟩ := sfin HB1.out HZ.out (.slice none 0 0) (.int .i64 0) (.bool false) (.slice none 0 0)
     rw [hW5]
     obtain ⟨u0, u1, u2, u3⟩ := rfacts hx5
     exact bodyPost_ret (v := .tuple #[zeroRec, .bool false]) (by simp [results, Tryz.results20, go_sem, u0, u1, u2, u3, zeroRec]) rfl ⟨hb5, .inl ⟨rfl, fun d2 hd2 => by rw [HF.out] at hd2; obtain rfl := Option.some.inj hd2; rw [HR.out]; exact HKQ.out⟩⟩
def TfQ (base : Nat) (F : Nat → Prop) (t : Ti) (R : List Rv) (key : List UInt8) (most : Int) (w : World) (e : Ending) (w' : World) : Prop := TbAt base F t w' ∧ Qry base t w w' ∧ ∃ (A : Option Addr) (c : Nat) (l : List Rv), e = .returned (.slice A l.length c) ∧ RdRv w' w'.heap.size A l ∧ l.map Rv.core = ((Tb.fromL R key).take most.toNat).map Rv.core
structure FrR (base : Nat) (F : Nat → Prop) (t : Ti) (w : World) (OA : Option Addr) (oc : Nat) (l : List Rv) (W : World) : Prop where
 tab : TbAt base (fun g => F g ∨ blk OA = some g) t W
 qry : Qry base t w W
 row : OwnS Rv.cells 4 W w.heap.size 35 OA oc l
 inn : ∀ r ∈ l, Own W base 5 r.kA r.kc r.k ∧ Own W base 5 r.vA r.vc r.v
section
variable {base oc oc' : Nat} {F : Nat → Prop} {t : Ti} {w W W' : World} {OA OA' : Option Addr} {l : List Rv} {r : Rv}
theorem FrR.start (h : TbAt base F t w) : FrR base F t w none 0 [] w := ⟨h.less (fun g hg => hg.elim id (fun e => by cases e)), Qry.refl _ _ _, OwnS.nil _ _ _, fun r hr => by cases hr⟩
theorem FrR.step (h : FrR base F t w OA oc l W) (ht : TbAt base (fun g => F g ∨ blk OA = some g) t W') (hq : Qry base t W W') : FrR base F t w OA oc l W' :=
 ⟨ht, h.qry.trans hq, hq.ownS h.row (by decide) (by decide), fun r hr => ⟨hq.own (h.inn r hr).1, hq.own (h.inn r hr).2⟩⟩
theorem FrR.call (h : FrR base F t w OA oc l W) (hb : Below W.heap.size W W') : FrR base F t w OA oc l W' := h.step (h.tab.call hb) (Qry.of (t := t) hb h.tab.size)
theorem FrR.app (h : FrR base F t w OA oc l W) (hs : base ≤ w.heap.size) (hr : Own W base 5 r.kA r.kc r.k ∧ Own W base 5 r.vA r.vc r.v) (ho : OwnS Rv.cells 4 W' w.heap.size 35 OA' oc' (l ++ [r])) (hg : W.grownBy W' (blk OA)) (hat : blk OA' = blk OA ∨ blk OA' = some W.heap.size) : FrR base F t w OA' oc' (l ++ [r]) W' := by
 have htag : ∀ g, blk OA = some g → (F g ∨ blk OA = some g) ∧ base ≤ g ∧ ∃ cs fr, W.heap[g]? = some (.cells cs 35 fr) := fun g e => by
   obtain ⟨h1, cs, fr, h2⟩ := ownS_tag h.row e
   exact ⟨.inr e, by omega, cs, fr, h2⟩
 have hnb : NoB W (blk OA) := h.row.nob (by decide)
 refine ⟨h.tab.foreignM hg htag (fun g hf => ?_) (fun g hf => ?_), h.qry.new hg hs (fun g e => (ownS_tag h.row e).1), ho, fun q hq => ?_⟩
 · rcases hf with h1 | h1
   · exact .inl (.inl h1)
   · rcases hat with h2 | h2
     · exact .inl (.inr (h2 ▸ h1))
     · rw [h2] at h1; injection h1 with h1; exact .inr (by omega)
 · rcases hf with h1 | h1
   · exact Nat.lt_of_lt_of_le (h.tab.frn g (.inl h1)) hg.size
   · exact (ho.blk_ge g h1).2
 · simp only [List.mem_append, List.mem_singleton] at hq
   rcases hq with hq | hq
   · exact ⟨(h.inn q hq).1.kept_tag hg hnb, (h.inn q hq).2.kept_tag hg hnb⟩
   · rw [hq]; exact ⟨hr.1.kept_tag hg hnb, hr.2.kept_tag hg hnb⟩
theorem FrR.rd (h : FrR base F t w OA oc l W) : RdRv W W.heap.size OA l := ⟨h.row.rd, fun r hr => ⟨(h.inn r hr).1.rd, (h.inn r hr).2.rd, (h.inn r hr).1.cap, (h.inn r hr).2.cap⟩⟩
end
structure FrP (t : Ti) (R : List Rv) (key : List UInt8) (most : Int) (l : List Rv) (P : Nat) : Prop where
 le : P ≤ R.length
 few : l.length ≤ most.toNat
 now : (R.drop P).length + l.length = (Tb.fromL R key).length
 eq : l.map Rv.core = ((Tb.fromL R key).take l.length).map Rv.core
 rest : (Tb.fromL R key).drop l.length = R.drop P
theorem FrP.start {t : Ti} {R : List Rv} {key : List UInt8} {most : Int} {P : Nat} (hr : ∀ r ∈ R, Tb.right r = true) (h : Tb.Pos R (Tb.ask key 1099511627776) P) : FrP t R key most [] P := by
 have e := h.from hr
 exact ⟨h.le, Nat.zero_le _, by rw [e]; simp, by simp, by rw [e]; simp⟩
theorem FrP.snoc {t : Ti} {R : List Rv} {key : List UInt8} {most : Int} {l : List Rv} {P : Nat} (h : FrP t R key most l P) {r r0 : Rv} (hm : (l.length : Int) < most) (hP : R[P]? = some r0) (hc : r.core = r0.core) : FrP t R key most (l ++ [r]) (P + 1) := by
 obtain ⟨hlt, e0⟩ := List.getElem?_eq_some_iff.1 hP
 have hd : R.drop P = r0 :: R.drop (P + 1) := by rw [List.drop_eq_getElem_cons hlt, e0]
 have hn : l.length < (Tb.fromL R key).length := by
   have := h.now
   rw [hd, List.length_cons] at this
   omega
 have hx : (Tb.fromL R key)[l.length]? = some r0 := by
   have h1 : ((Tb.fromL R key).drop l.length)[0]? = some r0 := by rw [h.rest, hd]; rfl
   rw [List.getElem?_drop] at h1
   simpa using h1
 refine ⟨hlt, by simp; omega, ?_, ?_, ?_⟩
 · have := h.now
   rw [hd, List.length_cons] at this
   rw [List.length_append]
   simp only [List.length_cons, List.length_nil]
   omega
 · rw [List.length_append]
   simp only [List.length_cons, List.length_nil]
   rw [List.take_succ_eq_append_getElem hn, List.map_append, List.map_append, h.eq]
   congr 1
   obtain ⟨h1, h2⟩ := List.getElem?_eq_some_iff.1 hx
   simp only [List.map_cons, List.map_nil, h2, hc]
 · rw [List.length_append]
   simp only [List.length_cons, List.length_nil]
   have h1 : (Tb.fromL R key).drop (l.length + 1) = ((Tb.fromL R key).drop l.length).drop 1 := by rw [List.drop_drop]
   rw [h1, h.rest, List.drop_drop]
theorem FrP.full {t : Ti} {R : List Rv} {key : List UInt8} {most : Int} {l : List Rv} {P : Nat} (h : FrP t R key most l P) (hm : most ≤ (l.length : Int)) : l.map Rv.core = ((Tb.fromL R key).take most.toNat).map Rv.core := by
 have h1 : most.toNat = l.length := by have := h.few; omega
 rw [h1]; exact h.eq
theorem FrP.fin {t : Ti} {R : List Rv} {key : List UInt8} {most : Int} {l : List Rv} (h : FrP t R key most l R.length) : l.map Rv.core = ((Tb.fromL R key).take most.toNat).map Rv.core := by
 have h1 := h.now
 rw [List.drop_length, List.length_nil] at h1
 have h2 := h.eq
 rw [List.take_of_length_le (by omega)] at h2
 rw [List.take_of_length_le (by have := h.few; omega)]
 exact h2
set_option maxHeartbeats 4000000 in
set_option maxRecDepth 100000 in
theorem tfrom_any (base : Nat) (F : Nat → Prop) (t : Ti) (R : List Rv) (bits : Nat) (hR : TbR t R bits) (kA : Option Addr) (kc : Nat) (key : List UInt8) (most : Int) (w : World) (h : TbAt base F t w) (hk : HBs w base kA key) (hkl : key.length ≤ 10000) (hkc : key.length ≤ kc) (hn : t.ps.length ≤ 100000) :
   Calls Tryz.prog 17 #[.pointer (some ⟨t.gt, 0, none⟩), .slice kA key.length kc, .int .i64 most] w (TfQ base F t R key most w) := by
 have hs := h.size
 have HR := hid hR
 have KS := hid (seek_any base F t R bits hR kA kc key 1099511627776 w h hk hkl hkc (by omega) (by omega) hn)
 have HF0 := hid (FrR.start h)
 have hrl := hR.len
 clear hR h hk
 go_enter Tryz.func17, Tryz.ntmps17
 go_wp2_with fail
 refine KS.out.mono ?_
 rintro e w1 ⟨ht1, hq1, at0, i0, rfl, hsk⟩
 have HF1 : Hid (FrR base F t w none 0 [] w1) := hid (HF0.out.step (ht1.less (fun g hg => hg.elim id (fun e => by cases e))) hq1)
 have hat0 : at0 ≤ t.ps.length := by
   rcases hsk with ⟨h1, _⟩ | ⟨h1, _⟩ <;> omega
 have HP0 : Hid (FrP t R key most [] (t.off at0 + i0)) := hid (by
   rcases hsk with ⟨_, _, hp⟩ | ⟨e1, e2, hp⟩
   · exact FrP.start HR.out.rt hp
   · rw [e1, e2, Nat.add_zero, HR.out.off_all]; exact FrP.start HR.out.rt hp)
 have HI0 : Hid (∀ x, t.ps[at0]? = some x → i0 < x.2.length) := hid (fun x hx => by
   obtain ⟨ha, rfl⟩ := List.getElem?_eq_some_iff.1 hx
   rcases hsk with ⟨_, h2, _⟩ | ⟨e1, _⟩
   · exact h2
   · omega)
 have HE0 : Hid (at0 = t.ps.length → i0 = 0) := hid (fun h1 => by
   rcases hsk with ⟨h2, _⟩ | ⟨_, e2, _⟩
   · omega
   · exact e2)
 obtain ⟨n, hnn⟩ : ∃ n, n = t.ps.length := ⟨_, rfl⟩
 have HNN := hid hnn
 rw [← hnn] at hn hat0 HE0
 clear ht1 hq1 hsk hnn
 go_wp2_with fail
 go_loopw [7, 8, 9] (fun o a ii wr => ∃ (j i : Nat) (OA : Option Addr) (oc : Nat) (l : List Rv), j ≤ n ∧ a = .int .i64 (j : Int) ∧ ii = .int .i64 (i : Int) ∧ o = .slice OA l.length oc ∧ l.length ≤ 20000 ∧ Hid (∀ x, t.ps[j]? = some x → i < x.2.length) ∧ Hid (j = n → i = 0) ∧ Hid (FrR base F t w OA oc l wr) ∧ Hid (FrP t R key most l (t.off j + i))) (fun _ a _ _ => n - (intOf a).toNat)
 case atStart => exact ⟨at0, i0, none, 0, [], hat0, rfl, rfl, rfl, by simp, HI0, HE0, HF1, HP0⟩
 case round =>
   obtain ⟨j, i, OA, oc, l, hj, rfl, rfl, rfl, hll, HI, HE, HF, HP⟩ := hrel
   have c4 := HF.out.tab.fcell.1
   rw [← HNN.out] at c4
   by_cases hlt : j < n
   · have hal : j < t.ps.length := by have := HNN.out; omega
     obtain ⟨pb, po, hA, hpbl, hpc⟩ := RdS.row (f := Ptc) (n := 1) (fun _ => rfl) (by omega) HF.out.tab.row.rd (by rw [List.length_map]; omega)
     have s0o := hpc j (by rw [List.length_map]; exact hal) 0 _ rfl
     simp only [Nat.mul_one, Nat.add_zero, List.getElem_map] at s0o
     have hxm : t.ps[j] ∈ t.ps := List.getElem_mem hal
     have KAo := hid (all_any base _ t t.ps[j] hxm wr HF.out.tab (HR.out.prt _ hxm))
     obtain ⟨x, hx, s0, KA⟩ : ∃ x, t.ps[j]? = some x ∧ wr.cell? ⟨pb, po + j, none⟩ = some (.pointer (some ⟨x.1.g, 0, none⟩)) ∧ Hid (Calls Tryz.prog 33 #[.pointer (some ⟨x.1.g, 0, none⟩)] wr (AllQ base (fun g => F g ∨ blk OA = some g) t x.2 wr)) := ⟨_, List.getElem?_eq_getElem hal, s0o, KAo⟩
     clear s0o KAo hpc hxm
     rw [hA] at c4
     have HX := hid hx
     have HA := hid hA
     clear hx hA
     go_wp2_with fail
     refine KA.out.mono ?_
     rintro e w5 ⟨ht5, hq5, lA, lc, L, rfl, hrec, hco, hfr⟩
     have HF5 := hid (HF.out.step ht5 hq5)
     obtain ⟨hLL, hL2, _⟩ := HR.out.rise HX.out hco
     have hiL : i < L.length := by have := HI.out x HX.out; omega
     have hLc : L.length ≤ lc := hrec.row.cap
     have hLc2 : lc ≤ 9223372036854775807 := ownS_cap_le hrec.row
     obtain ⟨lb, lo, hlA, hlb, hlc⟩ := hrec.rd.row4 (by omega)
     subst hlA
     have HREC := hid hrec
     have HCO := hid hco
     have HFRN := hid hfr
     have HLL := hid hLL
     have hic : ¬ lc = i := by omega
     have hi0 : (0 : Int) ≤ (i : Int) := by omega
     have hi1 : (i : Int) ≤ (L.length : Int) := by omega
     clear ht5 hq5 hrec hco hfr hlc hLL s0 c4
     go_wp2_with fail
     obtain ⟨N, hN⟩ : ∃ N, N = L.length - i := ⟨_, rfl⟩
     rw [← hN]
     have HNL : Hid (i + N = L.length) := hid (by omega)
     have hN2 : N ≤ 20000 := by omega
     have HNE : Hid (some lb ≠ blk OA) := hid (fun e => HFRN.out lb rfl (.inr e.symm))
     clear hN
     obtain ⟨jj, hjj⟩ : ∃ jj, jj = j := ⟨_, rfl⟩
     subst hjj
     obtain ⟨wo, hwo⟩ : ∃ wo, wo = wr := ⟨_, rfl⟩
     subst hwo
     go_loopw [7, 38] (fun o q wx => ∃ (m : Nat) (OA2 : Option Addr) (oc2 : Nat) (l2 : List Rv), m ≤ N ∧ q = .int .i64 (m : Int) ∧ o = .slice OA2 l2.length oc2 ∧ l2.length ≤ 20000 ∧ Hid (FrR base F t w OA2 oc2 l2 wx) ∧ Hid (FrP t R key most l2 (t.off jj + i + m)) ∧ Hid (RecsAt wx base (some ⟨lb, lo, none⟩) lc L) ∧ Hid (some lb ≠ blk OA2)) (fun _ q _ => N - (intOf q).toNat)
     case atStart => exact ⟨0, OA, oc, l, by omega, rfl, rfl, hll, HF5, HP, HREC, HNE⟩
     case round =>
       obtain ⟨m, OA2, oc2, l2, hm, rfl, rfl, hl2, HF2, HP2, HREC2, HNE2⟩ := hrel
       by_cases hml : m < N
       · have himl : i + m < L.length := by have := HNL.out; omega
         obtain ⟨lb', lo', hlA, hlb2, hlc⟩ := HREC2.out.rd.row4 (by omega)
         cases hlA
         obtain ⟨a0, a1, a2, a3⟩ := hlc (i + m) himl
         rw [show lo + (i + m) * 4 = lo + i * 4 + m * 4 by omega] at a0 a1 a2 a3
         have hin := HREC2.out.inn L[i + m] (List.getElem_mem himl)
         obtain ⟨r0, hr0, hrc0⟩ : ∃ r0, R[t.off jj + i + m]? = some r0 ∧ L[i + m].core = r0.core := by
           obtain ⟨ha, he⟩ := List.getElem?_eq_some_iff.1 HX.out
           have h1 : i + m < t.ps[jj].2.length := by rw [he]; have := HLL.out; omega
           obtain ⟨h2, h3⟩ := HR.out.at_ ha h1
           refine ⟨R[t.off jj + (i + m)], ?_, ?_⟩
           · rw [Nat.add_assoc, List.getElem?_eq_getElem h2]
           · rw [h3]
             have hco2 : L.map Rv.core = t.ps[jj].2.map Rv.core := by rw [he]; exact HCO.out
             exact core_at hco2 himl h1
         obtain ⟨y, hy⟩ : ∃ y, y = L[i + m] := ⟨_, rfl⟩
         rw [← hy] at a0 a1 a2 a3 hin hrc0
         have HR0 := hid hr0
         have HRC0 := hid hrc0
         obtain ⟨yA, yc, yk, ys, yd, yvA, yvc, yv⟩ := y
         simp only at a0 a1 a2 a3 hin
         have HRY : Hid (HBs wr base yA yk ∧ HBs wr base yvA yv ∧ yk.length ≤ 70000 ∧ yv.length ≤ 70000) := hid ⟨hin.1.1, hin.1.2.2.1, hin.2⟩
         clear hlc hin hy hr0 hrc0
         have hm0 : (0 : Int) ≤ (m : Int) := by omega
         have hm1 : (m : Int) < (N : Int) := by omega
         by_cases hmost : (l2.length : Int) < most
         · have hbw6 : Below wr.heap.size wr (wr.alloc (.cells #[.slice yA yk.length yc, .int .i64 ys, .bool yd, .slice yvA yv.length yvc] 35)) := (Below.refl _ _).alloc (Nat.le_refl _) _
           have KC := hid (copied_any ⟨yA, yc, yk, ys, yd, yvA, yvc, yv⟩ (wr.alloc (.cells #[.slice yA yk.length yc, .int .i64 ys, .bool yd, .slice yvA yv.length yvc] 35)) (HRY.out.1.below hbw6).rd (HRY.out.2.1.below hbw6).rd (by have := HRY.out.2.2.1; simp only; omega) (by have := HRY.out.2.2.2; simp only; omega))
           have HBW6 := hid hbw6
           simp only [Rv.val] at KC
           clear hbw6
           go_wp2_with fail
           refine KC.out.mono ?_
           rintro e w7 ⟨hb7, r', rfl, hcr, hok, hov⟩
           have hb77 : Below wr.heap.size wr w7 := HBW6.out.trans (hb7.mono HBW6.out.size)
           have HF7 := hid (HF2.out.call hb77)
           have HREC7 := hid ((Qry.of (t := t) hb77 HF2.out.tab.size).recs (Nat.le_refl _) HREC2.out)
           have HCR : Hid (r'.core = r0.core) := hid (hcr.trans HRC0.out)
           have hszb : base ≤ (wr.alloc (.cells #[.slice yA yk.length yc, .int .i64 ys, .bool yd, .slice yvA yv.length yvc] 35)).heap.size := Nat.le_trans HF2.out.tab.size HBW6.out.size
           have HOK : Hid (Own w7 base 5 r'.kA r'.kc r'.k ∧ Own w7 base 5 r'.vA r'.vc r'.v) := hid ⟨hok.mono hszb, hov.mono hszb⟩
           have hw7 : w.heap.size ≤ w7.heap.size := HF7.out.qry.below.size
           obtain ⟨rr, hrr⟩ : ∃ rr, rr = r' := ⟨_, rfl⟩
           have HRR := hid hrr
           rw [← hrr] at HCR HOK
           obtain ⟨rA, rc, rk, rs, rd, rvA, rvc, rv⟩ := r'
           simp only [Rv.val]
           clear hb7 hb77 hcr hok hov hszb a0 a1 a2 a3 hrr
           go_wp2_with (at_builtin; refine wpList_append_s _ rfl _ _ recT rfl w.heap.size OA2 oc2 l2 rfl (HF7.out.row.alloc _) (w7.heap.size + 1) (some ⟨w7.heap.size, 0, none⟩) 1 1 [⟨rA, rc, rk, rs, rd, rvA, rvc, rv⟩] rfl rfl (rd_rec_new w7 ⟨rA, rc, rk, rs, rd, rvA, rvc, rv⟩) (by simp; omega) (by unfold maxLen; simp; omega) (by simp; omega) ?_)
           intro A3 c3 l3 w8 hl3 ho3 hg3 hat3
           have hbo : Below w7.heap.size w7 (w7.alloc (.cells #[.slice rA rk.length rc, .int .i64 rs, .bool rd, .slice rvA rv.length rvc] 35)) := (Below.refl _ _).alloc (Nat.le_refl _) _
           have hl3r : l3 = l2 ++ [rr] := by rw [hl3, HRR.out]
           rw [hl3r] at ho3
           have HF8 := hid ((HF7.out.call hbo).app (r := rr) hs ⟨HOK.out.1.below hbo, HOK.out.2.below hbo⟩ ho3 hg3 (by simpa using hat3))
           have HREC8 := hid (((Qry.of (t := t) hbo HF7.out.tab.size).recs (Nat.le_refl _) HREC7.out).grown hg3 ((HF7.out.row.alloc _).nob (by decide)) (fun g e => by have := (HF7.out.row.blk_ge g e).1; omega) (.inr HNE2.out))
           have HNE8 : Hid (some lb ≠ blk A3) := hid (fun e => by
             rcases hat3 with h1 | h1
             · exact HNE2.out (e.trans h1)
             · rw [h1] at e
               injection e with e
               have h2 := (HREC7.out.row.blk_ge lb rfl).2
               omega)
           have HP8 := hid (HP2.out.snoc (r := rr) hmost HR0.out HCR.out)
           have hl38 : l3.length ≤ 20000 := by
             have h1 := HP8.out.now
             have h2 := Tb.fromL_len R key
             rw [hl3r]
             omega
           have HL3R := hid hl3r
           clear hl3 ho3 hg3 hat3 hbo hl3r
           go_wp2_with fail
           go_roundw
           case rel => exact ⟨m + 1, A3, c3, l3, hml, by simp, rfl, hl38, hid (by rw [HL3R.out]; exact HF8.out), hid (by rw [HL3R.out, ← Nat.add_assoc]; exact HP8.out), HREC8, HNE8⟩
           case measure => simp [intOf]; omega
         · have HFIN := hid (HP2.out.full (by omega))
           have HF7 := hid (HF2.out.call ((Below.refl wr.heap.size wr).alloc (Nat.le_refl _) (.cells #[.slice yA yk.length yc, .int .i64 ys, .bool yd, .slice yvA yv.length yvc] 35)))
           go_wp2_with fail
           go_ret
           exact ⟨HF7.out.tab.less (fun g hg => .inl hg), HF7.out.qry, OA2, oc2, l2, rfl, HF7.out.rd, HFIN.out⟩
       · have hme : m = N := by omega
         have HPN : Hid (FrP t R key most l2 (t.off (jj + 1) + 0)) := hid (by
           obtain ⟨ha, he⟩ := List.getElem?_eq_some_iff.1 HX.out
           have h1 := t.off_succ ha
           rw [he] at h1
           have h2 := HLL.out
           have h3 := HNL.out
           have h4 := HP2.out
           rw [show t.off (jj + 1) + 0 = t.off jj + i + m by omega]
           exact h4)
         have HIN : Hid (∀ x, t.ps[jj + 1]? = some x → 0 < x.2.length) := hid (fun x hx => by
           obtain ⟨ha, rfl⟩ := List.getElem?_eq_some_iff.1 hx
           exact HR.out.pne ha)
         go_wp2_with fail
         go_roundw
         case rel => exact ⟨jj + 1, 0, OA2, oc2, l2, hlt, by simp, rfl, rfl, hl2, HIN, hid (fun _ => rfl), HF2, HPN⟩
         case measure => simp [intOf]; omega
   · have hje : j = n := by omega
     have HFIN : Hid (l.map Rv.core = ((Tb.fromL R key).take most.toNat).map Rv.core) := hid (by
       have h1 := HP.out
       rw [HE.out hje, hje, HNN.out, HR.out.off_all, Nat.add_zero] at h1
       exact h1.fin)
     go_wp2_with fail
     go_ret
     exact ⟨HF.out.tab.less (fun g hg => .inl hg), HF.out.qry, OA, oc, l, rfl, HF.out.rd, HFIN.out⟩
structure SfR (l : List Nd) (P m : Nat) (w : World) (OA : Option Addr) (oc : Nat) (L : List Rv) (W : World) : Prop where
 row : OwnS Rv.cells 4 W w.heap.size 35 OA oc L
 inn : ∀ r ∈ L, Own W w.heap.size 5 r.kA r.kc r.k ∧ Own W w.heap.size 5 r.vA r.vc r.v
 bel : Below w.heap.size w W
 eq : L.map Rv.core = ((l.drop P).take m).map (fun d => d.r.core)
 len : L.length = m
theorem SfR.call {l : List Nd} {P m oc : Nat} {w W W' : World} {OA : Option Addr} {L : List Rv} (h : SfR l P m w OA oc L W) (hb : Below W.heap.size W W') : SfR l P m w OA oc L W' :=
 ⟨h.row.below hb, fun r hr => ⟨(h.inn r hr).1.below hb, (h.inn r hr).2.below hb⟩, h.bel.trans (hb.mono h.bel.size), h.eq, h.len⟩
theorem SfR.app {l : List Nd} {P m oc oc' : Nat} {w W W' : World} {OA OA' : Option Addr} {L : List Rv} {r : Rv} {d : Nd} (h : SfR l P m w OA oc L W) (hd : l[P + m]? = some d) (hc : r.core = d.r.core) (hr : Own W w.heap.size 5 r.kA r.kc r.k ∧ Own W w.heap.size 5 r.vA r.vc r.v) (ho : OwnS Rv.cells 4 W' w.heap.size 35 OA' oc' (L ++ [r])) (hg : W.grownBy W' (blk OA)) : SfR l P (m + 1) w OA' oc' (L ++ [r]) W' := by
 have hnb : NoB W (blk OA) := h.row.nob (by decide)
 obtain ⟨hlt, rfl⟩ := List.getElem?_eq_some_iff.1 hd
 refine ⟨ho, fun q hq => ?_, below_grow h.bel hg (fun g hg => (h.row.blk_ge g hg).1) h.bel.size, ?_, by rw [List.length_append, h.len]; rfl⟩
 · simp only [List.mem_append, List.mem_singleton] at hq
   rcases hq with hq | hq
   · exact ⟨(h.inn q hq).1.kept_tag hg hnb, (h.inn q hq).2.kept_tag hg hnb⟩
   · rw [hq]; exact ⟨hr.1.kept_tag hg hnb, hr.2.kept_tag hg hnb⟩
 · have h1 : m < (l.drop P).length := by rw [List.length_drop]; omega
   rw [List.take_succ_eq_append_getElem h1, List.map_append, List.map_append, h.eq]
   congr 1
   simp [hc]
def Sk.lenOf : Value → Nat
 | .slice _ n _ => n
 | _ => 0
def SfQ (l : List Nd) (P : Nat) (most : Int) (w : World) (e : Ending) (w' : World) : Prop := Below w.heap.size w w' ∧ ∃ (A : Option Addr) (c : Nat) (L : List Rv), e = .returned (.slice A L.length c) ∧ RdRv w' w'.heap.size A L ∧ L.map Rv.core = ((l.drop P).take most.toNat).map (fun d => d.r.core)
set_option maxHeartbeats 2000000 in
set_option maxRecDepth 100000 in
theorem sfrom_any (base : Nat) (hd : Nd) (l : List Nd) (qA : Option Addr) (qc : Nat) (q : List UInt8) (most : Int) (P : Nat) (hP : P ≤ l.length) (hl : l.length ≤ 100000) (w : World) (h : SkAt base hd l (Sk.F l) w) (hq : RdB w w.heap.size qA q)
   (hs : ∀ i (hi : i < l.length), (Tb.orI [Lib.compareBytes l[i].r.k q, Tb.cmpI 1099511627777 l[i].r.seq] < 0) ↔ i < P) :
   Calls Tryz.prog 18 #[.pointer (some ⟨hd.g, 0, none⟩), .slice qA q.length qc, .int .i64 most] w (SfQ l P most w) := by
 have HBH := hid (behind_any base hd l qA qc q 1099511627777 P w h hq hs)
 have H := hid h
 have hgz : hd.g < w.heap.size := by
   obtain ⟨a, b, e⟩ := h.list
   exact (Array.getElem?_eq_some_iff.1 e).1
 have hix : ∀ (x0 x1 x2 x3 x4 x5 x6 x7 x8 x9 x10 x11 : Value) (w : World), (Instr.index 117 (.agg #[x0, x1, x2, x3, x4, x5, x6, x7, x8, x9, x10, x11]) (.int .i64 0)).run Tryz.prog w = .ok x0 w := fun _ _ _ _ _ _ _ _ _ _ _ _ _ => by kernel_rfl
 clear h hq hs
 go_enter Tryz.func18, Tryz.ntmps18
 go_wp2_with fail
 refine HBH.out.mono ?_
 rintro e w1 ⟨o, cs, rfl, ho, hb1⟩
 have H1 := hid (H.out.call hb1)
 have HB1 := hid hb1
 obtain ⟨hp, e0⟩ := ho.zero H.out hP
 obtain ⟨x0, x1, x2, x3, x4, x5, x6, x7, x8, x9, x10, x11, rfl⟩ := arr12 cs ho.size
 obtain rfl := Option.some.inj e0
 obtain ⟨x4, xr, hgz2, hnz2⟩ := H1.out.look P hp
 have hh0 : 0 < ((hd :: l)[P]).h := by
   cases P with
   | zero => simp [H.out.h12]
   | succ k => exact (H.out.node _ (List.getElem_mem (show k < l.length by omega))).2.2.2.2.2.2.1
 have xv := xr 0 hh0
 rw [Sk.F_zero (fun d hd => (H.out.node d hd).2.2.2.2.2.2.1)] at xv
 obtain ⟨v0, hv0⟩ : ∃ v0, v0 = ptrV (l[P]?.map Nd.g) := ⟨_, rfl⟩
 rw [← hv0] at xv
 have HV0 := hid hv0
 clear ho hb1 xr hv0
 go_wp2_with fail
 go_loopw [7, 8] (fun o n wr => ∃ (m : Nat) (OA : Option Addr) (oc : Nat) (L : List Rv), P + m ≤ l.length ∧ n = ptrV (l[P + m]?.map Nd.g) ∧ o = .slice OA L.length oc ∧ Hid (L.length = m) ∧ Hid (SfR l P m w OA oc L wr) ∧ Hid (m ≤ most.toNat)) (fun o _ _ => l.length + 1 - Sk.lenOf o)
 case atStart => exact ⟨0, none, 0, [], by omega, HV0.out, rfl, hid rfl, hid ⟨OwnS.nil _ _ _, fun r hr => (by cases hr), HB1.out, (by simp), rfl⟩, hid (Nat.zero_le _)⟩
 case round =>
   clear x4 xv HV0 hgz2 hnz2
   obtain ⟨m, OA, oc, L, hm, rfl, rfl, hLm, HR, HM⟩ := hrel
   have H2 := hid (H.out.call HR.out.bel)
   have HRD : Hid (RdRv wr wr.heap.size OA L) := hid ⟨HR.out.row.rd, fun r hr => ⟨(HR.out.inn r hr).1.rd, (HR.out.inn r hr).2.rd, (HR.out.inn r hr).1.cap, (HR.out.inn r hr).2.cap⟩⟩
   cases hF : l[P + m]? with
   | none =>
     simp only [Option.map_none, ptrV]
     have HE : Hid (L.map Rv.core = ((l.drop P).take most.toNat).map (fun d => d.r.core)) := hid (by
       have h1 := List.getElem?_eq_none_iff.1 hF
       have h2 := HR.out.eq
       rw [List.take_of_length_le (by rw [List.length_drop]; omega)] at h2
       rw [List.take_of_length_le (by rw [List.length_drop]; have := HM.out; omega)]
       exact h2)
     clear hF
     go_wp2_with fail
     go_ret
     exact ⟨HR.out.bel, OA, oc, L, rfl, HRD.out, HE.out⟩
   | some d =>
     simp only [Option.map_some, ptrV]
     obtain ⟨hlt, hde⟩ := List.getElem?_eq_some_iff.1 hF
     obtain ⟨hn1, hn2, hn3, hn4, hn5, hn6, hn7, hn8, hn9, hn10⟩ := H2.out.node _ (hde ▸ List.getElem_mem hlt)
     have y0 := cell_of_row wr d.g 0 _ _ (0, 0) hn2
     have y1 := cell_of_row wr d.g 1 _ _ (0, 0) hn2
     have y2 := cell_of_row wr d.g 2 _ _ (0, 0) hn2
     have y3 := cell_of_row wr d.g 3 _ _ (0, 0) hn2
     have y4 := cell_of_row wr d.g 4 _ _ (0, 0) hn2
     simp only [List.getElem?_toArray, List.getElem?_cons_zero, List.getElem?_cons_succ] at y0 y1 y2 y3 y4
     have HCP := hid (scopied_any d.r wr hn3.rd hn4.rd (by omega) (by omega))
     have HF := hid hF
     clear hn1 hn2 hn3 hn4 hn5 hn6 hn9 hn10
     by_cases hmost : (L.length : Int) < most
     · go_wp2_with fail
       refine HCP.out.mono ?_
       rintro e w2 ⟨hb2, r', rfl, hc, ho1, ho2⟩
       have HR2 := hid (HR.out.call hb2)
       have HC : Hid (r'.core = d.r.core) := hid hc
       have hzz := HR.out.bel.size
       have HOK := hid (And.intro (ho1.mono hzz) (ho2.mono hzz))
       have hw2 : w.heap.size ≤ w2.heap.size := HR2.out.bel.size
       obtain ⟨rr, hrr⟩ : ∃ rr, rr = r' := ⟨_, rfl⟩
       have HRR := hid hrr
       rw [← hrr] at HC HOK
       obtain ⟨rA, rc, rk, rs, rd, rvA, rvc, rv⟩ := r'
       have hLl : L.length ≤ 100000 := by have := hLm.out; omega
       simp only [Rv.val]
       clear hb2 hc ho1 ho2 y0 y1 y2 y3 y4 hrr HCP HRD
       go_wp2_with (at_builtin; refine wpList_append_s _ rfl _ _ recT rfl w.heap.size OA oc L rfl (HR2.out.row.alloc _) (w2.heap.size + 1) (some ⟨w2.heap.size, 0, none⟩) 1 1 [⟨rA, rc, rk, rs, rd, rvA, rvc, rv⟩] rfl rfl (rd_rec_new w2 ⟨rA, rc, rk, rs, rd, rvA, rvc, rv⟩) (by simp; omega) (by unfold maxLen; simp; omega) (by simp; omega) ?_)
       intro A3 c3 l3 w8 hl3 ho3 hg3 hat3
       have hbo : Below w2.heap.size w2 (w2.alloc (.cells #[.slice rA rk.length rc, .int .i64 rs, .bool rd, .slice rvA rv.length rvc] 35)) := (Below.refl _ _).alloc (Nat.le_refl _) _
       have hl3r : l3 = L ++ [rr] := by rw [hl3, HRR.out]
       rw [hl3r] at ho3
       have HR8 := hid ((HR2.out.call hbo).app (r := rr) HF.out HC.out ⟨HOK.out.1.below (HR2.out.bel |> fun _ => hbo), HOK.out.2.below hbo⟩ ho3 hg3)
       have HL3 := hid hl3r
       have HL3L : Hid (l3.length = m + 1) := hid (by rw [hl3r, List.length_append, hLm.out]; rfl)
       obtain ⟨x4, xr, _, _⟩ := (H.out.call HR8.out.bel).look (P + m + 1) (by simp; omega)
       have hdg : (hd :: l)[P + m + 1]'(by simp; omega) = d := by simpa using hde
       rw [hdg] at x4 xr
       have xv := xr 0 (by omega)
       rw [Sk.F_zero (fun d hd => (H.out.node d hd).2.2.2.2.2.2.1)] at xv
       have hdh : 0 < d.h := by omega
       clear hl3 ho3 hg3 hat3 hbo hl3r xr hdg
       go_wp2_with fail
       refine ⟨⟨m + 1, A3, c3, l3, by omega, rfl, rfl, HL3L, hid (by rw [HL3.out]; exact HR8.out), hid (by have := hLm.out; omega)⟩, ?_⟩
       have h1 := HL3L.out
       have h2 := hLm.out
       simp only [Sk.lenOf]
       omega
     · have HE : Hid (L.map Rv.core = ((l.drop P).take most.toNat).map (fun d => d.r.core)) := hid (by
         have h2 := HR.out.eq
         have h3 : most.toNat = m := by have := HM.out; have := hLm.out; omega
         rw [h3]; exact h2)
       go_wp2_with fail
       go_ret
       exact ⟨HR.out.bel, OA, oc, L, rfl, HRD.out, HE.out⟩
theorem SkAt.put {base : Nat} {hd : Nd} {l : List Nd} {f : Nat → Nat → Option Nat} {w : World} (h : SkAt base hd l f w) (p : Nat) (hp : p < (hd :: l).length) (lv : Nat) (v : Option Nat) :
   SkAt base hd l (fun p' lv' => if p' = p ∧ lv' = lv then v else f p' lv') (w.setCell ⟨((hd :: l)[p]).nb, lv, none⟩ (ptrV v)) := by
 obtain ⟨hge, cs, hx, hsz, hc⟩ := h.rows p hp
 have ne : ∀ (k : Nat) (ds : Array Value) (T : TypeId), w.heap[k]? = some (Obj.cells ds T) → T ≠ 116 → k ≠ ((hd :: l)[p]).nb := fun k ds T e hT e2 => by
   rw [e2, hx] at e
   injection e with e
   injection e with _ e
   exact hT e.symm
 refine ⟨by simpa using h.size, ?_, h.h12, h.ge, fun d hd2 => ?_, fun p2 hp2 => ?_, h.nd⟩
 · obtain ⟨a, b, e⟩ := h.list
   exact ⟨a, b, by rw [heap_setD _ (ne _ _ _ e (by decide))]; exact e⟩
 · obtain ⟨h1, h2, h3, h4, h5⟩ := h.node d hd2
   exact ⟨h1, by rw [heap_setD _ (ne _ _ _ h2 (by decide))]; exact h2, h3.set_tag hx (by decide) hge, h4.set_tag hx (by decide) hge, h5⟩
 · by_cases e : p2 = p
   · subst e
     refine ⟨hge, cs.setIfInBounds lv (ptrV v), heap_setCell_same w _ lv _ _ _ hx, by simpa using hsz, fun lv2 hlv2 => ?_⟩
     by_cases e2 : lv2 = lv
     · subst e2
       simp [hsz, hlv2]
     · rw [Array.getElem?_setIfInBounds_ne (by omega), hc lv2 hlv2]
       simp [e2]
   · obtain ⟨h1, ds, h2, h3, h4⟩ := h.rows p2 hp2
     refine ⟨h1, ds, ?_, h3, fun lv2 hlv2 => by rw [h4 lv2 hlv2]; simp [e]⟩
     rw [heap_setD _ (fun e2 => e ?_)]
     · exact h2
     · have h6 : ((hd :: l).map Nd.nb)[p2]'(by simpa using hp2) = ((hd :: l).map Nd.nb)[p]'(by simpa using hp) := by
         rw [List.getElem_map, List.getElem_map]; exact e2
       exact (List.getElem_inj h.nd).1 h6
theorem OutQ.snoc {hd : Nd} {l : List Nd} {o : Nat → Nat} {cs : Array Value} (h : OutQ hd l l.length 0 o cs) (d : Nd) (p lv : Nat) (hp : p < (hd :: l).length) (hlv : lv < ((hd :: l)[p]).h) (h12 : lv < 12) : Sk.F (l ++ [d]) p lv = if lv < d.h ∧ p = o lv then some d.g else Sk.F l p lv := by
 obtain ⟨h1, _, _, h4, h5⟩ := h.cell lv (Nat.zero_le _) h12
 have hpl : p ≤ l.length := by simp at hp; omega
 have e : Sk.F (l ++ [d]) p lv = match Sk.F l p lv with | some g => some g | none => if lv < d.h then some d.g else none := by
   unfold Sk.F
   rw [List.drop_append_of_le_length hpl, Sk.nx_snoc]
   cases Sk.nx (l.drop p) lv <;> rfl
 rw [e]
 cases hF : Sk.F l p lv with
 | some g =>
   obtain ⟨q, hpq, hq, _, hv, _⟩ := Sk.F_some hF
   have hne : ¬ (lv < d.h ∧ p = o lv) := fun hh => by
     have := h5 q hq (by omega) hq
     omega
   rw [if_neg hne]
 | none =>
   have hn := Sk.F_none hF
   have hpo : p = o lv := by
     rcases Nat.lt_trichotomy p (o lv) with h6 | h6 | h6
     · obtain ⟨m, hm⟩ : ∃ m, o lv = m + 1 := ⟨o lv - 1, by omega⟩
       have hml : m < l.length := by simp at h1; omega
       have h7 : ((hd :: l)[o lv]).h = (l[m]).h := by simp [hm]
       have := hn m hml (by omega)
       omega
     · exact h6
     · obtain ⟨m, rfl⟩ : ∃ m, p = m + 1 := ⟨p - 1, by omega⟩
       have hml : m < l.length := by omega
       have h7 : ((hd :: l)[m + 1]).h = (l[m]).h := by simp
       have := h5 m hml (by omega) hml
       omega
   by_cases hd2 : lv < d.h
   · exact (if_pos hd2).trans (if_pos ⟨hd2, hpo⟩).symm
   · exact (if_neg hd2).trans (if_neg (fun hh : lv < d.h ∧ p = o lv => hd2 hh.1)).symm
theorem heap_setSame {w : World} {g v : Nat} {cs : Array Value} {T : TypeId} {x : Value} (h : w.heap[g]? = some (.cells cs T)) (hx : cs[v]? = some x) (k : Nat) : (w.setCell ⟨g, v, none⟩ x).heap[k]? = w.heap[k]? := by
 by_cases e : k = g
 · subst e
   have h1 : cs.setIfInBounds v x = cs := by
     apply Array.ext_getElem?
     intro i
     by_cases e : i = v
     · subst e
       have := (Array.getElem?_eq_some_iff.1 hx).1
       rw [Array.getElem?_setIfInBounds_self_of_lt this, hx]
     · rw [Array.getElem?_setIfInBounds_ne (by omega)]
   rw [heap_setCell_same w k v _ _ _ h, h1, h]
 · exact heap_setD _ e
theorem SkAt.same {base : Nat} {hd : Nd} {l : List Nd} {f : Nat → Nat → Option Nat} {w w' : World} (h : SkAt base hd l f w) (hs : w'.heap.size = w.heap.size) (hk : ∀ k : Nat, w'.heap[k]? = w.heap[k]?) : SkAt base hd l f w' := by
 refine ⟨by rw [hs]; exact h.size, ?_, h.h12, h.ge, fun d hd2 => ?_, fun p hp => ?_, h.nd⟩
 · obtain ⟨a, b, e⟩ := h.list
   exact ⟨a, b, (hk _).trans e⟩
 · obtain ⟨h1, h2, h3, h4, h5⟩ := h.node d hd2
   exact ⟨h1, (hk _).trans h2, h3.keep (by omega) (fun _ g _ _ => hk g), h4.keep (by omega) (fun _ g _ _ => hk g), h5⟩
 · obtain ⟨h1, cs, h2, h3⟩ := h.rows p hp
   exact ⟨h1, cs, (hk _).trans h2, h3⟩
def Sk.M (l : List Nd) (o : Nat → Nat) (g v : Nat) (p lv : Nat) : Option Nat := if lv < v ∧ p = o lv then some g else Sk.F l p lv
theorem Sk.M_zero (l : List Nd) (o : Nat → Nat) (g : Nat) : Sk.M l o g 0 = Sk.F l := by
 funext p lv
 unfold Sk.M
 simp
theorem Sk.M_succ (l : List Nd) (o : Nat → Nat) (g v : Nat) : (fun p' lv' => if p' = o v ∧ lv' = v then some g else Sk.M l o g v p' lv') = Sk.M l o g (v + 1) := by
 funext p lv
 unfold Sk.M
 by_cases e : lv = v
 · subst e
   by_cases e2 : p = o lv
   · simp [e2]
   · simp [e2]
 · have h2 : ¬ (p = o v ∧ lv = v) := fun h => e h.2
   rw [if_neg h2]
   by_cases e3 : lv < v ∧ p = o lv
   · rw [if_pos e3, if_pos ⟨by omega, e3.2⟩]
   · rw [if_neg e3, if_neg (fun h : lv < v + 1 ∧ p = o lv => e3 ⟨by omega, h.2⟩)]
structure PutR (base : Nat) (hd : Nd) (l : List Nd) (o : Nat → Nat) (cs : Array Value) (r : Rv) (n gr ga gx : Nat) (R : Array Value) (v : Nat) (w0 w : World) : Prop where
 sk : SkAt base hd l (Sk.M l o (gr + 1) v) w
 row : w.heap[gr]? = some (.cells (Array.replicate n (.pointer none)) 116)
 node : w.heap[gr + 1]? = some (.cells #[.slice r.kA r.k.length r.kc, .int .i64 r.seq, .bool r.del, .slice r.vA r.v.length r.vc, .slice (some ⟨gr, 0, none⟩) n n] 113)
 ah : w.heap[ga]? = some (.cells cs 117)
 rec_ : w.heap[gx]? = some (.cells R 35)
 kk : HBs w base r.kA r.k
 vv : HBs w base r.vA r.v
 bel : Below base w0 w
 ge : base ≤ gr
 nbs : ∀ d ∈ hd :: l, d.nb < gr
section
variable {base : Nat} {hd : Nd} {l : List Nd} {o : Nat → Nat} {cs : Array Value} {r : Rv} {n gr ga gx : Nat} {R : Array Value} {v : Nat} {w0 w : World}
theorem PutR.step (h : PutR base hd l o cs r n gr ga gx R v w0 w) (hv : v < n) (p : Nat) (hp : p < (hd :: l).length) (hpo : p = o v) :
   PutR base hd l o cs r n gr ga gx R (v + 1) w0 ((w.setCell ⟨gr, v, none⟩ (.pointer none)).setCell ⟨((hd :: l)[p]).nb, v, none⟩ (.pointer (some ⟨gr + 1, 0, none⟩))) := by
 have hk := heap_setSame (v := v) (x := .pointer none) h.row (by rw [Array.getElem?_replicate]; simp [hv])
 have s1 := h.sk.same (w' := w.setCell ⟨gr, v, none⟩ (.pointer none)) (by simp) hk
 have s2 := s1.put p hp v (some (gr + 1))
 subst hpo
 rw [Sk.M_succ] at s2
 obtain ⟨hge, ds, hx, _, _⟩ := s1.rows (o v) hp
 have hnb := h.nbs _ (List.getElem_mem hp)
 have ne : ∀ (k : Nat) (ds : Array Value) (T : TypeId), w.heap[k]? = some (Obj.cells ds T) → T ≠ 116 → ((w.setCell ⟨gr, v, none⟩ (.pointer none)).setCell ⟨((hd :: l)[o v]).nb, v, none⟩ (.pointer (some ⟨gr + 1, 0, none⟩))).heap[k]? = some (Obj.cells ds T) := fun k ds T e hT => by
   rw [heap_setD _ (fun e2 => by
     rw [← hk, e2, hx] at e
     injection e with e
     injection e with _ e
     exact hT e.symm), hk]
   exact e
 refine ⟨s2, ?_, ne _ _ _ h.node (by decide), ne _ _ _ h.ah (by decide), ne _ _ _ h.rec_ (by decide), ?_, ?_, (h.bel.setCell h.ge _).setCell hge _, h.ge, h.nbs⟩
 · rw [heap_setD _ (Nat.ne_of_gt hnb), hk]; exact h.row
 · exact (h.kk.keep (by simp) (fun _ g _ _ => hk g)).set_tag hx (by decide) hge
 · exact (h.vv.keep (by simp) (fun _ g _ _ => hk g)).set_tag hx (by decide) hge
theorem PutR.call {w' : World} (h : PutR base hd l o cs r n gr ga gx R v w0 w) (hb : Below w.heap.size w w') : PutR base hd l o cs r n gr ga gx R v w0 w' := by
 have key : ∀ k o, w.heap[k]? = some o → w'.heap[k]? = some o := fun k o e => (hb.block k (Array.getElem?_eq_some_iff.1 e).1).trans e
 exact ⟨h.sk.call hb, key _ _ h.row, key _ _ h.node, key _ _ h.ah, key _ _ h.rec_, h.kk.below hb, h.vv.below hb, h.bel.trans (hb.mono h.sk.size), h.ge, h.nbs⟩
theorem PutR.fin (h : PutR base hd l o cs r n gr ga gx R n w0 w) (ho : OutQ hd l l.length 0 o cs) (hn1 : 1 ≤ n) (hn2 : n ≤ 12) (hkc : r.k.length ≤ r.kc) (hvc : r.v.length ≤ r.vc) (hkl : r.k.length ≤ 70000) (hvl : r.v.length ≤ 70000) (a b : Int) {W : World} (hz : W.heap.size = w.heap.size) (hk : ∀ k : Nat, k ≠ hd.g → W.heap[k]? = w.heap[k]?)
   (hg : W.heap[hd.g]? = some (.cells #[.slice none 0 0, .int .i64 0, .bool false, .slice none 0 0, .slice (some ⟨hd.nb, 0, none⟩) 12 12, .int .i64 a, .int .i64 ((l.length : Int) + 1), .int .i64 b] 115)) :
   SkAt base hd (l ++ [⟨gr + 1, gr, n, r⟩]) (Sk.F (l ++ [⟨gr + 1, gr, n, r⟩])) W := by
 obtain ⟨d, hd2⟩ : ∃ d, d = (⟨gr + 1, gr, n, r⟩ : Nd) := ⟨_, rfl⟩
 have dg : d.g = gr + 1 := by rw [hd2]
 have dnb : d.nb = gr := by rw [hd2]
 have dh : d.h = n := by rw [hd2]
 have dr : d.r = r := by rw [hd2]
 rw [← hd2]
 obtain ⟨x, y, hl⟩ := h.sk.list
 have ne : ∀ (k : Nat) (ds : Array Value) (T : TypeId), w.heap[k]? = some (Obj.cells ds T) → T ≠ 115 → W.heap[k]? = some (Obj.cells ds T) := fun k ds T e hT => by
   rw [hk k (fun e2 => by
     rw [e2, hl] at e
     injection e with e
     injection e with _ e
     exact hT e.symm)]
   exact e
 have hbs : ∀ {A : Option Addr} {q : List UInt8}, HBs w base A q → HBs W base A q := fun hq => hq.keep (by omega) (fun hne g hg2 _ => hk g (fun e => by
   rcases hq.at_ hne g hg2 with h3 | ⟨cs, fr, h3⟩
   · have := h.sk.ge; omega
   · rw [e, hl] at h3
     injection h3 with h3
     injection h3 with _ h3
     exact absurd h3 (by decide)))
 refine ⟨by rw [hz]; exact h.sk.size, ⟨a, b, by rw [hg, List.length_append]; rfl⟩, h.sk.h12, h.sk.ge, fun e he => ?_, fun p hp => ?_, ?_⟩
 · rw [List.mem_append, List.mem_singleton] at he
   rcases he with he | he
   · obtain ⟨h1, h2, h3, h4, h5⟩ := h.sk.node e he
     exact ⟨h1, ne _ _ _ h2 (by decide), hbs h3, hbs h4, h5⟩
   · subst he
     rw [dg, dr, dh, dnb]
     exact ⟨by have := h.ge; omega, ne _ _ _ h.node (by decide), hbs h.kk, hbs h.vv, hkc, hvc, hn1, hn2, hkl, hvl⟩
 · by_cases hpl : p < (hd :: l).length
   · have e : (hd :: (l ++ [d]))[p] = (hd :: l)[p] := by
       have : (hd :: (l ++ [d])) = (hd :: l) ++ [d] := rfl
       simp only [this]
       exact List.getElem_append_left hpl
     rw [e]
     obtain ⟨h1, ds, h2, h3, h4⟩ := h.sk.rows p hpl
     refine ⟨h1, ds, ne _ _ _ h2 (by decide), h3, fun lv hlv => ?_⟩
     have h12 : lv < 12 := by
       cases p with
       | zero => have := h.sk.h12; simp at hlv; omega
       | succ p =>
         have := (h.sk.node _ (List.getElem_mem (show p < l.length by simpa using hpl))).2.2.2.2.2.2.2.1
         simp only [List.getElem_cons_succ] at hlv
         omega
     rw [h4 lv hlv, ho.snoc d p lv hpl hlv h12, dh, dg]
     rfl
   · obtain rfl : p = l.length + 1 := by simp at hp hpl; omega
     have e : (hd :: (l ++ [d]))[l.length + 1] = d := by simp
     rw [e, dnb, dh]
     refine ⟨h.ge, _, ne _ _ _ h.row (by decide), by simp, fun lv hlv => ?_⟩
     rw [Array.getElem?_replicate, if_pos hlv]
     unfold Sk.F
     rw [List.drop_eq_nil_of_le (by simp)]
     rfl
 · have : (hd :: (l ++ [d])).map Nd.nb = (hd :: l).map Nd.nb ++ [gr] := by
     simp [dnb]
   rw [this, List.nodup_append]
   refine ⟨h.sk.nd, by simp, fun x hx y hy => ?_⟩
   rw [List.mem_map] at hx
   obtain ⟨z, hz, rfl⟩ := hx
   have := h.nbs z hz
   rw [List.mem_singleton] at hy
   omega
end
def SpQ (base : Nat) (hd : Nd) (l : List Nd) (r : Rv) (w : World) (e : Ending) (w' : World) : Prop := e = .returned (.int .i64 0) ∧ Below base w w' ∧ ∃ d : Nd, d.r.core = r.core ∧ SkAt base hd (l ++ [d]) (Sk.F (l ++ [d])) w'
set_option maxHeartbeats 2000000 in
set_option maxRecDepth 100000 in
theorem sput_any (base : Nat) (hd : Nd) (l : List Nd) (r : Rv) (x : Int) (hx0 : 0 ≤ x) (hx1 : x ≤ 100000) (hln : l.length ≤ 100000) (w : World) (h : SkAt base hd l (Sk.F l) w) (hk : RdB w w.heap.size r.kA r.k) (hv : RdB w w.heap.size r.vA r.v) (hkl : r.k.length ≤ 70000) (hvl : r.v.length ≤ 70000) (hr : Tb.right r = true)
   (hs : ∀ i (hi : i < l.length), Tb.orI [Lib.compareBytes l[i].r.k r.k, Tb.cmpI r.seq l[i].r.seq] < 0) :
   Calls Tryz.prog 15 #[.pointer (some ⟨hd.g, 0, none⟩), r.val, .int .i64 x] w (SpQ base hd l r w) := by
 obtain ⟨kA, kc, k, seq, del, vA, vc, v⟩ := r
 simp only at hk hv hkl hvl hs
 have HRT := hid (fun X => srightT_all ⟨kA, kc, k, seq, del, vA, vc, v⟩ X)
 rw [hr] at HRT
 simp only [Rv.val] at HRT ⊢
 have H := hid h
 have HK := hid hk
 have HV := hid hv
 have HS := hid hs
 clear h hk hv hs hr
 go_enter Tryz.func15, Tryz.ntmps15
 go_wp2_with fail
 obtain ⟨R, hR⟩ : ∃ R, R = Obj.cells #[.slice kA k.length kc, .int .i64 seq, .bool del, .slice vA v.length vc] 35 := ⟨_, rfl⟩
 have hbw : Below w.heap.size w (w.alloc R) := (Below.refl _ _).alloc (Nat.le_refl _) _
 have HX0 : Hid ((w.alloc R).heap[w.heap.size]? = some R) := hid (heap_alloc_new w R)
 rw [hR] at HX0 hbw
 refine (HRT.out _).mono ?_
 rintro e w1 ⟨rfl, hb1⟩
 have HB1 : Hid (Below w.heap.size w w1) := hid (hbw.trans (hb1.mono (by simp)))
 have HX1 : Hid (w1.heap[w.heap.size]? = some (.cells #[.slice kA k.length kc, .int .i64 seq, .bool del, .slice vA v.length vc] 35)) := hid ((hb1.block _ (by simp)).trans HX0.out)
 have HBH := hid (behind_any base hd l kA kc k seq l.length w1 (H.out.call HB1.out) ((HK.out.below HB1.out (Nat.le_refl _)).more HB1.out.size) (fun i hi => ⟨fun _ => hi, fun _ => HS.out i hi⟩))
 obtain ⟨z0, z1, z2, z3⟩ := rfacts HX1.out
 clear hb1 hbw hR HX0
 go_wp2_with fail
 refine HBH.out.mono ?_
 rintro e w2 ⟨o, cs, rfl, ho, hb2⟩
 have HB2 : Hid (Below w.heap.size w w2) := hid (HB1.out.trans (hb2.mono HB1.out.size))
 have HX2 : Hid (w2.heap[w.heap.size]? = some (.cells #[.slice kA k.length kc, .int .i64 seq, .bool del, .slice vA v.length vc] 35)) := hid ((hb2.block _ (Array.getElem?_eq_some_iff.1 HX1.out).1).trans HX1.out)
 clear z0 z1 z2 z3 hb2
 obtain ⟨z0, z1, z2, z3⟩ := rfacts HX2.out
 have HO := hid ho
 obtain ⟨hp, e0⟩ := ho.zero H.out (Nat.le_refl _)
 obtain ⟨x0, x1, x2, x3, x4, x5, x6, x7, x8, x9, x10, x11, rfl⟩ := arr12 cs ho.size
 have H2 := hid (H.out.call HB2.out)
 obtain rfl := Option.some.inj e0
 obtain ⟨p1, rfl⟩ : ∃ p, x1 = .pointer p := by
   obtain ⟨_, e, _⟩ := HO.out.cell 1 (by omega) (by omega)
   exact ⟨_, Option.some.inj e⟩
 obtain ⟨p2, rfl⟩ : ∃ p, x2 = .pointer p := by
   obtain ⟨_, e, _⟩ := HO.out.cell 2 (by omega) (by omega)
   exact ⟨_, Option.some.inj e⟩
 obtain ⟨p3, rfl⟩ : ∃ p, x3 = .pointer p := by
   obtain ⟨_, e, _⟩ := HO.out.cell 3 (by omega) (by omega)
   exact ⟨_, Option.some.inj e⟩
 obtain ⟨p4, rfl⟩ : ∃ p, x4 = .pointer p := by
   obtain ⟨_, e, _⟩ := HO.out.cell 4 (by omega) (by omega)
   exact ⟨_, Option.some.inj e⟩
 obtain ⟨p5, rfl⟩ : ∃ p, x5 = .pointer p := by
   obtain ⟨_, e, _⟩ := HO.out.cell 5 (by omega) (by omega)
   exact ⟨_, Option.some.inj e⟩
 obtain ⟨p6, rfl⟩ : ∃ p, x6 = .pointer p := by
   obtain ⟨_, e, _⟩ := HO.out.cell 6 (by omega) (by omega)
   exact ⟨_, Option.some.inj e⟩
 obtain ⟨p7, rfl⟩ : ∃ p, x7 = .pointer p := by
   obtain ⟨_, e, _⟩ := HO.out.cell 7 (by omega) (by omega)
   exact ⟨_, Option.some.inj e⟩
 obtain ⟨p8, rfl⟩ : ∃ p, x8 = .pointer p := by
   obtain ⟨_, e, _⟩ := HO.out.cell 8 (by omega) (by omega)
   exact ⟨_, Option.some.inj e⟩
 obtain ⟨p9, rfl⟩ : ∃ p, x9 = .pointer p := by
   obtain ⟨_, e, _⟩ := HO.out.cell 9 (by omega) (by omega)
   exact ⟨_, Option.some.inj e⟩
 obtain ⟨p10, rfl⟩ : ∃ p, x10 = .pointer p := by
   obtain ⟨_, e, _⟩ := HO.out.cell 10 (by omega) (by omega)
   exact ⟨_, Option.some.inj e⟩
 obtain ⟨p11, rfl⟩ : ∃ p, x11 = .pointer p := by
   obtain ⟨_, e, _⟩ := HO.out.cell 11 (by omega) (by omega)
   exact ⟨_, Option.some.inj e⟩
 clear ho
 have HB3 : Hid (Below w.heap.size w (w2.alloc (.cells #[.pointer (some ⟨((hd :: l)[l.length]).g, 0, none⟩), .pointer p1, .pointer p2, .pointer p3, .pointer p4, .pointer p5, .pointer p6, .pointer p7, .pointer p8, .pointer p9, .pointer p10, .pointer p11] 117))) := hid (HB2.out.alloc HB2.out.size _)
 have HX3 : Hid ((w2.alloc (.cells #[.pointer (some ⟨((hd :: l)[l.length]).g, 0, none⟩), .pointer p1, .pointer p2, .pointer p3, .pointer p4, .pointer p5, .pointer p6, .pointer p7, .pointer p8, .pointer p9, .pointer p10, .pointer p11] 117)).heap[w.heap.size]? = some (.cells #[.slice kA k.length kc, .int .i64 seq, .bool del, .slice vA v.length vc] 35)) := hid ((((Below.refl w2.heap.size w2).alloc (Nat.le_refl _) _).block _ (Array.getElem?_eq_some_iff.1 HX2.out).1).trans HX2.out)
 have H3 := hid (H.out.call HB3.out)
 obtain ⟨x4, xr, hgz2, hnz2⟩ := H3.out.look l.length hp
 have hh0 : 0 < ((hd :: l)[l.length]).h := by
   cases l with
   | nil => simp [H.out.h12]
   | cons d t => exact (H.out.node _ (List.getElem_mem (show t.length < (d :: t).length by simp))).2.2.2.2.2.2.1
 have xv := xr 0 hh0
 rw [show Sk.F l l.length 0 = none by unfold Sk.F Sk.nx; simp] at xv
 simp only [ptrV] at xv
 clear xr z0 z1 z2 z3
 obtain ⟨z0, z1, z2, z3⟩ := rfacts HX3.out
 have HCP : Hid (∀ X, Below w.heap.size w X → Calls Tryz.prog 50 #[.agg #[.slice kA k.length kc, .int .i64 seq, .bool del, .slice vA v.length vc]] X (CpdQ X ⟨kA, kc, k, seq, del, vA, vc, v⟩)) := hid (fun X hX => scopied_any ⟨kA, kc, k, seq, del, vA, vc, v⟩ X ((HK.out.below hX (Nat.le_refl _)).more hX.size) ((HV.out.below hX (Nat.le_refl _)).more hX.size) (by simp only; omega) (by simp only; omega))
 go_wp2_with fail
 refine (HCP.out _ HB3.out).mono ?_
 rintro e w4 ⟨hb4, ⟨pA, pc, pk, pseq, pdel, pvA, pvc, pv⟩, rfl, hc, ho1, ho2⟩
 have HCR := hid hc
 have hz3 : w.heap.size + 1 ≤ w4.heap.size := by have h1 := hb4.size; have h2 := HB2.out.size; have h3 := (Array.getElem?_eq_some_iff.1 HX2.out).1; simp at h1; omega
 have HB4 : Hid (Below w.heap.size w w4) := hid (HB3.out.trans (hb4.mono HB3.out.size))
 have HX4 : Hid (w4.heap[w.heap.size]? = some (.cells #[.slice kA k.length kc, .int .i64 seq, .bool del, .slice vA v.length vc] 35)) := hid ((hb4.block _ (Array.getElem?_eq_some_iff.1 HX3.out).1).trans HX3.out)
 have HA4 : Hid (w4.heap[w2.heap.size]? = some (.cells #[.pointer (some ⟨((hd :: l)[l.length]).g, 0, none⟩), .pointer p1, .pointer p2, .pointer p3, .pointer p4, .pointer p5, .pointer p6, .pointer p7, .pointer p8, .pointer p9, .pointer p10, .pointer p11] 117)) := hid ((hb4.block _ (by simp)).trans (heap_alloc_new w2 _))
 have HO1 := hid (ho1.mono HB3.out.size)
 have HO2 := hid (ho2.mono HB3.out.size)
 simp only [Rv.val]
 clear hb4 ho1 ho2 hc x4 xv hgz2 hnz2 z0 z1 z2 z3
 go_wp2_with fail
 refine (levels_any x hx0 hx1 w4).mono ?_
 rintro e w5 ⟨⟨n, rfl, hn1, hn2⟩, rfl⟩
 have mk1 : ∀ w : World, (Instr.makeSlice 111 (.int .i64 1) (.int .i64 1)).run Tryz.prog w = .ok (.slice (some ⟨w.heap.size, 0, none⟩) 1 1) (w.alloc (.cells (Array.replicate 1 (.pointer none)) 116)) := fun _ => by kernel_rfl
 have mk2 : ∀ w : World, (Instr.makeSlice 111 (.int .i64 2) (.int .i64 2)).run Tryz.prog w = .ok (.slice (some ⟨w.heap.size, 0, none⟩) 2 2) (w.alloc (.cells (Array.replicate 2 (.pointer none)) 116)) := fun _ => by kernel_rfl
 have mk3 : ∀ w : World, (Instr.makeSlice 111 (.int .i64 3) (.int .i64 3)).run Tryz.prog w = .ok (.slice (some ⟨w.heap.size, 0, none⟩) 3 3) (w.alloc (.cells (Array.replicate 3 (.pointer none)) 116)) := fun _ => by kernel_rfl
 have mk4 : ∀ w : World, (Instr.makeSlice 111 (.int .i64 4) (.int .i64 4)).run Tryz.prog w = .ok (.slice (some ⟨w.heap.size, 0, none⟩) 4 4) (w.alloc (.cells (Array.replicate 4 (.pointer none)) 116)) := fun _ => by kernel_rfl
 have mk5 : ∀ w : World, (Instr.makeSlice 111 (.int .i64 5) (.int .i64 5)).run Tryz.prog w = .ok (.slice (some ⟨w.heap.size, 0, none⟩) 5 5) (w.alloc (.cells (Array.replicate 5 (.pointer none)) 116)) := fun _ => by kernel_rfl
 have mk6 : ∀ w : World, (Instr.makeSlice 111 (.int .i64 6) (.int .i64 6)).run Tryz.prog w = .ok (.slice (some ⟨w.heap.size, 0, none⟩) 6 6) (w.alloc (.cells (Array.replicate 6 (.pointer none)) 116)) := fun _ => by kernel_rfl
 have mk7 : ∀ w : World, (Instr.makeSlice 111 (.int .i64 7) (.int .i64 7)).run Tryz.prog w = .ok (.slice (some ⟨w.heap.size, 0, none⟩) 7 7) (w.alloc (.cells (Array.replicate 7 (.pointer none)) 116)) := fun _ => by kernel_rfl
 have mk8 : ∀ w : World, (Instr.makeSlice 111 (.int .i64 8) (.int .i64 8)).run Tryz.prog w = .ok (.slice (some ⟨w.heap.size, 0, none⟩) 8 8) (w.alloc (.cells (Array.replicate 8 (.pointer none)) 116)) := fun _ => by kernel_rfl
 have mk9 : ∀ w : World, (Instr.makeSlice 111 (.int .i64 9) (.int .i64 9)).run Tryz.prog w = .ok (.slice (some ⟨w.heap.size, 0, none⟩) 9 9) (w.alloc (.cells (Array.replicate 9 (.pointer none)) 116)) := fun _ => by kernel_rfl
 have mk10 : ∀ w : World, (Instr.makeSlice 111 (.int .i64 10) (.int .i64 10)).run Tryz.prog w = .ok (.slice (some ⟨w.heap.size, 0, none⟩) 10 10) (w.alloc (.cells (Array.replicate 10 (.pointer none)) 116)) := fun _ => by kernel_rfl
 have mk11 : ∀ w : World, (Instr.makeSlice 111 (.int .i64 11) (.int .i64 11)).run Tryz.prog w = .ok (.slice (some ⟨w.heap.size, 0, none⟩) 11 11) (w.alloc (.cells (Array.replicate 11 (.pointer none)) 116)) := fun _ => by kernel_rfl
 have mk12 : ∀ w : World, (Instr.makeSlice 111 (.int .i64 12) (.int .i64 12)).run Tryz.prog w = .ok (.slice (some ⟨w.heap.size, 0, none⟩) 12 12) (w.alloc (.cells (Array.replicate 12 (.pointer none)) 116)) := fun _ => by kernel_rfl
 have hmk : ∀ (n : Nat), 1 ≤ n → n ≤ 12 → ∀ w : World, (Instr.makeSlice 111 (.int .i64 (n : Int)) (.int .i64 (n : Int))).run Tryz.prog w = .ok (.slice (some ⟨w.heap.size, 0, none⟩) n n) (w.alloc (.cells (Array.replicate n (.pointer none)) 116)) := fun n h1 h2 w => by
   have : n = 1 ∨ n = 2 ∨ n = 3 ∨ n = 4 ∨ n = 5 ∨ n = 6 ∨ n = 7 ∨ n = 8 ∨ n = 9 ∨ n = 10 ∨ n = 11 ∨ n = 12 := by omega
   rcases this with rfl | rfl | rfl | rfl | rfl | rfl | rfl | rfl | rfl | rfl | rfl | rfl
   · exact mk1 w
   · exact mk2 w
   · exact mk3 w
   · exact mk4 w
   · exact mk5 w
   · exact mk6 w
   · exact mk7 w
   · exact mk8 w
   · exact mk9 w
   · exact mk10 w
   · exact mk11 w
   · exact mk12 w
 clear mk1 mk2 mk3 mk4 mk5 mk6 mk7 mk8 mk9 mk10 mk11 mk12
 have hmk := hmk n hn1 hn2
 go_wp2_with fail
 have HST : Hid (PutR base hd l o #[.pointer (some ⟨((hd :: l)[l.length]).g, 0, none⟩), .pointer p1, .pointer p2, .pointer p3, .pointer p4, .pointer p5, .pointer p6, .pointer p7, .pointer p8, .pointer p9, .pointer p10, .pointer p11] ⟨pA, pc, pk, pseq, pdel, pvA, pvc, pv⟩ n w4.heap.size w2.heap.size w.heap.size #[.slice kA k.length kc, .int .i64 seq, .bool del, .slice vA v.length vc] 0 w ((w4.alloc (.cells (Array.replicate n (.pointer none)) 116)).alloc (.cells #[.slice pA pk.length pc, .int .i64 pseq, .bool pdel, .slice pvA pv.length pvc, .slice (some ⟨w4.heap.size, 0, none⟩) n n] 113))) := hid (by
   obtain ⟨R1, hR1⟩ : ∃ R1, R1 = Obj.cells (Array.replicate n (.pointer none)) 116 := ⟨_, rfl⟩
   obtain ⟨R2, hR2⟩ : ∃ R2, R2 = Obj.cells #[.slice pA pk.length pc, .int .i64 pseq, .bool pdel, .slice pvA pv.length pvc, .slice (some ⟨w4.heap.size, 0, none⟩) n n] 113 := ⟨_, rfl⟩
   rw [← hR1, ← hR2]
   have hbW : Below w4.heap.size w4 ((w4.alloc R1).alloc R2) := below_al2 w4 R1 R2
   have hBW : Below w.heap.size w ((w4.alloc R1).alloc R2) := HB4.out.trans (hbW.mono HB4.out.size)
   have hbz := H.out.size
   have h4z := HB4.out.size
   refine ⟨by rw [Sk.M_zero]; exact H.out.call hBW, ?_, ?_, (hbW.block _ (Array.getElem?_eq_some_iff.1 HA4.out).1).trans HA4.out, (hbW.block _ (Array.getElem?_eq_some_iff.1 HX4.out).1).trans HX4.out, HO1.out.hbs.below hbW, HO2.out.hbs.below hbW, hBW.mono hbz, by omega, fun e he => ?_⟩
   · rw [← hR1]
     exact (((Below.refl _ _).alloc (Nat.le_refl _) _).block _ (by simp)).trans (heap_alloc_new w4 _)
   · have := heap_alloc_new (w4.alloc R1) R2
     rw [show (w4.alloc R1).heap.size = w4.heap.size + 1 by simp] at this
     rw [← hR2]
     exact this
   · obtain ⟨p, hp, rfl⟩ := List.mem_iff_getElem.1 he
     have := (H.out.look p hp).2.2.2
     omega)
 go_loopw [10, 50] (fun _ ix wr => ∃ m : Nat, m ≤ n ∧ ix = .int .i64 (m : Int) ∧ Hid (PutR base hd l o #[.pointer (some ⟨((hd :: l)[l.length]).g, 0, none⟩), .pointer p1, .pointer p2, .pointer p3, .pointer p4, .pointer p5, .pointer p6, .pointer p7, .pointer p8, .pointer p9, .pointer p10, .pointer p11] ⟨pA, pc, pk, pseq, pdel, pvA, pvc, pv⟩ n w4.heap.size w2.heap.size w.heap.size #[.slice kA k.length kc, .int .i64 seq, .bool del, .slice vA v.length vc] m w wr)) (fun _ ix _ => n - (intOf ix).toNat)
 case atStart => exact ⟨0, by omega, rfl, HST⟩
 case round =>
   obtain ⟨m, hm, rfl, HP⟩ := hrel
   by_cases hlt : m < n
   · obtain ⟨V, hV⟩ : ∃ V, wr.drew = V := ⟨_, rfl⟩
     have hwV : Below wr.heap.size wr V := by rw [← hV]; exact (Below.refl _ _).drew
     have HPV := hid (HP.out.call hwV)
     obtain ⟨h1, hcs, _, hvh, h5⟩ := HO.out.cell m (Nat.zero_le _) (by omega)
     have c7 := cell_of_row V w2.heap.size m _ _ (0, 0) HPV.out.ah
     rw [hcs] at c7
     obtain ⟨x4, xr, hgz, hnz⟩ := HPV.out.sk.look (o m) h1
     have xv := xr m hvh
     have hF : Sk.M l o (w4.heap.size + 1) m (o m) m = none := by
       unfold Sk.M
       rw [if_neg (by omega)]
       cases hF : Sk.F l (o m) m with
       | none => rfl
       | some g =>
         obtain ⟨q, hq1, hq2, _, hq3, _⟩ := Sk.F_some hF
         have := h5 q hq2 hq1 hq2
         omega
     rw [hF] at xv
     simp only [ptrV] at xv
     have y4 := cell_of_row V (w4.heap.size + 1) 4 _ _ (0, 0) HPV.out.node
     simp only [List.getElem?_toArray, List.getElem?_cons_zero, List.getElem?_cons_succ] at y4
     have r0 := cell_of_row V w4.heap.size m _ _ (0, 0) HPV.out.row
     rw [Array.getElem?_replicate, if_pos hlt] at r0
     have r1 := frozen_of_row V w4.heap.size m _ _ HPV.out.row
     obtain ⟨_, ds, hds, _, _⟩ := HPV.out.sk.rows (o m) h1
     have r2 := frozen_of_row V ((hd :: l)[o m]).nb m _ _ hds
     have hgl := (H.out.look (o m) h1).2.2.1
     have hnl := (H.out.look (o m) h1).2.2.2
     obtain ⟨g, hg⟩ : ∃ g, g = ((hd :: l)[o m]).g := ⟨_, rfl⟩
     obtain ⟨nb, hnb⟩ : ∃ nb, nb = ((hd :: l)[o m]).nb := ⟨_, rfl⟩
     obtain ⟨hh, hhh⟩ : ∃ hh, hh = ((hd :: l)[o m]).h := ⟨_, rfl⟩
     have HN := hid hnb
     rw [← hg] at c7 x4 hgz hgl
     rw [← hnb] at x4 xv r2 hnz hnl
     rw [← hhh] at x4 hvh
     have HL : Hid (w.heap.size < w2.heap.size ∧ w2.heap.size < w4.heap.size) := hid ⟨(Array.getElem?_eq_some_iff.1 HX2.out).1, (Array.getElem?_eq_some_iff.1 HA4.out).1⟩
     have n1 : ¬ w2.heap.size = w4.heap.size := by have := HL.out; omega
     have n2 : ¬ g = w4.heap.size := by have := HL.out; omega
     have n3 : ¬ nb = w4.heap.size := by have := HL.out; omega
     have q0 : (0 : Int) ≤ (m : Int) := by omega
     have q1 : (m : Int) < 12 := by omega
     have q2 : (m : Int) < (hh : Int) := by omega
     have q3 : (m : Int) < (n : Int) := by omega
     clear hcs xr h5 hF hg hnb hhh hds hwV
     go_wp2_with fail
     refine region_still_tail 14 (by kernel_rfl) (by kernel_rfl) hV ?_
     clear hV
     simp only [List.take_succ_cons, List.take_zero, List.drop_succ_cons, List.drop_zero]
     repeat still_step
     refine wpStill_nil ?_
     go_wp2_with fail
     exact ⟨⟨m + 1, hlt, by simp, hid (by rw [HN.out]; exact HPV.out.step hlt (o m) h1 rfl)⟩, by simp only [intOf]; omega⟩
   · obtain rfl : m = n := by omega
     obtain ⟨V, hV⟩ : ∃ V, wr.drew = V := ⟨_, rfl⟩
     have hwV : Below wr.heap.size wr V := by rw [← hV]; exact (Below.refl _ _).drew
     have HPV := hid (HP.out.call hwV)
     obtain ⟨hgt, sz, hl⟩ := HPV.out.sk.list
     have l5 := cell_of_row V hd.g 5 _ _ (0, 0) hl
     have l6 := cell_of_row V hd.g 6 _ _ (0, 0) hl
     have l7 := cell_of_row V hd.g 7 _ _ (0, 0) hl
     have y4 := cell_of_row V (w4.heap.size + 1) 4 _ _ (0, 0) HPV.out.node
     have f5 := frozen_of_row V hd.g 5 _ _ hl
     have f6 := frozen_of_row V hd.g 6 _ _ hl
     have f7 := frozen_of_row V hd.g 7 _ _ hl
     simp only [List.getElem?_toArray, List.getElem?_cons_zero, List.getElem?_cons_succ] at l5 l6 l7 y4
     have HLL := hid hl
     have hgw : ¬ hd.g = w.heap.size := by
       obtain ⟨a, b, e⟩ := H.out.list
       have := (Array.getElem?_eq_some_iff.1 e).1
       omega
     clear hl hwV
     go_wp2_with fail
     refine region_still_tail 11 (by kernel_rfl) (by kernel_rfl) hV ?_
     clear hV
     simp only [List.take_succ_cons, List.take_zero, List.drop_succ_cons, List.drop_zero]
     repeat still_step
     refine wpStill_nil ?_
     go_wp2_with fail
     obtain ⟨Y, hY⟩ : ∃ Y, ((V.setCell ⟨hd.g, 5, none⟩ (.int .i64 (max hgt (m : Int)))).setCell ⟨hd.g, 6, none⟩ (.int .i64 ((l.length : Int) + 1))) = Y := ⟨_, rfl⟩
     have HYG : Hid (Y.heap.size = V.heap.size ∧ (∀ k : Nat, k ≠ hd.g → Y.heap[k]? = V.heap[k]?) ∧ Y.heap[hd.g]? = some (.cells #[.slice none 0 0, .int .i64 0, .bool false, .slice none 0 0, .slice (some ⟨hd.nb, 0, none⟩) 12 12, .int .i64 (max hgt (m : Int)), .int .i64 ((l.length : Int) + 1), .int .i64 sz] 115) ∧ Below base V Y) := hid (by
       have h0 := heap_setCell_same V hd.g 5 _ _ (.int .i64 (max hgt (m : Int))) HLL.out
       have h1 := heap_setCell_same _ hd.g 6 _ _ (.int .i64 ((l.length : Int) + 1)) h0
       rw [← hY]
       refine ⟨by simp, fun k hk => by rw [heap_setD _ hk, heap_setD _ hk], by simpa using h1, ((Below.refl _ _).setCell H.out.ge _).setCell H.out.ge _⟩)
     rw [hY]
     obtain ⟨Z, hZ⟩ : ∃ Z, Y.drew = Z := ⟨_, rfl⟩
     have HZG : Hid (Z.heap.size = V.heap.size ∧ (∀ k : Nat, k ≠ hd.g → Z.heap[k]? = V.heap[k]?) ∧ Z.heap[hd.g]? = some (.cells #[.slice none 0 0, .int .i64 0, .bool false, .slice none 0 0, .slice (some ⟨hd.nb, 0, none⟩) 12 12, .int .i64 (max hgt (m : Int)), .int .i64 ((l.length : Int) + 1), .int .i64 sz] 115) ∧ Below base V Z) := hid (by
       rw [← hZ]
       exact ⟨HYG.out.1, HYG.out.2.1, HYG.out.2.2.1, HYG.out.2.2.2.drew⟩)
     have t7 := cell_of_row Z hd.g 7 _ _ (0, 0) HZG.out.2.2.1
     have g7 := frozen_of_row Z hd.g 7 _ _ HZG.out.2.2.1
     have HRZ : Hid (Z.heap[w.heap.size]? = some (.cells #[.slice kA k.length kc, .int .i64 seq, .bool del, .slice vA v.length vc] 35)) := hid ((HZG.out.2.1 _ (fun e => hgw e.symm)).trans HPV.out.rec_)
     obtain ⟨z0, _, _, z3⟩ := rfacts HRZ.out
     simp only [List.getElem?_toArray, List.getElem?_cons_zero, List.getElem?_cons_succ] at t7
     clear hY l5 l6 l7 f5 f6 f7
     refine region_still_tail 13 (by kernel_rfl) (by kernel_rfl) hZ ?_
     clear hZ
     simp only [List.take_succ_cons, List.take_zero, List.drop_succ_cons, List.drop_zero]
     repeat still_step
     refine wpStill_nil ?_
     go_wp2_with fail
     go_ret
     obtain ⟨E, hE⟩ : ∃ E, E = wrap64 (sz + ((k.length : Int) + (v.length : Int) + 16)) := ⟨_, rfl⟩
     rw [← hE]
     have hco := HCR.out
     unfold Rv.core at hco
     injection hco with e1 hco; injection hco with e2 hco; injection hco with e3 e4
     simp only at e1 e2 e3 e4
     refine ⟨rfl, (HPV.out.bel.trans HZG.out.2.2.2).setCell H.out.ge _, ⟨w4.heap.size + 1, w4.heap.size, m, ⟨pA, pc, pk, pseq, pdel, pvA, pvc, pv⟩⟩, HCR.out, HPV.out.fin HO.out hn1 hn2 HO1.out.cap HO2.out.cap (by simp only; rw [e1]; exact hkl) (by simp only; rw [e4]; exact hvl) (max hgt (m : Int)) E (by simpa using HZG.out.1) (fun k hk => (heap_setD _ hk).trans (HZG.out.2.1 k hk)) ?_⟩
     have := heap_setCell_same Z hd.g 7 _ _ (.int .i64 E) HZG.out.2.2.1
     simpa using this
end Go.Proofs.YtgafionfojnieaaGreatDoor
