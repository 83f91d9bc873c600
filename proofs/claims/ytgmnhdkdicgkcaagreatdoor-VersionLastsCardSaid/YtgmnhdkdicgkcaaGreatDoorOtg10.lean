/- Parts of the proof, one behind the other: Plain: what a book does on a store: what a list tells, Log, clean, Open.; Contract: version.told. -/
import Derived.Test.YtgmnhdkdicgkcaaGreatDoorOsg08
import Derived.Test.YtgmnhdkdicgkcaaGreatDoorOtg09
namespace Go.Proofs.YtgmnhdkdicgkcaaGreatDoor
open Go.RowKit Go.Maps
open Lib (hid)
namespace Ver
set_option maxHeartbeats 1000000 in
set_option maxRecDepth 100000 in
theorem log1_any (w0 W : World) (base g bb gk bc : Nat) (m0 : Sto.Mem) (s : Sto.St) (n : Sto.Str) (hn : n.length ≤ maxLen) (h : StK w0 base g m0 s W) (hf : s.files.length ≤ 1000000)
   (v2 v3 v4 v5 : Value) (hb : w0.heap[bb]? = some (.cells #[.pointer (some ⟨gk, 0, none⟩)] 54)) (hbn : ¬ Sto.Mut g m0 bb) (hk : w0.heap[gk]? = some (.cells #[.pointer (some ⟨g, 0, none⟩), .string ⟨n.toArray⟩, v2, v3, v4, v5] 114)) (hkn : ¬ Sto.Mut g m0 gk)
   (cA : Option Addr) (cc : Nat) (b : List UInt8) (hcb : w0.heap[bc]? = some (.cells #[.slice cA b.length cc] 37)) (hcbn : ¬ Sto.Mut g m0 bc) (hcr : RdB w0 w0.heap.size cA b) (hcn : ∀ q, blk cA = some q → q < w0.heap.size ∧ ¬ Sto.Mut g m0 q)
   : Calls Tryz.prog 94 #[.pointer (some ⟨bb, 0, none⟩), .pointer (some ⟨bc, 0, none⟩)] W fun e W' => e = .returned (.int .i64 (Sto.append s n b).1) ∧ StK w0 base g m0 (Sto.append s n b).2 W' := by
 obtain ⟨S, hS⟩ : ∃ S, S = (⟨n.toArray⟩ : ByteArray) := ⟨_, rfl⟩
 rw [← hS] at hk
 have HCELL : Hid (∀ (X : World) (s' : Sto.St), StK w0 base g m0 s' X → X.cell? ⟨bb, 0, none⟩ = some (.pointer (some ⟨gk, 0, none⟩)) ∧ X.cell? ⟨gk, 0, none⟩ = some (.pointer (some ⟨g, 0, none⟩)) ∧ X.cell? ⟨gk, 1, none⟩ = some (.string S) ∧ X.cell? ⟨bc, 0, none⟩ = some (.slice cA b.length cc)) := hid (fun X s' h => by
   have e1 := (h.keep (Array.getElem?_eq_some_iff.1 hb).1 hbn).trans hb
   have e2 := (h.keep (Array.getElem?_eq_some_iff.1 hk).1 hkn).trans hk
   have e4 := (h.keep (Array.getElem?_eq_some_iff.1 hcb).1 hcbn).trans hcb
   exact ⟨box_cell e1, by rw [cell_of_row _ _ _ _ _ (0, 0) e2]; rfl, by rw [cell_of_row _ _ _ _ _ (0, 0) e2]; rfl, box_cell e4⟩)
 have HCR := hid hcr
 have HCN := hid hcn
 clear hb hk hbn hkn hcb hcbn hcr hcn
 go_enter Tryz.func94, Tryz.ntmps94
 go_wp2_with fail
 obtain ⟨V, hV⟩ : ∃ V, V = W.drew := ⟨_, rfl⟩
 have HK : Hid (StK w0 base g m0 s V) := hid (by
   obtain ⟨m, h1, h2⟩ := h
   have hb : Below W.heap.size W V := by rw [hV]; exact (Below.refl _ _).drew
   exact ⟨m, h1.below hb, h2.trans (Sto.Aft.of_below hb)⟩)
 have HRV : Hid (RdB V V.heap.size cA b) := hid (by
   obtain ⟨m, h1, h2⟩ := HK.out
   exact rdB_keepS HCR.out h2.size (fun q e _ => HK.out.keep (HCN.out q e).1 (HCN.out q e).2))
 have KC := hid (HK.out.opA (fun m hm ha => Sto.append_any n hn cA cc b hm (HRV.out) (fun q e => ⟨Nat.lt_of_lt_of_le (HCN.out q e).1 ha.size, fun hmu => (HCN.out q e).2 (ha.turn q (HCN.out q e).1 hmu)⟩) hf))
 rw [← hS] at KC
 have hy := HCELL.out V s HK.out
 clear h hS
 refine wp_region_E 10 (fun X => X.cell? ⟨bb, 0, none⟩ = some (.pointer (some ⟨gk, 0, none⟩)) ∧ X.cell? ⟨gk, 0, none⟩ = some (.pointer (some ⟨g, 0, none⟩)) ∧ X.cell? ⟨gk, 1, none⟩ = some (.string S) ∧ X.cell? ⟨bc, 0, none⟩ = some (.slice cA b.length cc)) (by kernel_rfl) ?_
 rw [← hV]
 clear hV
 refine wT (i := 0) (v := ?_) rfl (Or.inl ⟨by rfl, ?_⟩) hy ?_
 rotate_left
 · (intro wy hSw; obtain ⟨hs1, hs2, hs3, hs4⟩ := hSw; go_simp; try with_reducible rfl)
 try simp only [Act.put, List.setIfInBounds_toArray]
 refine wT (i := 1) (v := ?_) rfl (Or.inl ⟨by rfl, ?_⟩) hy ?_
 rotate_left
 · (intro wy hSw; obtain ⟨hs1, hs2, hs3, hs4⟩ := hSw; go_simp; try with_reducible rfl)
 try simp only [Act.put]
 simp only [List.getElem_toArray, List.getElem_cons_succ, List.getElem_cons_zero, List.setIfInBounds_toArray, List.set_cons_succ, List.set_cons_zero]
 refine wT (i := 2) (v := ?_) rfl (Or.inl ⟨by rfl, ?_⟩) hy ?_
 rotate_left
 · (intro wy hSw; obtain ⟨hs1, hs2, hs3, hs4⟩ := hSw; go_simp; try with_reducible rfl)
 try simp only [Act.put]
 simp only [List.getElem_toArray, List.getElem_cons_succ, List.getElem_cons_zero, List.setIfInBounds_toArray, List.set_cons_succ, List.set_cons_zero]
 refine wT (i := 3) (v := ?_) rfl (Or.inl ⟨by rfl, ?_⟩) hy ?_
 rotate_left
 · (intro wy hSw; obtain ⟨hs1, hs2, hs3, hs4⟩ := hSw; go_simp; try with_reducible rfl)
 try simp only [Act.put]
 simp only [List.getElem_toArray, List.getElem_cons_succ, List.getElem_cons_zero, List.setIfInBounds_toArray, List.set_cons_succ, List.set_cons_zero]
 refine wT (i := 4) (v := ?_) rfl (Or.inl ⟨by rfl, ?_⟩) hy ?_
 rotate_left
 · (intro wy hSw; obtain ⟨hs1, hs2, hs3, hs4⟩ := hSw; go_simp; try with_reducible rfl)
 try simp only [Act.put]
 simp only [List.getElem_toArray, List.getElem_cons_succ, List.getElem_cons_zero, List.setIfInBounds_toArray, List.set_cons_succ, List.set_cons_zero]
 refine wT (i := 5) (v := ?_) rfl (Or.inl ⟨by rfl, ?_⟩) hy ?_
 rotate_left
 · (intro wy hSw; obtain ⟨hs1, hs2, hs3, hs4⟩ := hSw; go_simp; try with_reducible rfl)
 try simp only [Act.put]
 simp only [List.getElem_toArray, List.getElem_cons_succ, List.getElem_cons_zero, List.setIfInBounds_toArray, List.set_cons_succ, List.set_cons_zero]
 refine wT (i := 6) (v := ?_) rfl (Or.inl ⟨by rfl, ?_⟩) hy ?_
 rotate_left
 · (intro wy hSw; obtain ⟨hs1, hs2, hs3, hs4⟩ := hSw; go_simp; try with_reducible rfl)
 try simp only [Act.put]
 simp only [List.getElem_toArray, List.getElem_cons_succ, List.getElem_cons_zero, List.setIfInBounds_toArray, List.set_cons_succ, List.set_cons_zero]
 refine wT (i := 7) (v := ?_) rfl (Or.inl ⟨by rfl, ?_⟩) hy ?_
 rotate_left
 · (intro wy hSw; obtain ⟨hs1, hs2, hs3, hs4⟩ := hSw; go_simp; try with_reducible rfl)
 try simp only [Act.put]
 simp only [List.getElem_toArray, List.getElem_cons_succ, List.getElem_cons_zero, List.setIfInBounds_toArray, List.set_cons_succ, List.set_cons_zero]
 refine wT (i := 8) (v := ?_) rfl (Or.inl ⟨by rfl, ?_⟩) hy ?_
 rotate_left
 · (intro wy hSw; obtain ⟨hs1, hs2, hs3, hs4⟩ := hSw; go_simp; try with_reducible rfl)
 try simp only [Act.put]
 simp only [List.getElem_toArray, List.getElem_cons_succ, List.getElem_cons_zero, List.setIfInBounds_toArray, List.set_cons_succ, List.set_cons_zero]
 refine wpAnyE_one (i := 9) (by kernel_rfl) rfl (fun K hK => ?_)
 refine step_call3_dv (by rfl) (some 12) (by rfl) (.tmp 6) (.tmp 10) (.tmp 11) (by rfl) (.pointer (some ⟨g, 0, none⟩)) (.string S) (.slice cA b.length cc) rfl rfl rfl (enters_of Tryz.func87 (by kernel_rfl) rfl) _ KC.out ?_
 rintro e w2 ⟨rfl, h2⟩
 have hy2 := HCELL.out w2 _ h2
 have H2 := hid h2
 refine ⟨_, rfl, ?_⟩
 refine hK _ _ hy2 ?_
 clear h2
 simp only [Act.put, List.setIfInBounds_toArray, List.set_cons_succ, List.set_cons_zero]
 refine wpAnyE_last (by kernel_rfl) (by kernel_rfl) rfl (fun K hK => ?_)
 go_simp
 refine hK _ _ ?_
 go_wp2_with fail
 go_ret
 exact ⟨rfl, H2.out⟩
set_option maxHeartbeats 1000000 in
set_option maxRecDepth 100000 in
theorem log2_any (w0 W : World) (base g bb gk : Nat) (m0 : Sto.Mem) (s : Sto.St) (n : Sto.Str) (hn : n.length ≤ maxLen) (h : StK w0 base g m0 s W)
   (v2 v3 v4 v5 : Value) (hb : w0.heap[bb]? = some (.cells #[.pointer (some ⟨gk, 0, none⟩)] 54)) (hbn : ¬ Sto.Mut g m0 bb) (hk : w0.heap[gk]? = some (.cells #[.pointer (some ⟨g, 0, none⟩), .string ⟨n.toArray⟩, v2, v3, v4, v5] 114)) (hkn : ¬ Sto.Mut g m0 gk)
   : Calls Tryz.prog 95 #[.pointer (some ⟨bb, 0, none⟩)] W fun e W' => e = .returned (.int .i64 (Sto.sync s n).1) ∧ StK w0 base g m0 (Sto.sync s n).2 W' := by
 obtain ⟨S, hS⟩ : ∃ S, S = (⟨n.toArray⟩ : ByteArray) := ⟨_, rfl⟩
 rw [← hS] at hk
 have HCELL : Hid (∀ (X : World) (s' : Sto.St), StK w0 base g m0 s' X → X.cell? ⟨bb, 0, none⟩ = some (.pointer (some ⟨gk, 0, none⟩)) ∧ X.cell? ⟨gk, 0, none⟩ = some (.pointer (some ⟨g, 0, none⟩)) ∧ X.cell? ⟨gk, 1, none⟩ = some (.string S)) := hid (fun X s' h => by
   have e1 := (h.keep (Array.getElem?_eq_some_iff.1 hb).1 hbn).trans hb
   have e2 := (h.keep (Array.getElem?_eq_some_iff.1 hk).1 hkn).trans hk
   exact ⟨box_cell e1, by rw [cell_of_row _ _ _ _ _ (0, 0) e2]; rfl, by rw [cell_of_row _ _ _ _ _ (0, 0) e2]; rfl⟩)
 clear hb hk hbn hkn
 go_enter Tryz.func95, Tryz.ntmps95
 go_wp2_with fail
 obtain ⟨V, hV⟩ : ∃ V, V = W.drew := ⟨_, rfl⟩
 have HK : Hid (StK w0 base g m0 s V) := hid (by
   obtain ⟨m, h1, h2⟩ := h
   have hb : Below W.heap.size W V := by rw [hV]; exact (Below.refl _ _).drew
   exact ⟨m, h1.below hb, h2.trans (Sto.Aft.of_below hb)⟩)
 have KC := hid (HK.out.op (fun m hm => Sto.sync_any n hn V base g s m hm))
 rw [← hS] at KC
 have hy := HCELL.out V s HK.out
 clear h hS
 refine wp_region_E 9 (fun X => X.cell? ⟨bb, 0, none⟩ = some (.pointer (some ⟨gk, 0, none⟩)) ∧ X.cell? ⟨gk, 0, none⟩ = some (.pointer (some ⟨g, 0, none⟩)) ∧ X.cell? ⟨gk, 1, none⟩ = some (.string S)) (by kernel_rfl) ?_
 rw [← hV]
 clear hV
 refine wT (i := 0) (v := ?_) rfl (Or.inl ⟨by rfl, ?_⟩) hy ?_
 rotate_left
 · (intro wy hSw; obtain ⟨hs1, hs2, hs3⟩ := hSw; go_simp; try with_reducible rfl)
 try simp only [Act.put, List.setIfInBounds_toArray]
 refine wT (i := 1) (v := ?_) rfl (Or.inl ⟨by rfl, ?_⟩) hy ?_
 rotate_left
 · (intro wy hSw; obtain ⟨hs1, hs2, hs3⟩ := hSw; go_simp; try with_reducible rfl)
 try simp only [Act.put]
 simp only [List.getElem_toArray, List.getElem_cons_succ, List.getElem_cons_zero, List.setIfInBounds_toArray, List.set_cons_succ, List.set_cons_zero]
 refine wT (i := 2) (v := ?_) rfl (Or.inl ⟨by rfl, ?_⟩) hy ?_
 rotate_left
 · (intro wy hSw; obtain ⟨hs1, hs2, hs3⟩ := hSw; go_simp; try with_reducible rfl)
 try simp only [Act.put]
 simp only [List.getElem_toArray, List.getElem_cons_succ, List.getElem_cons_zero, List.setIfInBounds_toArray, List.set_cons_succ, List.set_cons_zero]
 refine wT (i := 3) (v := ?_) rfl (Or.inl ⟨by rfl, ?_⟩) hy ?_
 rotate_left
 · (intro wy hSw; obtain ⟨hs1, hs2, hs3⟩ := hSw; go_simp; try with_reducible rfl)
 try simp only [Act.put]
 simp only [List.getElem_toArray, List.getElem_cons_succ, List.getElem_cons_zero, List.setIfInBounds_toArray, List.set_cons_succ, List.set_cons_zero]
 refine wT (i := 4) (v := ?_) rfl (Or.inl ⟨by rfl, ?_⟩) hy ?_
 rotate_left
 · (intro wy hSw; obtain ⟨hs1, hs2, hs3⟩ := hSw; go_simp; try with_reducible rfl)
 try simp only [Act.put]
 simp only [List.getElem_toArray, List.getElem_cons_succ, List.getElem_cons_zero, List.setIfInBounds_toArray, List.set_cons_succ, List.set_cons_zero]
 refine wT (i := 5) (v := ?_) rfl (Or.inl ⟨by rfl, ?_⟩) hy ?_
 rotate_left
 · (intro wy hSw; obtain ⟨hs1, hs2, hs3⟩ := hSw; go_simp; try with_reducible rfl)
 try simp only [Act.put]
 simp only [List.getElem_toArray, List.getElem_cons_succ, List.getElem_cons_zero, List.setIfInBounds_toArray, List.set_cons_succ, List.set_cons_zero]
 refine wT (i := 6) (v := ?_) rfl (Or.inl ⟨by rfl, ?_⟩) hy ?_
 rotate_left
 · (intro wy hSw; obtain ⟨hs1, hs2, hs3⟩ := hSw; go_simp; try with_reducible rfl)
 try simp only [Act.put]
 simp only [List.getElem_toArray, List.getElem_cons_succ, List.getElem_cons_zero, List.setIfInBounds_toArray, List.set_cons_succ, List.set_cons_zero]
 refine wT (i := 7) (v := ?_) rfl (Or.inl ⟨by rfl, ?_⟩) hy ?_
 rotate_left
 · (intro wy hSw; obtain ⟨hs1, hs2, hs3⟩ := hSw; go_simp; try with_reducible rfl)
 try simp only [Act.put]
 simp only [List.getElem_toArray, List.getElem_cons_succ, List.getElem_cons_zero, List.setIfInBounds_toArray, List.set_cons_succ, List.set_cons_zero]
 refine wpAnyE_one (i := 8) (by kernel_rfl) rfl (fun K hK => ?_)
 refine step_call2_dv (by rfl) (some 10) (by rfl) (.tmp 5) (.tmp 9) (by rfl) (.pointer (some ⟨g, 0, none⟩)) (.string S) rfl rfl (enters_of Tryz.func89 (by kernel_rfl) rfl) _ KC.out ?_
 rintro e w2 ⟨rfl, h2⟩
 have hy2 := HCELL.out w2 _ h2
 have H2 := hid h2
 refine ⟨_, rfl, ?_⟩
 refine hK _ _ hy2 ?_
 clear h2
 simp only [Act.put, List.setIfInBounds_toArray, List.set_cons_succ, List.set_cons_zero]
 refine wpAnyE_last (by kernel_rfl) (by kernel_rfl) rfl (fun K hK => ?_)
 go_simp
 refine hK _ _ ?_
 go_wp2_with fail
 go_ret
 exact ⟨rfl, H2.out⟩
set_option maxHeartbeats 1000000 in
set_option maxRecDepth 100000 in
theorem clean2_any (w0 W : World) (base g bb gk bn : Nat) (m0 : Sto.Mem) (s : Sto.St) (n : Sto.Str) (hn : n.length ≤ maxLen) (h : StK w0 base g m0 s W) (hl : s.kept.length ≤ 1000000)
   (v1 v2 v3 v4 v5 : Value) (hb : w0.heap[bb]? = some (.cells #[.pointer (some ⟨gk, 0, none⟩)] 54)) (hbn : ¬ Sto.Mut g m0 bb) (hk : w0.heap[gk]? = some (.cells #[.pointer (some ⟨g, 0, none⟩), v1, v2, v3, v4, v5] 114)) (hkn : ¬ Sto.Mut g m0 gk)
   (hs : w0.heap[bn]? = some (.cells #[.string ⟨n.toArray⟩] 9)) (hsn : ¬ Sto.Mut g m0 bn)
   : Calls Tryz.prog 130 #[.pointer (some ⟨bb, 0, none⟩), .pointer (some ⟨bn, 0, none⟩)] W fun e W' => e = .returned (.int .i64 (Sto.remove s n).1) ∧ StK w0 base g m0 (Sto.remove s n).2 W' := by
 obtain ⟨S, hS⟩ : ∃ S, S = (⟨n.toArray⟩ : ByteArray) := ⟨_, rfl⟩
 rw [← hS] at hs
 have HCELL : Hid (∀ (X : World) (s' : Sto.St), StK w0 base g m0 s' X → X.cell? ⟨bb, 0, none⟩ = some (.pointer (some ⟨gk, 0, none⟩)) ∧ X.cell? ⟨gk, 0, none⟩ = some (.pointer (some ⟨g, 0, none⟩)) ∧ X.cell? ⟨bn, 0, none⟩ = some (.string S)) := hid (fun X s' h => by
   have e1 := (h.keep (Array.getElem?_eq_some_iff.1 hb).1 hbn).trans hb
   have e2 := (h.keep (Array.getElem?_eq_some_iff.1 hk).1 hkn).trans hk
   have e3 := (h.keep (Array.getElem?_eq_some_iff.1 hs).1 hsn).trans hs
   exact ⟨box_cell e1, by rw [cell_of_row _ _ _ _ _ (0, 0) e2]; rfl, box_cell e3⟩)
 clear hb hk hbn hkn hs hsn
 go_enter Tryz.func130, Tryz.ntmps130
 go_wp2_with fail
 obtain ⟨V, hV⟩ : ∃ V, V = W.drew := ⟨_, rfl⟩
 have HK : Hid (StK w0 base g m0 s V) := hid (by
   obtain ⟨m, h1, h2⟩ := h
   have hb : Below W.heap.size W V := by rw [hV]; exact (Below.refl _ _).drew
   exact ⟨m, h1.below hb, h2.trans (Sto.Aft.of_below hb)⟩)
 have KC := hid (HK.out.op (fun m hm => Sto.remove_any n hn V base g s m hm hl))
 rw [← hS] at KC
 have hy := HCELL.out V s HK.out
 clear h hS
 refine wp_region_E 6 (fun X => X.cell? ⟨bb, 0, none⟩ = some (.pointer (some ⟨gk, 0, none⟩)) ∧ X.cell? ⟨gk, 0, none⟩ = some (.pointer (some ⟨g, 0, none⟩)) ∧ X.cell? ⟨bn, 0, none⟩ = some (.string S)) (by kernel_rfl) ?_
 rw [← hV]
 clear hV
 refine wT (i := 0) (v := ?_) rfl (Or.inl ⟨by rfl, ?_⟩) hy ?_
 rotate_left
 · (intro wy hSw; obtain ⟨hs1, hs2, hs3⟩ := hSw; go_simp; try with_reducible rfl)
 try simp only [Act.put, List.setIfInBounds_toArray]
 refine wT (i := 1) (v := ?_) rfl (Or.inl ⟨by rfl, ?_⟩) hy ?_
 rotate_left
 · (intro wy hSw; obtain ⟨hs1, hs2, hs3⟩ := hSw; go_simp; try with_reducible rfl)
 try simp only [Act.put]
 simp only [List.getElem_toArray, List.getElem_cons_succ, List.getElem_cons_zero, List.setIfInBounds_toArray, List.set_cons_succ, List.set_cons_zero]
 refine wT (i := 2) (v := ?_) rfl (Or.inl ⟨by rfl, ?_⟩) hy ?_
 rotate_left
 · (intro wy hSw; obtain ⟨hs1, hs2, hs3⟩ := hSw; go_simp; try with_reducible rfl)
 try simp only [Act.put]
 simp only [List.getElem_toArray, List.getElem_cons_succ, List.getElem_cons_zero, List.setIfInBounds_toArray, List.set_cons_succ, List.set_cons_zero]
 refine wT (i := 3) (v := ?_) rfl (Or.inl ⟨by rfl, ?_⟩) hy ?_
 rotate_left
 · (intro wy hSw; obtain ⟨hs1, hs2, hs3⟩ := hSw; go_simp; try with_reducible rfl)
 try simp only [Act.put]
 simp only [List.getElem_toArray, List.getElem_cons_succ, List.getElem_cons_zero, List.setIfInBounds_toArray, List.set_cons_succ, List.set_cons_zero]
 refine wT (i := 4) (v := ?_) rfl (Or.inl ⟨by rfl, ?_⟩) hy ?_
 rotate_left
 · (intro wy hSw; obtain ⟨hs1, hs2, hs3⟩ := hSw; go_simp; try with_reducible rfl)
 try simp only [Act.put]
 simp only [List.getElem_toArray, List.getElem_cons_succ, List.getElem_cons_zero, List.setIfInBounds_toArray, List.set_cons_succ, List.set_cons_zero]
 refine wpAnyE_one (i := 5) (by kernel_rfl) rfl (fun K hK => ?_)
 refine step_call2_dv (by rfl) (some 8) (by rfl) (.tmp 6) (.tmp 7) (by rfl) (.pointer (some ⟨g, 0, none⟩)) (.string S) rfl rfl (enters_of Tryz.func123 (by kernel_rfl) rfl) _ KC.out ?_
 rintro e w2 ⟨rfl, h2⟩
 have hy2 := HCELL.out w2 _ h2
 have H2 := hid h2
 refine ⟨_, rfl, ?_⟩
 refine hK _ _ hy2 ?_
 clear h2
 simp only [Act.put, List.setIfInBounds_toArray, List.set_cons_succ, List.set_cons_zero]
 refine wpAnyE_last (by kernel_rfl) (by kernel_rfl) rfl (fun K hK => ?_)
 go_simp
 refine hK _ _ ?_
 go_wp2_with fail
 go_ret
 exact ⟨rfl, H2.out⟩
end Ver
end Go.Proofs.YtgmnhdkdicgkcaaGreatDoor
namespace Go.Proofs.YtgmnhdkdicgkcaaGreatDoor
open Go.RowKit
open Lib (hid)
namespace Ver
def scanL : Nat → List UInt8 → List (UInt8 × List UInt8)
 | 0, _ => []
 | n + 1, b => match Frm.take b with
   | none => []
   | some (k, t, r) => (k, t) :: scanL n r
def scan (b : List UInt8) : List (UInt8 × List UInt8) := scanL b.length b
theorem scanL_of : ∀ (l : List (UInt8 × List UInt8)) (n : Nat) (b r : List UInt8), Frm.Scans b l r → Frm.take r = none → l.length ≤ n → scanL n b = l
 | [], n, b, r, h, hn, _ => by
   have e : b = r := h.eq
   subst e
   cases n with
   | zero => rfl
   | succ n => rw [scanL, hn]
 | p :: l, 0, _, _, _, _, hl => by simp at hl
 | p :: l, n + 1, b, r, h, hn, hl => by
   have ep : Frm.flat (p :: l) = Frm.put p.1 p.2 ++ Frm.flat l := by simp [Frm.flat]
   have e1 := h.eq
   rw [ep, List.append_assoc] at e1
   rw [scanL, e1, Frm.take_put _ _ _ (h.fit p (by simp))]
   simp only
   rw [scanL_of l n (Frm.flat l ++ r) r ⟨rfl, fun x hx => h.fit x (by simp [hx])⟩ hn (by simpa using hl)]
theorem scan_of {b r : List UInt8} {l : List (UInt8 × List UInt8)} (h : Frm.Scans b l r) (hn : Frm.take r = none) : scan b = l := scanL_of l _ b r h hn h.len.1
def tell1 (s : Ss) (p : UInt8 × List UInt8) : Option Ss := match dec p.2 with
 | none => none
 | some e => if p.1 = 69 ∧ (apply s e).1 = 0 then some (apply s e).2 else none
def tells : Ss → List (UInt8 × List UInt8) → Ss
 | s, [] => s
 | s, p :: r => match tell1 s p with
   | none => s
   | some t => tells t r
def zeroS : Ss := ⟨[], 0, 1⟩
def told (s : Sto.St) (n : Sto.Str) : Ss := tells zeroS (scan (Sto.read s n).2)
def logSteps (n : Sto.Str) (f : List UInt8) : List (Sto.St → Int × Sto.St) := [fun s => Sto.append s n f, fun s => Sto.sync s n]
def logP (s : Sto.St) (n : Sto.Str) (t : Ss) (br : Bool) (e : Ed) : Int × Sto.St × Ss × Bool :=
 if br = true then (9, s, t, true) else
 if (apply t e).1 ≠ 0 then ((apply t e).1, s, t, false) else
 if 65536 < (frB e).length then (2, s, t, false) else
 if (allP (logSteps n (Frm.put 69 (frB e))) s).1 ≠ 0 then ((allP (logSteps n (Frm.put 69 (frB e))) s).1, (allP (logSteps n (Frm.put 69 (frB e))) s).2, t, true) else
 (0, (allP (logSteps n (Frm.put 69 (frB e))) s).2, (apply t e).2, false)
def goners (s : Sto.St) (l : List Vf) (list : Sto.Str) : List Sto.Str := (Sto.names s).filter (goneB l list)
def cleanSteps (G : List Sto.Str) : List (Sto.St → Int × Sto.St) := G.map (fun n s => Sto.remove s n) ++ (if G = [] then [] else [fun s => Sto.syncDir s])
def cleanP (s : Sto.St) (l : List Vf) (list : Sto.Str) : Int × Sto.St := allP (cleanSteps (goners s l list)) s
end Ver
end Go.Proofs.YtgmnhdkdicgkcaaGreatDoor
namespace Go.Proofs.YtgmnhdkdicgkcaaGreatDoor
open Go.RowKit Go.Maps
open Lib (hid)
namespace Ver
theorem OwnFv.keepT {w w' : World} {base c : Nat} {A : Option Addr} {l : List Fv} (h : OwnFv 168 w base A c l) (hk : ∀ k, Sto.Tag w k 168 ∨ Sto.Tag w k 5 → w'.heap[k]? = w.heap[k]?) : OwnFv 168 w' base A c l :=
 ⟨h.row.keep (fun _ e => hk _ (.inl (Sto.ownTagS h.row e))), fun f hf => ⟨own_keepS (h.own f hf).1 (fun _ e => hk _ (.inr (Sto.ownTag (h.own f hf).1 e))), (h.own f hf).2⟩⟩
theorem read_len {w : World} {base g : Nat} {s : Sto.St} {m : Sto.Mem} (h : Sto.StAt w base g s m) (n : Sto.Str) : (Sto.read s n).2.length ≤ 16777216 := by
 unfold Sto.read
 split
 · simp
 · split
   · simp
   · split
     · simp
     · exact (Sto.file_ok h.r.ok _).2
def SaysSt (w : World) (t : Ss) (e : Ending) (w' : World) : Prop := Below w.heap.size w w' ∧ ∃ A c l, e = .returned (.agg #[.slice A l.length c, .int .i64 t.log, .int .i64 t.next]) ∧ l.map Vf.fi = t.files ∧ OwV w' w.heap.size A c l
theorem box3_set {w : World} {n : Nat} {a b c a' b' c' : Value} (h : w.heap[n]? = some (.cells #[a, b, c] 24)) : (((w.setCell ⟨n, 0, none⟩ a').setCell ⟨n, 1, none⟩ b').setCell ⟨n, 2, none⟩ c').heap[n]? = some (.cells #[a', b', c'] 24) ∧ (∀ q, q ≠ n → (((w.setCell ⟨n, 0, none⟩ a').setCell ⟨n, 1, none⟩ b').setCell ⟨n, 2, none⟩ c').heap[q]? = w.heap[q]?) := by
 have h1 := heap_setCell_same w n 0 _ 24 a' h
 have h2 := heap_setCell_same _ n 1 _ 24 b' h1
 have h3 := heap_setCell_same _ n 2 _ 24 c' h2
 exact ⟨by simpa using h3, fun q hq => (Below.heap_setCell _ _ _ _ hq).trans ((Below.heap_setCell _ _ _ _ hq).trans (Below.heap_setCell _ _ _ _ hq))⟩
theorem owV_set3 {w w' : World} {n bs c : Nat} {A : Option Addr} {l : List Vf} (h : OwV w bs A c l) (ht : Sto.Tag w n 24) (hs : w.heap.size ≤ w'.heap.size) (hk : ∀ q, q ≠ n → w'.heap[q]? = w.heap[q]?) : OwV w' bs A c l :=
 h.keep hs (fun q e => hk q (by
   rcases e with e | ⟨v, hv, e⟩
   · exact (Sto.ownTagS h.row e).ne ht (by decide)
   · exact ((h.own v hv).at_ e).2.ne ht (by decide)))
theorem fv_set3 {w w' : World} {n bs c : Nat} {A : Option Addr} {l : List Fv} (h : OwnFv 168 w bs A c l) (ht : Sto.Tag w n 24) (hk : ∀ q, q ≠ n → w'.heap[q]? = w.heap[q]?) : OwnFv 168 w' bs A c l :=
 OwnFv.keepT h (fun q e => hk q (by
   rcases e with e | e
   · exact e.ne ht (by decide)
   · exact e.ne ht (by decide)))
set_option maxHeartbeats 4000000 in
set_option maxRecDepth 100000 in
theorem told_any {w : World} {base g : Nat} {s : Sto.St} {m : Sto.Mem} (h : Sto.StAt w base g s m) (n : Sto.Str) (hn : n.length ≤ maxLen) :
   Calls Tryz.prog 70 #[.pointer (some ⟨g, 0, none⟩), .string ⟨n.toArray⟩] w (SaysSt w (told s n)) := by
 obtain ⟨T, hT⟩ : ∃ T, T = told s n := ⟨_, rfl⟩
 rw [← hT]
 obtain ⟨w1, hw1⟩ : ∃ w1, w1 = w.alloc (.cells #[.slice none 0 0, .int .i64 0, .int .i64 0] 24) := ⟨_, rfl⟩
 obtain ⟨w2, hw2⟩ : ∃ w2, w2 = w1.alloc (.cells #[.slice none 0 0, .int .i64 0, .int .i64 1] 24) := ⟨_, rfl⟩
 have hb1 : Below w.heap.size w w1 := by rw [hw1]; exact (Below.refl _ _).alloc (Nat.le_refl _) _
 have hz1 : w1.heap.size = w.heap.size + 1 := by rw [hw1]; simp
 have hb2 : Below w1.heap.size w1 w2 := by rw [hw2]; exact (Below.refl _ _).alloc (Nat.le_refl _) _
 have hb12 : Below w.heap.size w w2 := hb1.trans (hb2.mono (by omega))
 have hx1 : w1.heap[w.heap.size]? = some (.cells #[.slice none 0 0, .int .i64 0, .int .i64 0] 24) := by rw [hw1]; exact heap_alloc_new w _
 have hx2 : w2.heap[w.heap.size + 1]? = some (.cells #[.slice none 0 0, .int .i64 0, .int .i64 1] 24) := by
   rw [hw2, ← hz1]; exact heap_alloc_new w1 _
 have KR := hid (Sto.read_any n hn (h.below hb12))
 obtain ⟨R, hR⟩ : ∃ R, R = Sto.read s n := ⟨_, rfl⟩
 rw [← hR] at KR
 have HT := hid hT
 have HR := hid hR
 have HRL : Hid (R.2.length ≤ 16777216) := hid (by rw [hR]; exact read_len h n)
 have HB1 := hid hb1
 have HB2 := hid hb2
 have HX1 := hid hx1
 have HX2 := hid hx2
 have HZ1 := hid hz1
 have HW2 := hid hw2
 rw [hw2, hw1] at KR
 have HW1 := hid hw1
 clear h hT hR hb1 hb2 hb12 hx1 hx2 hz1 hw2 hw1
 go_enter Tryz.func70, Tryz.ntmps70
 go_wp2_with fail
 refine KR.out.mono ?_
 rw [← HW1.out, ← HW2.out]
 rintro e w3 ⟨hb3, A2, c2, rfl, ho2⟩
 dsimp only
 have HB3 := hid (HB2.out.trans (hb3.mono HB2.out.size))
 have HX3 := hid ((hb3.block _ (Array.getElem?_eq_some_iff.1 HX2.out).1).trans HX2.out)
 have KS := hid (scan_own A2 c2 R.2 w3 ho2.rd (by have := HRL.out; omega) ho2.cap ho2.cap_le)
 obtain ⟨b, hb⟩ : ∃ b, b = R.2 := ⟨_, rfl⟩
 have HTT : Hid (T = tells zeroS (scan b)) := hid (by rw [HT.out, hb, HR.out]; rfl)
 rw [← hb] at KS HRL ⊢
 clear hb3 ho2 hb KR
 go_wp2_with fail
 refine KS.out.mono ?_
 rintro e w4 ⟨L, r, OA, OC, hsc, htk, rfl, hof, hb4⟩
 dsimp only
 have HLT : Hid (T = tells zeroS (L.map Fv.pr)) := hid (by rw [HTT.out, scan_of hsc htk])
 have hLl : L.length ≤ 16777216 := by
   have := hsc.len.1
   have := HRL.out
   rw [List.length_map] at *
   omega
 have HB4 := hid (HB3.out.trans (hb4.mono HB3.out.size))
 have HX4 := hid ((hb4.block _ (Array.getElem?_eq_some_iff.1 HX3.out).1).trans HX3.out)
 have HOF := hid hof
 have HFL : Hid (∀ f ∈ L, f.b.length ≤ 65536) := hid (fun f hf => hsc.fit f.pr (List.mem_map_of_mem hf))
 clear hsc htk hof hb4 KS
 go_wp2_with fail
 go_loopw [30] (fun i wr => ∃ (k c : Nat) (A : Option Addr) (l : List Vf) (log next : Int), k ≤ L.length ∧ i = .int .i64 (k : Int) ∧ Hid (T = tells ⟨l.map Vf.fi, log, next⟩ ((L.map Fv.pr).drop k)) ∧ Hid (l.length ≤ 1000000) ∧ Hid (OwV wr w.heap.size A c l) ∧ Hid (OwnFv 168 wr w3.heap.size OA OC L) ∧ Hid (wr.heap[w.heap.size + 1]? = some (.cells #[.slice A l.length c, .int .i64 log, .int .i64 next] 24)) ∧ Hid (Below w1.heap.size w1 wr)) (fun i _ => L.length - (intOf i).toNat)
 case atStart => exact ⟨0, 0, none, [], 0, 1, by omega, rfl, hid (by rw [HLT.out]; rfl), hid (by simp), hid (OwV.nil _ _), HOF, HX4, HB4⟩
 case round =>
   obtain ⟨k, c, A, l, log, next, hk, rfl, HTK, HLL, HOV, HF, HXR, HBR⟩ := hrel
   have HFIN : Hid (∀ W, Below w1.heap.size w1 W → OwV W w.heap.size A c l → T = ⟨l.map Vf.fi, log, next⟩ → ((((W.setCell ⟨w.heap.size, 0, none⟩ (.slice A l.length c)).setCell ⟨w.heap.size, 1, none⟩ (.int .i64 log)).setCell ⟨w.heap.size, 2, none⟩ (.int .i64 next)).heap[w.heap.size]? = some (.cells #[.slice A l.length c, .int .i64 log, .int .i64 next] 24)) ∧ SaysSt w T (.returned (.agg #[.slice A l.length c, .int .i64 log, .int .i64 next])) (((W.setCell ⟨w.heap.size, 0, none⟩ (.slice A l.length c)).setCell ⟨w.heap.size, 1, none⟩ (.int .i64 log)).setCell ⟨w.heap.size, 2, none⟩ (.int .i64 next))) := hid (fun W hW ho ht => by
     have hx := (hW.block _ (Array.getElem?_eq_some_iff.1 HX1.out).1).trans HX1.out
     obtain ⟨h1, h2⟩ := box3_set (a' := .slice A l.length c) (b' := .int .i64 log) (c' := .int .i64 next) hx
     have hbw : Below w.heap.size w W := HB1.out.trans (hW.mono HB1.out.size)
     exact ⟨h1, (((hbw.setCell (Nat.le_refl _) _).setCell (Nat.le_refl _) _).setCell (Nat.le_refl _) _), A, c, l, by rw [ht], by rw [ht], owV_set3 ho ⟨_, _, hx⟩ (by simp [World.setCell]) h2⟩)
   have hz1 := HZ1.out
   by_cases hlt : k < L.length
   · obtain ⟨b0, off, hA, hb0, hcl⟩ := RdFv.row2 HF.out.rd (by omega)
     obtain ⟨c0, c1⟩ := hcl k hlt
     obtain ⟨hfo, hfoff⟩ := HF.out.own L[k] (List.getElem_mem hlt)
     obtain ⟨f, hf⟩ : ∃ f, f = L[k] := ⟨_, rfl⟩
     have HD : Hid ((L.map Fv.pr).drop k = (f.k, f.b) :: (L.map Fv.pr).drop (k + 1)) := hid (by
       rw [List.drop_eq_getElem_cons (by rw [List.length_map]; exact hlt), List.getElem_map, hf]; rfl)
     rw [← hf] at c0 c1 hfo hfoff
     have HFO := hid hfo
     have HFB : Hid (f.b.length ≤ 140737488355328) := hid (by rw [hf]; exact Nat.le_trans (HFL.out L[k] (List.getElem_mem hlt)) (by omega))
     obtain ⟨fk, fA, fc, fb⟩ := f
     obtain ⟨q, hq⟩ : ∃ q, q = fk.toNat := ⟨_, rfl⟩
     simp only at c0 c1
     rw [← hq] at c0
     have HFK := hid hq
     obtain ⟨W1, hW1⟩ : ∃ W1, W1 = wr.alloc (.cells #[.int .u8 (q : Int), .slice fA fb.length fc] 168) := ⟨_, rfl⟩
     have hbw1 : Below wr.heap.size wr W1 := by rw [hW1]; exact (Below.refl _ _).alloc (Nat.le_refl _) _
     have HXF : Hid (W1.heap[wr.heap.size]? = some (.cells #[.int .u8 (q : Int), .slice fA fb.length fc] 168)) := hid (by rw [hW1]; exact heap_alloc_new wr _)
     have KD := hid (decode_any fA fc fb W1 (HFO.out.below hbw1).rd HFB.out HFO.out.cap HFO.out.cap_le)
     have HBW1 := hid hbw1
     have HW1' := hid hW1
     rw [hW1] at KD
     subst hA
     clear hcl hf hfo hfoff hq hbw1 hW1
     go_wp2_with fail
     refine KD.out.mono ?_
     rw [← HW1'.out]
     rintro e w5 hs5
     obtain ⟨y, rfl, hye, hyo, hya, hyd, hb5⟩ := says_dec hs5
     dsimp only
     obtain ⟨W5, hW5⟩ : ∃ W5, W5 = w5.alloc y.obj := ⟨_, rfl⟩
     have hbx5 : Below w5.heap.size w5 W5 := by rw [hW5]; exact (Below.refl _ _).alloc (Nat.le_refl _) _
     have hbr5 : Below wr.heap.size wr W5 := HBW1.out.trans ((hb5.trans (hbx5.mono hb5.size)).mono HBW1.out.size)
     have HBR5 := hid hbr5
     have HX5 : Hid (W5.heap[w5.heap.size]? = some y.obj) := hid (by rw [hW5]; exact heap_alloc_new w5 _)
     have HXF5 : Hid (W5.heap[wr.heap.size]? = some (.cells #[.int .u8 (q : Int), .slice fA fb.length fc] 168)) := hid (((hb5.trans (hbx5.mono hb5.size)).block _ (Array.getElem?_eq_some_iff.1 HXF.out).1).trans HXF.out)
     have hx5 := HX5.out
     have hxs := (hbr5.block _ (Array.getElem?_eq_some_iff.1 HXR.out).1).trans HXR.out
     obtain ⟨p, hp⟩ : ∃ p, p = apply ⟨l.map Vf.fi, log, next⟩ y.ed := ⟨_, rfl⟩
     have KA := hid (apply_any A c l log next y W5 ((HOV.out.below hbr5).rd) (hyo.keep hbx5) HLL.out (by omega) (by omega))
     rw [← hp] at KA
     have HP := hid hp
     obtain ⟨code, hcode⟩ : ∃ code : Int, code = (if (dec fb).isSome then 0 else 3) := ⟨_, rfl⟩
     rw [← hcode]
     have HCODE := hid hcode
     have HYE := hid hye
     clear hs5 hye hyo hya hyd hb5 hbx5 hbr5 hp hcode KD HBW1 HXF
     obtain ⟨YA, yc, yadd, YDA, ydc, ydrop, ylog, ynext⟩ := y
     simp only [Ev.val, Ev.obj] at KA hW5 hx5 ⊢
     obtain ⟨e0, e1, e2, e3⟩ : W5.cell? ⟨w5.heap.size, 0, none⟩ = some (.slice YA yadd.length yc) ∧ W5.cell? ⟨w5.heap.size, 1, none⟩ = some (.slice YDA ydrop.length ydc) ∧ W5.cell? ⟨w5.heap.size, 2, none⟩ = some (.int .i64 ylog) ∧ W5.cell? ⟨w5.heap.size, 3, none⟩ = some (.int .i64 ynext) := ⟨by rw [cell_of_row W5 _ 0 _ _ (0, 0) hx5]; rfl, by rw [cell_of_row W5 _ 1 _ _ (0, 0) hx5]; rfl, by rw [cell_of_row W5 _ 2 _ _ (0, 0) hx5]; rfl, by rw [cell_of_row W5 _ 3 _ _ (0, 0) hx5]; rfl⟩
     obtain ⟨s0, s1, s2⟩ : W5.cell? ⟨w.heap.size + 1, 0, none⟩ = some (.slice A l.length c) ∧ W5.cell? ⟨w.heap.size + 1, 1, none⟩ = some (.int .i64 log) ∧ W5.cell? ⟨w.heap.size + 1, 2, none⟩ = some (.int .i64 next) := ⟨by rw [cell_of_row W5 _ 0 _ _ (0, 0) hxs]; rfl, by rw [cell_of_row W5 _ 1 _ _ (0, 0) hxs]; rfl, by rw [cell_of_row W5 _ 2 _ _ (0, 0) hxs]; rfl⟩
     have HW5 := hid hW5
     have HXS := hid hxs
     rw [hW5] at e0 e1 e2 e3 s0 s1 s2 KA
     clear hx5 hxs hW5
     go_wp2_with fail
     refine KA.out.mono ?_
     rw [← HW5.out]
     rintro e w6 ⟨hb6, A6, c6, l6, rfl, hl6, ho6⟩
     dsimp only
     obtain ⟨pc, pf, pl, pn⟩ := p
     simp only at hl6 ⊢
     obtain ⟨W6, hW6⟩ : ∃ W6, W6 = w6.alloc (.cells #[.slice A6 l6.length c6, .int .i64 pl, .int .i64 pn] 24) := ⟨_, rfl⟩
     have hbx6 : Below w6.heap.size w6 W6 := by rw [hW6]; exact (Below.refl _ _).alloc (Nat.le_refl _) _
     have hb56 : Below W5.heap.size W5 W6 := hb6.trans (hbx6.mono hb6.size)
     have HBR6 := hid (HBR5.out.trans (hb56.mono HBR5.out.size))
     have HBA6 := hid (HBR.out.trans (HBR6.out.mono HBR.out.size))
     have HO6 := hid ((ho6.below hbx6).mono (show w.heap.size ≤ W5.heap.size from Nat.le_trans HB1.out.size (Nat.le_trans HBR.out.size HBR5.out.size)))
     have HL6 := hid hl6
     have hxf := (hb56.block _ (Array.getElem?_eq_some_iff.1 HXF5.out).1).trans HXF5.out
     have f0 : W6.cell? ⟨wr.heap.size, 0, none⟩ = some (.int .u8 (q : Int)) := by rw [cell_of_row W6 _ 0 _ _ (0, 0) hxf]; rfl
     have hx6 : W6.heap[w6.heap.size]? = some (.cells #[.slice A6 l6.length c6, .int .i64 pl, .int .i64 pn] 24) := by rw [hW6]; exact heap_alloc_new w6 _
     obtain ⟨g0, g1, g2⟩ : W6.cell? ⟨w6.heap.size, 0, none⟩ = some (.slice A6 l6.length c6) ∧ W6.cell? ⟨w6.heap.size, 1, none⟩ = some (.int .i64 pl) ∧ W6.cell? ⟨w6.heap.size, 2, none⟩ = some (.int .i64 pn) := ⟨by rw [cell_of_row W6 _ 0 _ _ (0, 0) hx6]; rfl, by rw [cell_of_row W6 _ 1 _ _ (0, 0) hx6]; rfl, by rw [cell_of_row W6 _ 2 _ _ (0, 0) hx6]; rfl⟩
     have hxs6 := (hb56.block _ (Array.getElem?_eq_some_iff.1 HXS.out).1).trans HXS.out
     clear s0 s1 s2 e0 e1 e2 e3
     obtain ⟨s0, s1, s2⟩ : W6.cell? ⟨w.heap.size + 1, 0, none⟩ = some (.slice A l.length c) ∧ W6.cell? ⟨w.heap.size + 1, 1, none⟩ = some (.int .i64 log) ∧ W6.cell? ⟨w.heap.size + 1, 2, none⟩ = some (.int .i64 next) := ⟨by rw [cell_of_row W6 _ 0 _ _ (0, 0) hxs6]; rfl, by rw [cell_of_row W6 _ 1 _ _ (0, 0) hxs6]; rfl, by rw [cell_of_row W6 _ 2 _ _ (0, 0) hxs6]; rfl⟩
     have hz6 : (W6.heap[w.heap.size]? = some (.cells #[.slice none 0 0, .int .i64 0, .int .i64 0] 24)) := (HBA6.out.block _ (Array.getElem?_eq_some_iff.1 HX1.out).1).trans HX1.out
     obtain ⟨r0, r1, r2⟩ : W6.cell? ⟨w.heap.size, 0, none⟩ = some (.slice none 0 0) ∧ W6.cell? ⟨w.heap.size, 1, none⟩ = some (.int .i64 0) ∧ W6.cell? ⟨w.heap.size, 2, none⟩ = some (.int .i64 0) := ⟨by rw [cell_of_row W6 _ 0 _ _ (0, 0) hz6]; rfl, by rw [cell_of_row W6 _ 1 _ _ (0, 0) hz6]; rfl, by rw [cell_of_row W6 _ 2 _ _ (0, 0) hz6]; rfl⟩
     have z0 := frozen_of_row W6 w.heap.size 0 _ _ hz6
     have z1 := frozen_of_row W6 w.heap.size 1 _ _ hz6
     have z2 := frozen_of_row W6 w.heap.size 2 _ _ hz6
     have y0 := frozen_of_row W6 (w.heap.size + 1) 0 _ _ hxs6
     have y1 := frozen_of_row W6 (w.heap.size + 1) 1 _ _ hxs6
     have y2 := frozen_of_row W6 (w.heap.size + 1) 2 _ _ hxs6
     have HOV6 := hid (HOV.out.below HBR6.out)
     have HF6 := hid (HF.out.call HBR6.out)
     have HXS6 := hid hxs6
     have HSTOP : Hid (tell1 ⟨l.map Vf.fi, log, next⟩ (fk, fb) = none → T = ⟨l.map Vf.fi, log, next⟩) := hid (fun e => by rw [HTK.out, HD.out]; unfold tells; rw [e])
     have HW6e := hid hW6
     rw [hW6] at f0 g0 g1 g2 s0 s1 s2 z0 z1 z2 r0 r1 r2 y0 y1 y2
     clear hb6 hl6 ho6 hbx6 hb56 hxf hx6 hxs6 hz6 hW6 KA
     by_cases hc : code = 0
     rotate_left
     · have t1 : ((code : Int) != 0) = true := by simp [hc]
       have HN : Hid (T = ⟨l.map Vf.fi, log, next⟩) := hid (HSTOP.out (by
         unfold tell1
         cases hd : dec fb with
         | none => rfl
         | some e => exact absurd (by rw [HCODE.out, hd]; rfl) hc))
       clear y0 y1 y2 g0 g1 g2
       go_wp2_with fail
       rw [← HW6e.out]
       clear f0 s0 s1 s2 z0 z1 z2 r0 r1 r2
       obtain ⟨n1, n2⟩ := HFIN.out W6 HBA6.out HOV6.out HN.out
       refine bodyPost_ret (results_cell_row rfl _ _ w.heap.size 24 #[.slice A l.length c, .int .i64 log, .int .i64 next] (0, 0) _ rfl n1 Tryz.underlying24 rfl state_size) rfl ?_
       exact n2
     have HDEC : Hid (dec fb = some (⟨YA, yc, yadd, YDA, ydc, ydrop, ylog, ynext⟩ : Ev).ed) := hid (by
       have h1 := HCODE.out
       rw [hc] at h1
       cases hd : dec fb with
       | none => rw [hd] at h1; exact absurd h1 (by decide)
       | some e => rw [HYE.out, hd]; rfl)
     subst hc
     have t1 : ((0 : Int) != 0) = false := by rfl
     by_cases hq : q = 69
     rotate_left
     · have t2 : ((q : Int) != 69) = true := by simp; omega
       have HN : Hid (T = ⟨l.map Vf.fi, log, next⟩) := hid (HSTOP.out (by
         unfold tell1
         rw [HDEC.out]
         simp only
         rw [if_neg]
         rintro ⟨h1, _⟩
         exact hq (by rw [HFK.out, h1]; rfl)))
       clear y0 y1 y2 g0 g1 g2
       go_wp2_with fail
       rw [← HW6e.out]
       clear f0 s0 s1 s2 z0 z1 z2 r0 r1 r2
       obtain ⟨n1, n2⟩ := HFIN.out W6 HBA6.out HOV6.out HN.out
       refine bodyPost_ret (results_cell_row rfl _ _ w.heap.size 24 #[.slice A l.length c, .int .i64 log, .int .i64 next] (0, 0) _ rfl n1 Tryz.underlying24 rfl state_size) rfl ?_
       exact n2
     have HQ : Hid (fk = 69) := hid (by rw [HFK.out] at hq; exact UInt8.toNat_inj.1 hq)
     have t2 : ((q : Int) != 69) = false := by rw [hq]; rfl
     clear hq
     by_cases hpc : pc = 0
     rotate_left
     · have t3 : ((pc : Int) != 0) = true := by simp [hpc]
       have HN : Hid (T = ⟨l.map Vf.fi, log, next⟩) := hid (HSTOP.out (by
         unfold tell1
         rw [HDEC.out]
         simp only
         rw [← HP.out, if_neg (fun h1 => hpc h1.2)]))
       clear y0 y1 y2 g0 g1 g2
       go_wp2_with fail
       rw [← HW6e.out]
       clear f0 s0 s1 s2 z0 z1 z2 r0 r1 r2
       obtain ⟨n1, n2⟩ := HFIN.out W6 HBA6.out HOV6.out HN.out
       refine bodyPost_ret (results_cell_row rfl _ _ w.heap.size 24 #[.slice A l.length c, .int .i64 log, .int .i64 next] (0, 0) _ rfl n1 Tryz.underlying24 rfl state_size) rfl ?_
       exact n2
     subst hpc
     have HNX : Hid (T = tells ⟨l6.map Vf.fi, pl, pn⟩ ((L.map Fv.pr).drop (k + 1))) := hid (by
       rw [HTK.out, HD.out, HL6.out]
       conv => lhs; unfold tells
       unfold tell1
       rw [HDEC.out]
       simp only
       rw [← HP.out, if_pos ⟨HQ.out, rfl⟩])
     have HLL6 : Hid (l6.length ≤ 1000000) := hid (by
       have h1 := congrArg List.length HL6.out
       have h2 := apply_len ⟨l.map Vf.fi, log, next⟩ (⟨YA, yc, yadd, YDA, ydc, ydrop, ylog, ynext⟩ : Ev).ed
       rw [← HP.out, ← h1, List.length_map] at h2
       exact h2)
     clear z0 z1 z2 r0 r1 r2
     go_wp2_with fail
     rw [← HW6e.out]
     clear f0 g0 g1 g2 y0 y1 y2 s0 s1 s2 t1 t2
     obtain ⟨n1, n2⟩ := box3_set (a' := .slice A6 l6.length c6) (b' := .int .i64 pl) (c' := .int .i64 pn) HXS6.out
     exact ⟨⟨k + 1, c6, A6, l6, pl, pn, hlt, by simp, HNX, HLL6, hid (owV_set3 HO6.out ⟨_, _, HXS6.out⟩ (by simp [World.setCell]) n2), hid (fv_set3 HF6.out ⟨_, _, HXS6.out⟩ n2), hid n1, hid (((HBA6.out.setCell (by simp; omega) _).setCell (by simp; omega) _).setCell (by simp; omega) _)⟩, by simp only [intOf]; omega⟩
   · have hke : k = L.length := by omega
     have hxs := HXR.out
     obtain ⟨s0, s1, s2⟩ : wr.cell? ⟨w.heap.size + 1, 0, none⟩ = some (.slice A l.length c) ∧ wr.cell? ⟨w.heap.size + 1, 1, none⟩ = some (.int .i64 log) ∧ wr.cell? ⟨w.heap.size + 1, 2, none⟩ = some (.int .i64 next) := ⟨by rw [cell_of_row wr _ 0 _ _ (0, 0) hxs]; rfl, by rw [cell_of_row wr _ 1 _ _ (0, 0) hxs]; rfl, by rw [cell_of_row wr _ 2 _ _ (0, 0) hxs]; rfl⟩
     have hz6 : (wr.heap[w.heap.size]? = some (.cells #[.slice none 0 0, .int .i64 0, .int .i64 0] 24)) := (HBR.out.block _ (Array.getElem?_eq_some_iff.1 HX1.out).1).trans HX1.out
     obtain ⟨r0, r1, r2⟩ : wr.cell? ⟨w.heap.size, 0, none⟩ = some (.slice none 0 0) ∧ wr.cell? ⟨w.heap.size, 1, none⟩ = some (.int .i64 0) ∧ wr.cell? ⟨w.heap.size, 2, none⟩ = some (.int .i64 0) := ⟨by rw [cell_of_row wr _ 0 _ _ (0, 0) hz6]; rfl, by rw [cell_of_row wr _ 1 _ _ (0, 0) hz6]; rfl, by rw [cell_of_row wr _ 2 _ _ (0, 0) hz6]; rfl⟩
     have z0 := frozen_of_row wr w.heap.size 0 _ _ hz6
     have z1 := frozen_of_row wr w.heap.size 1 _ _ hz6
     have z2 := frozen_of_row wr w.heap.size 2 _ _ hz6
     have HN : Hid (T = ⟨l.map Vf.fi, log, next⟩) := hid (by rw [HTK.out, hke, List.drop_eq_nil_of_le (by rw [List.length_map]; omega)]; rfl)
     clear hxs hz6
     go_wp2_with fail
     clear s0 s1 s2 z0 z1 z2 r0 r1 r2
     obtain ⟨n1, n2⟩ := HFIN.out wr HBR.out HOV.out HN.out
     refine bodyPost_ret (results_cell_row rfl _ _ w.heap.size 24 #[.slice A l.length c, .int .i64 log, .int .i64 next] (0, 0) _ rfl n1 Tryz.underlying24 rfl state_size) rfl ?_
     exact n2
end Ver
end Go.Proofs.YtgmnhdkdicgkcaaGreatDoor
