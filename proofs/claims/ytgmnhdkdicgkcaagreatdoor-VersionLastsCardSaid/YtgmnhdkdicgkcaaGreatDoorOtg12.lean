/- Parts of the proof, one behind the other: Contract: the book's Log.; Contract: the book's clean.; Contract: version.Open.; Plain: a book on a store whose directory is synced: current and one list.; Plain: a crash of such a store, and Open behind it.; A book over a store that may fail, with a row of states beside it: what its operations come to.; The laws' awake, by Open in general. -/
import Derived.Test.YtgmnhdkdicgkcaaGreatDoorOtg10
import Derived.Test.YtgmnhdkdicgkcaaGreatDoorOtg04
namespace Go.Proofs.YtgmnhdkdicgkcaaGreatDoor
open Go.RowKit Go.Maps
open Lib (hid)
namespace Ver
def LogB (w : World) (base bs g gk : Nat) (m : Sto.Mem) (n : Sto.Str) (x : Int × Sto.St × Ss × Bool) (e : Ending) (w' : World) : Prop :=
 e = .returned (.int .i64 x.1) ∧ ∃ (m' : Sto.Mem) (A : Option Addr) (c : Nat) (l : List Vf), Sto.StAt w' base g x.2.1 m' ∧ AftB w w' g gk m m' ∧ w'.heap[gk]? = some (bkObj g n A l c x.2.2.1.log x.2.2.1.next x.2.2.2) ∧ l.map Vf.fi = x.2.2.1.files ∧ OwV w' bs A c l ∧ OffV g m' A l
theorem book_set3 {w : World} {g gk c c' : Nat} {n : Sto.Str} {A A' : Option Addr} {l l' : List Vf} {log next log' next' : Int} {br : Bool} (h : w.heap[gk]? = some (bkObj g n A l c log next br)) : (((w.setCell ⟨gk, 2, none⟩ (.slice A' l'.length c')).setCell ⟨gk, 3, none⟩ (.int .i64 log')).setCell ⟨gk, 4, none⟩ (.int .i64 next')).heap[gk]? = some (bkObj g n A' l' c' log' next' br) := by
 have h1 := heap_setCell_same w gk 2 _ 114 (.slice A' l'.length c') h
 have h2 := heap_setCell_same _ gk 3 _ 114 (.int .i64 log') h1
 have h3 := heap_setCell_same _ gk 4 _ 114 (.int .i64 next') h2
 simpa [bkObj] using h3
theorem book_set5 {w : World} {g gk c : Nat} {n : Sto.Str} {A : Option Addr} {l : List Vf} {log next : Int} {br br' : Bool} (h : w.heap[gk]? = some (bkObj g n A l c log next br)) : (w.setCell ⟨gk, 5, none⟩ (.bool br')).heap[gk]? = some (bkObj g n A l c log next br') := by
 have h1 := heap_setCell_same w gk 5 _ 114 (.bool br') h
 simpa [bkObj] using h1
theorem owV_book {w w' : World} {gk bs c : Nat} {A : Option Addr} {l : List Vf} (h : OwV w bs A c l) (ht : Sto.Tag w gk 114) (hs : w.heap.size ≤ w'.heap.size) (hk : ∀ q, q ≠ gk → w'.heap[q]? = w.heap[q]?) : OwV w' bs A c l :=
 h.keep hs (fun q e => hk q (owV_ne h ht e))
theorem LogB.same {w w' : World} {base bs g gk c : Nat} {m : Sto.Mem} {n : Sto.Str} {k : Int} {s : Sto.St} {t : Ss} {br : Bool} {A : Option Addr} {l : List Vf} {x : Int × Sto.St × Ss × Bool} (hx : x = (k, s, t, br)) (h : Sto.StAt w base g s m) (hk : w.heap[gk]? = some (bkObj g n A l c t.log t.next br)) (hov : OwV w bs A c l) (hoff : OffV g m A l) (hf : l.map Vf.fi = t.files) (hb : Below w.heap.size w w') : LogB w base bs g gk m n x (.returned (.int .i64 k)) w' := by
 subst hx
 exact ⟨rfl, m, A, c, l, h.below hb, AftB.of (Sto.Aft.of_below hb), (hb.block _ (Array.getElem?_eq_some_iff.1 hk).1).trans hk, hf, hov.below hb, hoff⟩
set_option maxHeartbeats 4000000 in
set_option maxRecDepth 100000 in
theorem log_any (w : World) (base bs g gk : Nat) (m : Sto.Mem) (s : Sto.St) (h : Sto.StAt w base g s m) (hsf : s.files.length ≤ 800000) (hbs : bs ≤ w.heap.size) (n : Sto.Str) (hn : n.length ≤ maxLen)
   (A : Option Addr) (c : Nat) (l : List Vf) (log next : Int) (br : Bool) (hk : w.heap[gk]? = some (bkObj g n A l c log next br)) (hov : OwV w bs A c l) (hoff : OffV g m A l) (hll : l.length ≤ 1000000)
   (e : Ev) (he : EvOk w w.heap.size e) (hea : e.add.length ≤ 1000000) (hed : e.drop.length ≤ 1000000) :
   Calls Tryz.prog 32 #[.pointer (some ⟨gk, 0, none⟩), e.val] w (LogB w base bs g gk m n (logP s n ⟨l.map Vf.fi, log, next⟩ br e.ed)) := by
 obtain ⟨x, hx⟩ : ∃ x, x = logP s n ⟨l.map Vf.fi, log, next⟩ br e.ed := ⟨_, rfl⟩
 rw [← hx]
 obtain ⟨w2, hw2⟩ : ∃ w2, w2 = (w.alloc (.cells #[.pointer (some ⟨gk, 0, none⟩)] 54)).alloc e.obj := ⟨_, rfl⟩
 have hb2 : Below w.heap.size w w2 := by rw [hw2]; exact ((Below.refl _ _).alloc (Nat.le_refl _) _).alloc (by simp) _
 have hz2 : w2.heap.size = w.heap.size + 1 + 1 := by rw [hw2]; simp
 have hx0 : w2.heap[w.heap.size]? = some (.cells #[.pointer (some ⟨gk, 0, none⟩)] 54) := by
   rw [hw2, Below.heap_alloc _ _ _ (by simp)]
   exact heap_alloc_new w _
 have hx1 : w2.heap[w.heap.size + 1]? = some e.obj := by
   rw [hw2]
   have := heap_alloc_new (w.alloc (.cells #[.pointer (some ⟨gk, 0, none⟩)] 54)) e.obj
   simpa using this
 have hk2 := (hb2.block _ (Array.getElem?_eq_some_iff.1 hk).1).trans hk
 have KX : Hid (∀ X, Below w2.heap.size w2 X → Calls Tryz.prog 11 #[.agg #[.slice A l.length c, .int .i64 log, .int .i64 next], e.val] X (SaysAp X (apply ⟨l.map Vf.fi, log, next⟩ e.ed))) := hid (fun X hX => apply_any A c l log next e X (hov.below (hb2.trans (hX.mono hb2.size))).rd (he.keep (hb2.trans (hX.mono hb2.size))) hll hea hed)
 have KF : Hid (∀ X, Below w2.heap.size w2 X → Calls Tryz.prog 93 #[e.val] X (SaysFr X e.ed)) := hid (fun X hX => framed_any e X (he.keep (hb2.trans (hX.mono hb2.size))) hea hed)
 obtain ⟨ed, hede⟩ : ∃ ed, ed = e.ed := ⟨_, rfl⟩
 rw [← hede] at KX KF hx
 have HX := hid hx
 have HS := hid h
 have HK0 := hid hk
 have HOV := hid hov
 have HOFF := hid hoff
 have HB2 := hid hb2
 have HSAME : Hid (∀ (code : Int) (W : World), x = (code, s, ⟨l.map Vf.fi, log, next⟩, br) → Below w2.heap.size w2 W → LogB w base bs g gk m n x (.returned (.int .i64 code)) W) := hid (fun code W hxe hW => LogB.same hxe h hk hov hoff rfl (hb2.trans (hW.mono hb2.size)))
 obtain ⟨EA, ec, add, DA, dc, drop, elog, enext⟩ := e
 simp only [Ev.val, Ev.obj] at *
 obtain ⟨p, hp⟩ : ∃ p, p = apply ⟨l.map Vf.fi, log, next⟩ ed := ⟨_, rfl⟩
 rw [← hp] at KX
 have HP := hid hp
 have HXB := hid hx1
 have HX0 := hid hx0
 have HK2 := hid hk2
 have HZ2 := hid hz2
 have HYW : Hid (∀ X, Below w2.heap.size w2 X → X.cell? ⟨w.heap.size, 0, none⟩ = some (.pointer (some ⟨gk, 0, none⟩)) ∧ X.cell? ⟨gk, 2, none⟩ = some (.slice A l.length c) ∧ X.cell? ⟨gk, 3, none⟩ = some (.int .i64 log) ∧ X.cell? ⟨gk, 4, none⟩ = some (.int .i64 next) ∧ X.cell? ⟨w.heap.size + 1, 0, none⟩ = some (.slice EA add.length ec) ∧ X.cell? ⟨w.heap.size + 1, 1, none⟩ = some (.slice DA drop.length dc) ∧ X.cell? ⟨w.heap.size + 1, 2, none⟩ = some (.int .i64 elog) ∧ X.cell? ⟨w.heap.size + 1, 3, none⟩ = some (.int .i64 enext)) := hid (fun X hX => by
   have h0 := (hX.block _ (Array.getElem?_eq_some_iff.1 hx0).1).trans hx0
   have h1 := (hX.block _ (Array.getElem?_eq_some_iff.1 hx1).1).trans hx1
   have h2 := (hX.block _ (Array.getElem?_eq_some_iff.1 hk2).1).trans hk2
   exact ⟨box_cell h0, by rw [cell_of_row X _ 2 _ _ (0, 0) h2]; rfl, by rw [cell_of_row X _ 3 _ _ (0, 0) h2]; rfl, by rw [cell_of_row X _ 4 _ _ (0, 0) h2]; rfl, by rw [cell_of_row X _ 0 _ _ (0, 0) h1]; rfl, by rw [cell_of_row X _ 1 _ _ (0, 0) h1]; rfl, by rw [cell_of_row X _ 2 _ _ (0, 0) h1]; rfl, by rw [cell_of_row X _ 3 _ _ (0, 0) h1]; rfl⟩)
 have q1 : w2.cell? ⟨w.heap.size, 0, none⟩ = some (.pointer (some ⟨gk, 0, none⟩)) := box_cell hx0
 have q2 : w2.cell? ⟨gk, 5, none⟩ = some (.bool br) := by rw [cell_of_row w2 _ 5 _ _ (0, 0) hk2]; rfl
 have HW2 := hid hw2
 rw [hw2] at q1 q2
 clear h hk hov hoff hb2 hx0 hx1 hk2 he hx hp hw2 hz2 hede
 go_enter Tryz.func32, Tryz.ntmps32
 rcases br with _ | _
 rotate_left
 · go_wp2_with fail
   go_ret
   rw [← HW2.out]
   exact HSAME.out 9 w2 (by rw [HX.out]; rfl) (Below.refl _ _)
 go_upto_region 3 with fail
 rw [← HW2.out]
 clear q1 q2
 obtain ⟨pc, pf, pl, pn⟩ := p
 go_cut [5, 6] (fun v5 v6 wx => ∃ bn : Nat, v5 = .pointer (some ⟨bn, 0, none⟩) ∧ v6 = .int .i64 pc ∧ Hid (w2.heap.size ≤ bn) ∧ Hid (Below w2.heap.size w2 wx) ∧ Hid (∃ (A6 : Option Addr) (c6 : Nat) (l6 : List Vf), wx.heap[bn]? = some (.cells #[.slice A6 l6.length c6, .int .i64 pl, .int .i64 pn] 24) ∧ l6.map Vf.fi = pf ∧ OwV wx w2.heap.size A6 c6 l6))
 case first =>
   obtain ⟨V, hV⟩ : ∃ V, V = w2.drew := ⟨_, rfl⟩
   have hbV : Below w2.heap.size w2 V := by rw [hV]; exact (Below.refl _ _).drew
   have HBV := hid hbV
   have hy := HYW.out V hbV
   refine wp_region_E 11 (fun X => X.cell? ⟨w.heap.size, 0, none⟩ = some (.pointer (some ⟨gk, 0, none⟩)) ∧ X.cell? ⟨gk, 2, none⟩ = some (.slice A l.length c) ∧ X.cell? ⟨gk, 3, none⟩ = some (.int .i64 log) ∧ X.cell? ⟨gk, 4, none⟩ = some (.int .i64 next) ∧ X.cell? ⟨w.heap.size + 1, 0, none⟩ = some (.slice EA add.length ec) ∧ X.cell? ⟨w.heap.size + 1, 1, none⟩ = some (.slice DA drop.length dc) ∧ X.cell? ⟨w.heap.size + 1, 2, none⟩ = some (.int .i64 elog) ∧ X.cell? ⟨w.heap.size + 1, 3, none⟩ = some (.int .i64 enext)) (by kernel_rfl) ?_
   rw [← hV]
   clear hV hbV
   refine wT (i := 0) (v := ?_) rfl (Or.inl ⟨by rfl, ?_⟩) hy ?_
   rotate_left
   · (intro wy hSw; obtain ⟨hs1, hs2, hs3, hs4, hs5, hs6, hs7, hs8⟩ := hSw; go_simp; try with_reducible rfl)
   try simp only [Act.put, List.setIfInBounds_toArray]
   refine wT (i := 1) (v := ?_) rfl (Or.inl ⟨by rfl, ?_⟩) hy ?_
   rotate_left
   · (intro wy hSw; obtain ⟨hs1, hs2, hs3, hs4, hs5, hs6, hs7, hs8⟩ := hSw; go_simp; try with_reducible rfl)
   try simp only [Act.put]
   refine wT (i := 2) (v := ?_) rfl (Or.inl ⟨by rfl, ?_⟩) hy ?_
   rotate_left
   · (intro wy hSw; obtain ⟨hs1, hs2, hs3, hs4, hs5, hs6, hs7, hs8⟩ := hSw; go_simp; try with_reducible rfl)
   try simp only [Act.put]
   refine wT (i := 3) (v := ?_) rfl (Or.inl ⟨by rfl, ?_⟩) hy ?_
   rotate_left
   · (intro wy hSw; obtain ⟨hs1, hs2, hs3, hs4, hs5, hs6, hs7, hs8⟩ := hSw; go_simp; try with_reducible rfl)
   try simp only [Act.put]
   refine wT (i := 4) (v := ?_) rfl (Or.inl ⟨by rfl, ?_⟩) hy ?_
   rotate_left
   · (intro wy hSw; obtain ⟨hs1, hs2, hs3, hs4, hs5, hs6, hs7, hs8⟩ := hSw; go_simp; try with_reducible rfl)
   try simp only [Act.put]
   simp only [List.getElem_toArray, List.getElem_cons_succ, List.getElem_cons_zero, List.setIfInBounds_toArray, List.set_cons_succ, List.set_cons_zero]
   refine wpAnyE_two (i := 5) (k := 9) (by kernel_rfl) rfl rfl (fun K hK => ?_) (fun K hK => ?_)
   · refine step_call2_dv (by rfl) (some 18) (by rfl) (.tmp 16) (.tmp 17) (by rfl) (.agg #[.slice A l.length c, .int .i64 log, .int .i64 next]) (.agg #[.slice EA add.length ec, .slice DA drop.length dc, .int .i64 elog, .int .i64 enext]) rfl rfl (enters_of Tryz.func11 (by kernel_rfl) rfl) _ (KX.out V HBV.out) ?_
     rintro e w6 ⟨hb6, A6, c6, l6, rfl, hl6, ho6⟩
     simp only at hl6
     have hb6' : Below w2.heap.size w2 w6 := HBV.out.trans (hb6.mono HBV.out.size)
     have hy6 := HYW.out w6 hb6'
     obtain ⟨w7, hw7⟩ : ∃ w7, w7 = w6.alloc (.cells #[.slice none 0 0, .int .i64 0, .int .i64 0] 24) := ⟨_, rfl⟩
     have hb67 : Below w6.heap.size w6 w7 := by rw [hw7]; exact (Below.refl _ _).alloc (Nat.le_refl _) _
     have HB7 : Hid (Below w2.heap.size w2 w7) := hid (hb6'.trans (hb67.mono hb6'.size))
     have HBX : Hid (w7.heap[w6.heap.size]? = some (.cells #[.slice none 0 0, .int .i64 0, .int .i64 0] 24)) := hid (by rw [hw7]; exact heap_alloc_new w6 _)
     have HBL : Hid (w2.heap.size ≤ w6.heap.size) := hid hb6'.size
     have HOW : Hid (OwV w7 w2.heap.size A6 c6 l6) := hid ((ho6.below hb67).mono HBV.out.size)
     have HL6 := hid hl6
     clear hb6 hb6' hb67 HBV KX hy hl6 ho6
     refine ⟨_, rfl, ?_⟩
     refine hK _ _ hy6 ?_
     clear hK K
     simp only [Act.put, List.setIfInBounds_toArray, List.set_cons_succ, List.set_cons_zero]
     refine wT (i := 6) (v := ?_) rfl (Or.inl ⟨by rfl, ?_⟩) hy6 ?_
     rotate_left
     · (intro wy hSw; obtain ⟨hs1, hs2, hs3, hs4, hs5, hs6, hs7, hs8⟩ := hSw; go_simp; try with_reducible rfl)
     try simp only [Act.put]
     refine wT (i := 7) (v := ?_) rfl (Or.inl ⟨by rfl, ?_⟩) hy6 ?_
     rotate_left
     · (intro wy hSw; obtain ⟨hs1, hs2, hs3, hs4, hs5, hs6, hs7, hs8⟩ := hSw; go_simp; try with_reducible rfl)
     try simp only [Act.put]
     refine wT (i := 8) (v := ?_) rfl (Or.inl ⟨by rfl, ?_⟩) hy6 ?_
     rotate_left
     · (intro wy hSw; obtain ⟨hs1, hs2, hs3, hs4, hs5, hs6, hs7, hs8⟩ := hSw; go_simp; try with_reducible rfl)
     try simp only [Act.put]
     simp only [List.getElem_toArray, List.getElem_cons_succ, List.getElem_cons_zero, List.setIfInBounds_toArray, List.set_cons_succ, List.set_cons_zero]
     refine wpAnyE_one (i := 9) (by kernel_rfl) rfl (fun K hK => ?_)
     go_simp
     rw [← hw7]
     refine hK _ _ (HYW.out _ HB7.out) ?_
     clear hK K hw7 hy6
     have hx7 := HBX.out
     have hc0 : w7.cell? ⟨w6.heap.size, 0, none⟩ = some (.slice none 0 0) := by rw [cell_of_row w7 _ 0 _ _ (0, 0) hx7]; rfl
     have hfz0 := frozen_of_row w7 w6.heap.size 0 _ _ hx7
     have hc1 : w7.cell? ⟨w6.heap.size, 1, none⟩ = some (.int .i64 0) := by rw [cell_of_row w7 _ 1 _ _ (0, 0) hx7]; rfl
     have hfz1 := frozen_of_row w7 w6.heap.size 1 _ _ hx7
     have hc2 : w7.cell? ⟨w6.heap.size, 2, none⟩ = some (.int .i64 0) := by rw [cell_of_row w7 _ 2 _ _ (0, 0) hx7]; rfl
     have hfz2 := frozen_of_row w7 w6.heap.size 2 _ _ hx7
     clear hx7
     refine wpAnyE_one (i := 10) (by kernel_rfl) rfl (fun K hK => ?_)
     go_simp
     refine hK _ _ (HYW.out _ (((HB7.out.setCell HBL.out _).setCell HBL.out _).setCell HBL.out _)) ?_
     clear hK K hc0 hc1 hc2 hfz0 hfz1 hfz2
     refine wpAnyE_last (by kernel_rfl) (by kernel_rfl) rfl (fun K hK => ?_)
     go_simp
     refine hK _ _ ?_
     go_wp2_with fail
     go_meet
     obtain ⟨n1, n2⟩ := box3_set (a' := .slice A6 l6.length c6) (b' := .int .i64 pl) (c' := .int .i64 pn) HBX.out
     exact ⟨_, rfl, rfl, HBL, hid (((HB7.out.setCell HBL.out _).setCell HBL.out _).setCell HBL.out _), hid ⟨A6, c6, l6, n1, HL6.out, owV_set3 HOW.out ⟨_, _, HBX.out⟩ (by simp [World.setCell]) n2⟩⟩
   · go_simp
     obtain ⟨V1, hV1⟩ : ∃ V1, V1 = V.alloc (.cells #[.slice none 0 0, .int .i64 0, .int .i64 0] 24) := ⟨_, rfl⟩
     rw [← hV1]
     have hb1 : Below w2.heap.size w2 V1 := by rw [hV1]; exact HBV.out.alloc HBV.out.size _
     have hx1 : V1.heap[V.heap.size]? = some (.cells #[.slice none 0 0, .int .i64 0, .int .i64 0] 24) := by rw [hV1]; exact heap_alloc_new V _
     have HBL : Hid (w2.heap.size ≤ V.heap.size) := hid HBV.out.size
     have HLT : Hid (V.heap.size < V1.heap.size) := hid (Array.getElem?_eq_some_iff.1 hx1).1
     refine hK _ _ (HYW.out _ hb1) ?_
     clear hK K hV1 hy
     refine wpAnyE_one (i := 5) (by kernel_rfl) rfl (fun K hK => ?_)
     refine step_call2_dv (by rfl) (some 18) (by rfl) (.tmp 16) (.tmp 17) (by rfl) (.agg #[.slice A l.length c, .int .i64 log, .int .i64 next]) (.agg #[.slice EA add.length ec, .slice DA drop.length dc, .int .i64 elog, .int .i64 enext]) rfl rfl (enters_of Tryz.func11 (by kernel_rfl) rfl) _ (KX.out V1 hb1) ?_
     rintro e w7 ⟨hb6, A6, c6, l6, rfl, hl6, ho6⟩
     simp only at hl6
     have HB7 : Hid (Below w2.heap.size w2 w7) := hid (hb1.trans (hb6.mono hb1.size))
     have HBX : Hid (w7.heap[V.heap.size]? = some (.cells #[.slice none 0 0, .int .i64 0, .int .i64 0] 24)) := hid ((hb6.block _ HLT.out).trans hx1)
     have HOW : Hid (OwV w7 w2.heap.size A6 c6 l6) := hid (ho6.mono hb1.size)
     have HL6 := hid hl6
     have hy7 := HYW.out _ HB7.out
     clear hb6 hb1 hx1 KX HBV hl6 ho6
     refine ⟨_, rfl, ?_⟩
     refine hK _ _ hy7 ?_
     clear hK K
     simp only [Act.put, List.setIfInBounds_toArray, List.set_cons_succ, List.set_cons_zero]
     refine wT (i := 6) (v := ?_) rfl (Or.inl ⟨by rfl, ?_⟩) hy7 ?_
     rotate_left
     · (intro wy hSw; obtain ⟨hs1, hs2, hs3, hs4, hs5, hs6, hs7, hs8⟩ := hSw; go_simp; try with_reducible rfl)
     try simp only [Act.put]
     refine wT (i := 7) (v := ?_) rfl (Or.inl ⟨by rfl, ?_⟩) hy7 ?_
     rotate_left
     · (intro wy hSw; obtain ⟨hs1, hs2, hs3, hs4, hs5, hs6, hs7, hs8⟩ := hSw; go_simp; try with_reducible rfl)
     try simp only [Act.put]
     refine wT (i := 8) (v := ?_) rfl (Or.inl ⟨by rfl, ?_⟩) hy7 ?_
     rotate_left
     · (intro wy hSw; obtain ⟨hs1, hs2, hs3, hs4, hs5, hs6, hs7, hs8⟩ := hSw; go_simp; try with_reducible rfl)
     try simp only [Act.put]
     simp only [List.getElem_toArray, List.getElem_cons_succ, List.getElem_cons_zero, List.setIfInBounds_toArray, List.set_cons_succ, List.set_cons_zero]
     clear hy7
     have hx7 := HBX.out
     have hc0 : w7.cell? ⟨V.heap.size, 0, none⟩ = some (.slice none 0 0) := by rw [cell_of_row w7 _ 0 _ _ (0, 0) hx7]; rfl
     have hfz0 := frozen_of_row w7 V.heap.size 0 _ _ hx7
     have hc1 : w7.cell? ⟨V.heap.size, 1, none⟩ = some (.int .i64 0) := by rw [cell_of_row w7 _ 1 _ _ (0, 0) hx7]; rfl
     have hfz1 := frozen_of_row w7 V.heap.size 1 _ _ hx7
     have hc2 : w7.cell? ⟨V.heap.size, 2, none⟩ = some (.int .i64 0) := by rw [cell_of_row w7 _ 2 _ _ (0, 0) hx7]; rfl
     have hfz2 := frozen_of_row w7 V.heap.size 2 _ _ hx7
     clear hx7
     refine wpAnyE_one (i := 10) (by kernel_rfl) rfl (fun K hK => ?_)
     go_simp
     refine hK _ _ (HYW.out _ (((HB7.out.setCell HBL.out _).setCell HBL.out _).setCell HBL.out _)) ?_
     clear hK K hc0 hc1 hc2 hfz0 hfz1 hfz2
     refine wpAnyE_last (by kernel_rfl) (by kernel_rfl) rfl (fun K hK => ?_)
     go_simp
     refine hK _ _ ?_
     go_wp2_with fail
     go_meet
     obtain ⟨n1, n2⟩ := box3_set (a' := .slice A6 l6.length c6) (b' := .int .i64 pl) (c' := .int .i64 pn) HBX.out
     exact ⟨_, rfl, rfl, HBL, hid (((HB7.out.setCell HBL.out _).setCell HBL.out _).setCell HBL.out _), hid ⟨A6, c6, l6, n1, HL6.out, owV_set3 HOW.out ⟨_, _, HBX.out⟩ (by simp [World.setCell]) n2⟩⟩
 case rest =>
   obtain ⟨bn, rfl, rfl, HBN, HB3, HST⟩ := hcut
   by_cases hpc : pc = 0
   rotate_left
   · have t1 : ((pc : Int) != 0) = true := by simp [hpc]
     have HE : Hid (x = (pc, s, ⟨l.map Vf.fi, log, next⟩, false)) := hid (by
       rw [HX.out]
       unfold logP
       rw [if_neg (by decide), ← HP.out, if_pos hpc])
     go_wp2_with fail
     go_ret
     exact HSAME.out pc wc HE.out HB3.out
   have HPC := hid hpc
   have t1 : ((pc : Int) != 0) = false := by rw [hpc]; rfl
   subst hpc
   have KF3 := hid (KF.out wc HB3.out)
   obtain ⟨_, _, _, _, e0, e1, e2, e3⟩ := HYW.out wc HB3.out
   clear KF KX
   go_wp2_with fail
   refine KF3.out.mono ?_
   rintro r w4 ⟨hb4, ⟨hbg, rfl⟩ | ⟨hsm, FA, fc, rfl, hof⟩⟩
   · have HB4 := hid (HB3.out.trans (hb4.mono HB3.out.size))
     have HE : Hid (x = (2, s, ⟨l.map Vf.fi, log, next⟩, false)) := hid (by
       rw [HX.out]
       unfold logP
       rw [if_neg (by decide), ← HP.out, if_neg (by simp), if_pos hbg])
     clear hb4 e0 e1 e2 e3 t1
     go_wp2_with fail
     go_ret
     exact HSAME.out 2 _ HE.out (HB4.out.alloc HB4.out.size _)
   obtain ⟨fb, hfb⟩ : ∃ fb, fb = Frm.put 69 (frB ed) := ⟨_, rfl⟩
   rw [← hfb] at hof ⊢
   obtain ⟨y, hy⟩ : ∃ y, y = allP (logSteps n fb) s := ⟨_, rfl⟩
   have HXE : Hid (x = if y.1 ≠ 0 then (y.1, y.2, ⟨l.map Vf.fi, log, next⟩, true) else (0, y.2, ⟨pf, pl, pn⟩, false)) := hid (by
     rw [HX.out, hy, hfb]
     unfold logP
     rw [if_neg (by decide), ← HP.out, if_neg (by simp), if_neg (by omega)])
   obtain ⟨w5, hw5⟩ : ∃ w5, w5 = w4.alloc (.cells #[.slice FA fb.length fc] 37) := ⟨_, rfl⟩
   have hb45 : Below w4.heap.size w4 w5 := by rw [hw5]; exact (Below.refl _ _).alloc (Nat.le_refl _) _
   have hx5 : w5.heap[w4.heap.size]? = some (.cells #[.slice FA fb.length fc] 37) := by rw [hw5]; exact heap_alloc_new w4 _
   have hb35 : Below wc.heap.size wc w5 := hb4.trans (hb45.mono hb4.size)
   obtain ⟨w7, hw7⟩ : ∃ w7, w7 = w5.alloc (.cells #[.func (.func 94) #[] #[.pointer (some ⟨w.heap.size, 0, none⟩), .pointer (some ⟨w4.heap.size, 0, none⟩)], .func (.func 95) #[] #[.pointer (some ⟨w.heap.size, 0, none⟩)]] 120) := ⟨_, rfl⟩
   have hb57 : Below w5.heap.size w5 w7 := by rw [hw7]; exact (Below.refl _ _).alloc (Nat.le_refl _) _
   have hx7 : w7.heap[w5.heap.size]? = some (.cells #[.func (.func 94) #[] #[.pointer (some ⟨w.heap.size, 0, none⟩), .pointer (some ⟨w4.heap.size, 0, none⟩)], .func (.func 95) #[] #[.pointer (some ⟨w.heap.size, 0, none⟩)]] 120) := by rw [hw7]; exact heap_alloc_new w5 _
   have hb37 : Below wc.heap.size wc w7 := hb35.trans (hb57.mono hb35.size)
   have hb27 : Below w2.heap.size w2 w7 := HB3.out.trans (hb37.mono HB3.out.size)
   have hs7 : Sto.StAt w7 base g s m := HS.out.below (HB2.out.trans (hb27.mono HB2.out.size))
   have hxb : w7.heap[w.heap.size]? = some (.cells #[.pointer (some ⟨gk, 0, none⟩)] 54) := (hb27.block _ (Array.getElem?_eq_some_iff.1 HX0.out).1).trans HX0.out
   have hxk : w7.heap[gk]? = some (bkObj g n A l c log next false) := (hb27.block _ (Array.getElem?_eq_some_iff.1 HK2.out).1).trans HK2.out
   have hxc : w7.heap[w4.heap.size]? = some (.cells #[.slice FA fb.length fc] 37) := (hb57.block _ (Array.getElem?_eq_some_iff.1 hx5).1).trans hx5
   have hnk : ¬ Sto.Mut g m gk := fun hm => not_foot_book hs7 ⟨_, _, hxk⟩ (.inl hm)
   have hnm : ∀ q, w.heap.size ≤ q → ¬ Sto.Mut g m q := fun q hq hm => by have := (HS.out.r.mut_ge hm).2; omega
   have hfr : RdB w7 w7.heap.size FA fb := (hof.rd.below (hb45.trans (hb57.mono hb45.size)) (Nat.le_refl _)).more (hb45.trans (hb57.mono hb45.size)).size
   have hz23 : w.heap.size ≤ wc.heap.size := by have := HB3.out.size; have := HZ2.out; omega
   have hz4 : wc.heap.size ≤ w4.heap.size := hb4.size
   have hz5 : w4.heap.size ≤ w5.heap.size := hb45.size
   have hz7 : w5.heap.size ≤ w7.heap.size := hb57.size
   have hfn : ∀ q, blk FA = some q → q < w7.heap.size ∧ ¬ Sto.Mut g m q := fun q e => ⟨by have := (hof.blk_ge q e).2; omega, hnm q (by have := (hof.blk_ge q e).1; omega)⟩
   obtain ⟨fs, hfs⟩ : ∃ fs : List Fc, fs = [⟨94, [], [.pointer (some ⟨w.heap.size, 0, none⟩), .pointer (some ⟨w4.heap.size, 0, none⟩)]⟩, ⟨95, [], [.pointer (some ⟨w.heap.size, 0, none⟩)]⟩] := ⟨_, rfl⟩
   have KA := hid (all_any (σ := Sto.St) fs (logSteps n fb) (by rw [hfs]; rfl) (fun k y X => StK w7 base g m y X ∧ (k = 0 → y = s) ∧ (k = 1 → y = (Sto.append s n fb).2)) (some ⟨w5.heap.size, 0, none⟩) 2 s w7 ⟨⟨m, hs7, Sto.Aft.refl _ _ _⟩, fun _ => rfl, by omega⟩ (by rw [hfs]; simp)
     (fun k y X hX => by
       have e := (hX.1.keep (Array.getElem?_eq_some_iff.1 hx7).1 (hnm _ (by omega))).trans hx7
       subst hfs
       refine RdS.of (f := F1) (n := 1) (fun _ => rfl) _ 0 (Array.getElem?_eq_some_iff.1 e).1 (fun k hk j u hj => ?_)
       have hj0 : j = 0 := by
         rcases j with _ | j
         · rfl
         · simp [F1] at hj
       subst hj0
       rw [cell_of_row _ _ _ _ _ (0, 0) e]
       rcases k with _ | _ | k
       · simpa [F1, Fc.val] using hj
       · simpa [F1, Fc.val] using hj
       · exfalso; simp only [List.length_cons, List.length_nil] at hk; omega)
     (fun f hf args w => by
       subst hfs
       simp only [List.mem_cons, List.not_mem_nil, or_false] at hf
       rcases hf with rfl | rfl <;> rfl)
     (fun k hk y X hX => by
       obtain ⟨hS1, i0, i1⟩ := hX
       subst hfs
       rcases k with _ | _ | k
       · have e := i0 rfl
         subst e
         exact (log1_any w7 X base g _ gk _ m y n hn hS1 (by omega) _ _ _ _ hxb (hnm _ (Nat.le_refl _)) hxk hnk FA fc fb hxc (hnm _ (by omega)) hfr hfn).mono fun e W' ⟨h1, h2⟩ => ⟨h1, h2, by omega, fun _ => rfl⟩
       · have e := i1 rfl
         subst e
         exact (log2_any w7 X base g _ gk m _ n hn hS1 _ _ _ _ hxb (hnm _ (Nat.le_refl _)) hxk hnk).mono fun e W' ⟨h1, h2⟩ => ⟨h1, h2, by omega, by omega⟩
       · exfalso; simp only [List.length_cons, List.length_nil] at hk; omega))
   have e2' : fs.length = 2 := by rw [hfs]; rfl
   rw [e2', ← hy] at KA
   obtain ⟨A6, c6, l6, hst, hl6, ho6⟩ := HST.out
   have hst7 := (hb37.block _ (Array.getElem?_eq_some_iff.1 hst).1).trans hst
   have HST7 := hid hst7
   have HO7 := hid (ho6.below hb37)
   have HL6 := hid hl6
   have HXK := hid hxk
   have HXB7 := hid hxb
   have HNK := hid hnk
   have HNM := hid hnm
   have HB27 := hid hb27
   have HW7 := hid hw7
   have HW5 := hid hw5
   have hz5e : w5.heap.size = w4.heap.size + 1 := by rw [hw5]; simp
   rw [hz5e] at KA
   rw [hw7, hw5] at KA
   clear hy hfb hb4 hof hb45 hx5 hb35 hb57 hx7 hb37 hb27 hs7 hxb hxk hxc hnk hnm hfr hz23 hz4 hz5 hz7 hfn hfs e2' hst hl6 ho6 hst7 hw7 hw5 hz5e e0 e1 e2 e3 HST t1
   go_wp2_with fail
   refine KA.out.mono ?_
   rw [← HW5.out, ← HW7.out]
   rintro e w8 ⟨rfl, j, hst8, -⟩
   dsimp only
   have H8 := hid hst8
   have hk8 := (hst8.keep (Array.getElem?_eq_some_iff.1 HXK.out).1 HNK.out).trans HXK.out
   have hb8 := (hst8.keep (Array.getElem?_eq_some_iff.1 HXB7.out).1 (HNM.out _ (Nat.le_refl _))).trans HXB7.out
   have hn8 := (hst8.keep (Array.getElem?_eq_some_iff.1 HST7.out).1 (HNM.out _ (by have := HBN.out; have := HZ2.out; omega))).trans HST7.out
   have c0 := box_cell hb8
   have c2 : w8.cell? ⟨gk, 2, none⟩ = some (.slice A l.length c) := by rw [cell_of_row w8 _ 2 _ _ (0, 0) hk8]; rfl
   have c3 : w8.cell? ⟨gk, 3, none⟩ = some (.int .i64 log) := by rw [cell_of_row w8 _ 3 _ _ (0, 0) hk8]; rfl
   have c4 : w8.cell? ⟨gk, 4, none⟩ = some (.int .i64 next) := by rw [cell_of_row w8 _ 4 _ _ (0, 0) hk8]; rfl
   have c5 : w8.cell? ⟨gk, 5, none⟩ = some (.bool false) := by rw [cell_of_row w8 _ 5 _ _ (0, 0) hk8]; rfl
   have z2 := frozen_of_row w8 gk 2 _ _ hk8
   have z3 := frozen_of_row w8 gk 3 _ _ hk8
   have z4 := frozen_of_row w8 gk 4 _ _ hk8
   have z5 := frozen_of_row w8 gk 5 _ _ hk8
   obtain ⟨n0, n1, n2⟩ : w8.cell? ⟨bn, 0, none⟩ = some (.slice A6 l6.length c6) ∧ w8.cell? ⟨bn, 1, none⟩ = some (.int .i64 pl) ∧ w8.cell? ⟨bn, 2, none⟩ = some (.int .i64 pn) := ⟨by rw [cell_of_row w8 _ 0 _ _ (0, 0) hn8]; rfl, by rw [cell_of_row w8 _ 1 _ _ (0, 0) hn8]; rfl, by rw [cell_of_row w8 _ 2 _ _ (0, 0) hn8]; rfl⟩
   have HK8 := hid hk8
   obtain ⟨yc, ys⟩ := y
   simp only at HXE H8 ⊢
   clear hst8 hk8 hb8 hn8 KA
   by_cases hyc : yc = 0
   · subst hyc
     have t2 : ((0 : Int) != 0) = false := by rfl
     go_wp2_with fail
     go_ret
     clear c0 c2 c3 c4 c5 z2 z3 z4 z5 n0 n1 n2 t2
     rw [HXE.out, if_neg (by simp)]
     obtain ⟨m9, h1, h2⟩ := H8.out
     have htg : ∀ {X : World}, X.heap[gk]? = w8.heap[gk]? → Sto.Tag X gk 114 := fun hX => ⟨_, _, hX.trans HK8.out⟩
     have ha0 : AftB w w8 g gk m m9 := (AftB.of (Sto.Aft.of_below (HB2.out.trans (HB27.out.mono HB2.out.size)))).trans (AftB.of h2)
     have k1 : ∀ q, q ≠ gk → (((w8.setCell ⟨gk, 2, none⟩ (.slice A6 l6.length c6)).setCell ⟨gk, 3, none⟩ (.int .i64 pl)).setCell ⟨gk, 4, none⟩ (.int .i64 pn)).heap[q]? = w8.heap[q]? := fun q hq => (Below.heap_setCell _ _ _ _ hq).trans ((Below.heap_setCell _ _ _ _ hq).trans (Below.heap_setCell _ _ _ _ hq))
     have g1 := heap_setCell_same w8 gk 2 _ 114 (.slice A6 l6.length c6) HK8.out
     have g2 := heap_setCell_same _ gk 3 _ 114 (.int .i64 pl) g1
     have o8 : OwV w8 w2.heap.size A6 c6 l6 := HO7.out.keep h2.size (fun q e => h2.block q (owV_lt HO7.out e).2 (HNM.out q (by have := (owV_lt HO7.out e).1; have := HZ2.out; omega)))
     exact ⟨rfl, m9, A6, c6, l6, StAt_set (StAt_set (StAt_set h1 ⟨_, _, HK8.out⟩ 2 _) ⟨_, _, g1⟩ 3 _) ⟨_, _, g2⟩ 4 _, ha0.trans ((AftB.set _ _ _ _ _ _).trans ((AftB.set _ _ _ _ _ _).trans (AftB.set _ _ _ _ _ _))), book_set3 HK8.out, HL6.out, (owV_book o8 ⟨_, _, HK8.out⟩ (by simp [World.setCell]) k1).mono (by have := HZ2.out; omega), fun q e hm => HNM.out q (by have := (owV_lt HO7.out e).1; have := HZ2.out; omega) (h2.turn q (owV_lt HO7.out e).2 hm)⟩
   · have t2 : ((yc : Int) != 0) = true := by simp [hyc]
     go_wp2_with fail
     go_ret
     clear c0 c2 c3 c4 c5 z2 z3 z4 z5 n0 n1 n2 t2
     rw [HXE.out, if_pos hyc]
     obtain ⟨m9, h1, h2⟩ := H8.out
     have ha0 : AftB w w8 g gk m m9 := (AftB.of (Sto.Aft.of_below (HB2.out.trans (HB27.out.mono HB2.out.size)))).trans (AftB.of h2)
     exact ⟨rfl, m9, A, c, l, StAt_set h1 ⟨_, _, HK8.out⟩ 5 _, ha0.trans (AftB.set _ _ _ _ _ _), book_set5 HK8.out, rfl, owV_aftB HOV.out HOFF.out ⟨_, _, HK0.out⟩ (ha0.trans (AftB.set _ _ _ _ _ _)), HOFF.out.aftB HOV.out ha0⟩
end Ver
namespace Ver
theorem nb_len {p n : List UInt8} (h : 0 < nb p n) : n.length = 10 := by
 unfold nb at h
 split at h
 · rename_i h1
   exact h1.1
 · omega
theorem gone_len {l : List Vf} {list n : Sto.Str} (h : goneB l list n = true) : n.length ≤ maxLen := by
 have h10 : n.length = 10 := by
   unfold goneB at h
   rw [Bool.or_eq_true, Bool.and_eq_true, Bool.and_eq_true] at h
   rcases h with h | h
   · exact nb_len (of_decide_eq_true h.1)
   · exact nb_len (of_decide_eq_true h.1)
 rw [h10]; unfold maxLen; omega
theorem syncDir_kept (s : Sto.St) : (Sto.syncDir s).2.kept.length ≤ s.kept.length := by
 obtain ⟨_, h2, _, _, _⟩ := Sto.meet_files s []
 unfold Sto.syncDir
 simp only
 split
 · rw [h2]; exact Nat.le_refl _
 · simp
def cf (b : Nat) (p : Nat × Sto.Str) : Fc := ⟨130, [], [.pointer (some ⟨b, 0, none⟩), .pointer (some ⟨p.1, 0, none⟩)]⟩
def sdf (g : Nat) : Fc := ⟨91, [.pointer (some ⟨g, 0, none⟩)], []⟩
theorem rd_fc_new (w : World) (c : Fc) : RdS F1 1 (w.alloc (.cells #[c.val] 120)) (w.heap.size + 1) (some ⟨w.heap.size, 0, none⟩) [c] := by
 refine RdS.of (f := F1) (n := 1) (l := [c]) (fun _ => rfl) _ 0 (by omega) (fun k hk j u hj => ?_)
 obtain rfl : k = 0 := by simp at hk; exact hk
 have hj' : (F1 c)[j]? = some u := hj
 rw [cell_of_row _ w.heap.size _ _ _ (0, 0) (heap_alloc_new w _)]
 simpa [F1] using hj'
theorem filt_step {l : List Vf} {list : Sto.Str} {L : List Sto.Str} {k : Nat} (hk : k < L.length) : (L.take (k + 1)).filter (goneB l list) = (L.take k).filter (goneB l list) ++ (if goneB l list L[k] = true then [L[k]] else []) := by
 rw [List.take_succ_eq_append_getElem hk, List.filter_append]
 congr 1
 simp only [List.filter_cons, List.filter_nil]
theorem keep_box {w w' : World} {p : Nat} {S : ByteArray} {A : Option Addr} {c : Nat} {fs : List Fc} {bs : Nat} (hx : w.heap[p]? = some (.cells #[.string S] 9)) (ho : OwnS F1 1 w bs 120 A c fs) (hg : w.grownBy w' (blk A)) : w'.heap[p]? = some (.cells #[.string S] 9) := by
 have hlt := (Array.getElem?_eq_some_iff.1 hx).1
 refine (hg.block p hlt (fun e => ?_)).trans hx
 have t := Sto.ownTagS ho e.symm
 exact t.ne ⟨_, _, hx⟩ (by decide) rfl
set_option maxHeartbeats 4000000 in
set_option maxRecDepth 100000 in
theorem steps_any (w9 : World) (base g bb gk : Nat) (m : Sto.Mem) (s : Sto.St) (h : Sto.StAt w9 base g s m) (B : Nat) (hB : ∀ q, B ≤ q → ¬ Sto.Mut g m q) (l : List Vf) (list : Sto.Str) (P : List (Nat × Sto.Str)) (hG : ∀ p ∈ P, goneB l list p.2 = true) (hP : 0 < P.length)
   (v1 v2 v3 v4 v5 : Value) (hbb : w9.heap[bb]? = some (.cells #[.pointer (some ⟨gk, 0, none⟩)] 54)) (hbl : B ≤ bb) (hkb : w9.heap[gk]? = some (.cells #[.pointer (some ⟨g, 0, none⟩), v1, v2, v3, v4, v5] 114)) (hkn : ¬ Sto.Mut g m gk)
   (hPx : ∀ p ∈ P, w9.heap[p.1]? = some (.cells #[.string ⟨p.2.toArray⟩] 9) ∧ B ≤ p.1) (hpl : s.kept.length + P.length ≤ 999999)
   (SA : Option Addr) (sc bs : Nat) (hbs : B ≤ bs) (fs : List Fc) (hfs : fs = P.map (cf bb) ++ [sdf g]) (ho : OwnS F1 1 w9 bs 120 SA sc fs) :
   Calls Tryz.prog 71 #[.slice SA fs.length sc] w9 (Sto.OpP w9 base g m (allP (cleanSteps (P.map (·.2))) s)) := by
 have hst : cleanSteps (P.map (·.2)) = P.map (fun p s => Sto.remove s p.2) ++ [fun s => Sto.syncDir s] := by
   unfold cleanSteps
   rw [if_neg (by intro e; rw [List.map_eq_nil_iff] at e; rw [e] at hP; simp at hP), List.map_map]
   rfl
 rw [hst]
 have hfl : fs.length = P.length + 1 := by rw [hfs]; simp
 refine (all_any (σ := Sto.St) fs (P.map (fun p s => Sto.remove s p.2) ++ [fun s => Sto.syncDir s]) (by rw [hfl]; simp) (fun k y X => StK w9 base g m y X ∧ y.kept.length ≤ s.kept.length + k) SA sc s w9 ⟨⟨m, h, Sto.Aft.refl _ _ _⟩, by omega⟩ (by omega) ?_ ?_ ?_).mono ?_
 · intro k y X hX
   exact (ho.keep (fun q e => hX.1.keep (ho.blk_ge q e).2 (hB q (Nat.le_trans hbs (ho.blk_ge q e).1)))).rd
 · intro f hf args w
   rw [hfs] at hf
   rcases List.mem_append.1 hf with hf | hf
   · obtain ⟨p, _, rfl⟩ := List.mem_map.1 hf
     rfl
   · rw [List.mem_singleton] at hf
     subst hf
     rfl
 · intro k hk y X hX
   obtain ⟨h1, h2⟩ := hX
   subst hfs
   rcases Nat.lt_or_ge k P.length with hlt | hge
   · have e1 : (P.map (cf bb) ++ [sdf g])[k] = cf bb P[k] := by rw [List.getElem_append_left (by simpa using hlt)]; simp
     have e2 : (P.map (fun p s => Sto.remove s p.2) ++ [fun s => Sto.syncDir s])[k]'(by simp; omega) = fun s => Sto.remove s P[k].2 := by rw [List.getElem_append_left (by simpa using hlt)]; simp
     rw [e1, e2]
     obtain ⟨hx, hxb⟩ := hPx P[k] (List.getElem_mem hlt)
     have hsz := (remove_szv y P[k].2).2
     refine (clean2_any w9 X base g bb gk P[k].1 m y P[k].2 (gone_len (hG _ (List.getElem_mem hlt))) h1 (by omega) v1 v2 v3 v4 v5 hbb (hB _ hbl) hkb hkn hx (hB _ hxb)).mono ?_
     rintro e W' ⟨h3, h4⟩
     refine ⟨h3, h4, ?_⟩
     show (Sto.remove y P[k].2).2.kept.length ≤ s.kept.length + (k + 1)
     omega
   · have hke : k = P.length := by omega
     subst hke
     have e1 : (P.map (cf bb) ++ [sdf g])[P.length] = sdf g := by rw [List.getElem_append_right (by simp)]; simp
     have e2 : (P.map (fun p s => Sto.remove s p.2) ++ [fun s => Sto.syncDir s])[P.length]'(by simp) = fun s => Sto.syncDir s := by rw [List.getElem_append_right (by simp)]; simp
     rw [e1, e2]
     refine (h1.op (fun m hm => Sto.syncDir_any hm)).mono ?_
     rintro e W' ⟨h3, h4⟩
     refine ⟨h3, h4, ?_⟩
     have := syncDir_kept y
     show (Sto.syncDir y).2.kept.length ≤ s.kept.length + (P.length + 1)
     omega
 · rintro e W' ⟨rfl, j, ⟨m9, h1, h2⟩, _⟩
   exact ⟨rfl, m9, h1, h2⟩
set_option maxHeartbeats 4000000 in
set_option maxRecDepth 100000 in
theorem clean_any (w : World) (base bs g gk : Nat) (m : Sto.Mem) (s : Sto.St) (h : Sto.StAt w base g s m) (hf : s.files.length ≤ 900000) (hkl : s.kept.length + s.files.length ≤ 900000)
   (list : Sto.Str) (A : Option Addr) (c : Nat) (l : List Vf) (log next : Int) (br : Bool) (hk : w.heap[gk]? = some (bkObj g list A l c log next br)) (hov : OwV w bs A c l) (hll : l.length ≤ 1000000) :
   Calls Tryz.prog 73 #[.pointer (some ⟨gk, 0, none⟩)] w (Sto.OpP w base g m (cleanP s l list)) := by
 have hnf : (Sto.names s).length ≤ s.files.length := by
   unfold Sto.names
   rw [List.length_map]
   exact h.r.ok.gnow.len
 have hnl : (Sto.names s).length ≤ 900000 := by omega
 obtain ⟨x, hx⟩ : ∃ x, x = cleanP s l list := ⟨_, rfl⟩
 rw [← hx]
 have HXE := hid hx
 clear hx
 obtain ⟨w1, hw1⟩ : ∃ w1, w1 = w.alloc (.cells #[.pointer (some ⟨gk, 0, none⟩)] 54) := ⟨_, rfl⟩
 have hb1 : Below w.heap.size w w1 := by rw [hw1]; exact (Below.refl _ _).alloc (Nat.le_refl _) _
 have hx1 : w1.heap[w.heap.size]? = some (.cells #[.pointer (some ⟨gk, 0, none⟩)] 54) := by rw [hw1]; exact heap_alloc_new w _
 have KN := hid (Sto.names_any (h.below hb1) (by omega))
 have HK0 := hid hk
 have HB1 := hid hb1
 have HX1 := hid hx1
 have HOV := hid hov
 have HS0 := hid h
 have q1 : w1.cell? ⟨w.heap.size, 0, none⟩ = some (.pointer (some ⟨gk, 0, none⟩)) := box_cell hx1
 have q2 : w1.cell? ⟨gk, 0, none⟩ = some (.pointer (some ⟨g, 0, none⟩)) := by
   rw [cell_of_row w1 _ 0 _ _ (0, 0) ((hb1.block gk (Array.getElem?_eq_some_iff.1 hk).1).trans hk)]; rfl
 rw [hw1] at KN q1 q2
 clear h hk hb1 hx1 hov
 go_enter Tryz.func73, Tryz.ntmps73
 go_wp2_with fail
 refine KN.out.mono ?_
 rw [← hw1]
 rintro e w2 ⟨NA, nc, rfl, hno, hb2⟩
 have hbb : Below w.heap.size w w2 := HB1.out.trans (hb2.mono HB1.out.size)
 have HNM : Hid (∀ X, Below w2.heap.size w2 X → RdS Sto.S1 1 X X.heap.size NA (Sto.names s) ∧ OwV X bs A c l ∧ X.cell? ⟨w.heap.size, 0, none⟩ = some (.pointer (some ⟨gk, 0, none⟩)) ∧ X.cell? ⟨gk, 0, none⟩ = some (.pointer (some ⟨g, 0, none⟩)) ∧ X.cell? ⟨gk, 1, none⟩ = some (.string ⟨list.toArray⟩) ∧ X.cell? ⟨gk, 2, none⟩ = some (.slice A l.length c)) := hid (fun X hX => by
   have hbX := hbb.trans (hX.mono hbb.size)
   have hx := (hX.block _ (Array.getElem?_eq_some_iff.1 ((hb2.block _ (Array.getElem?_eq_some_iff.1 HX1.out).1).trans HX1.out)).1).trans ((hb2.block _ (Array.getElem?_eq_some_iff.1 HX1.out).1).trans HX1.out)
   have hk := (hbX.block _ (Array.getElem?_eq_some_iff.1 HK0.out).1).trans HK0.out
   exact ⟨(hno.below hX).rd, HOV.out.below hbX, box_cell hx, by rw [cell_of_row X _ 0 _ _ (0, 0) hk]; rfl, by rw [cell_of_row X _ 1 _ _ (0, 0) hk]; rfl, by rw [cell_of_row X _ 2 _ _ (0, 0) hk]; rfl⟩)
 have HB2 := hid hbb
 have HX2 := hid ((hb2.block _ (Array.getElem?_eq_some_iff.1 HX1.out).1).trans HX1.out)
 obtain ⟨L, hL⟩ : ∃ L, L = Sto.names s := ⟨_, rfl⟩
 have HGO : Hid (goners s l list = L.filter (goneB l list)) := hid (by rw [hL]; rfl)
 rw [← hL] at HNM hnl hnf ⊢
 clear hbb hno hb2 q1 q2 hw1 KN hL
 go_wp2_with fail
 go_loopw [3, 14] (fun a i wr => ∃ (k sc : Nat) (SA : Option Addr) (P : List (Nat × Sto.Str)) (fs : List Fc), k ≤ L.length ∧ i = .int .i64 (k : Int) ∧ a = .slice SA fs.length sc ∧ Hid (fs = P.map (cf w.heap.size)) ∧ Hid (fs.length ≤ k) ∧ Hid (P.map (·.2) = (L.take k).filter (goneB l list)) ∧ Hid (∀ p ∈ P, wr.heap[p.1]? = some (.cells #[.string ⟨p.2.toArray⟩] 9) ∧ w.heap.size ≤ p.1) ∧ Hid (OwnS F1 1 wr w2.heap.size 120 SA sc fs) ∧ Hid (Below w2.heap.size w2 wr)) (fun _ i _ => L.length - (intOf i).toNat)
 case atStart => exact ⟨0, 0, none, [], [], by omega, rfl, rfl, hid rfl, hid (by simp), hid (by simp), hid (fun p hp => by cases hp), hid (OwnS.nil _ _ _), hid (Below.refl _ _)⟩
 case round =>
   obtain ⟨k, sc, SA, P, fs, hk, rfl, rfl, HFS, HFL, HPN, HPX, HOF, HBR⟩ := hrel
   by_cases hlt : k < L.length
   · have hlt' : (k : Int) < (L.length : Int) := by omega
     have hk0 : (0 : Int) ≤ (k : Int) := by omega
     obtain ⟨b, off, hA, hb, hc⟩ := RdS.row (f := Sto.S1) (n := 1) (fun _ => rfl) (by omega) (HNM.out wr HBR.out).1 (by omega)
     have c0 := hc k hlt 0 _ rfl
     rw [Nat.add_zero, Nat.mul_one] at c0
     unfold Sto.str at c0
     have HFT := hid (filt_step (l := l) (list := list) hlt)
     obtain ⟨q, hq⟩ : ∃ q, q = L[k] := ⟨_, rfl⟩
     rw [← hq] at c0 HFT
     obtain ⟨Q, hQ⟩ : ∃ Q, (⟨q.toArray⟩ : ByteArray) = Q := ⟨_, rfl⟩
     rw [hQ] at c0
     obtain ⟨y, hy⟩ : ∃ y, y = nb tabB q := ⟨_, rfl⟩
     obtain ⟨x, hx⟩ : ∃ x, x = nb manB q := ⟨_, rfl⟩
     have KB : Hid (∀ X, Calls Tryz.prog 69 #[.string ⟨#[116, 97, 98, 45]⟩, .string Q] X fun e w' => e = .returned (.int .i64 (y : Int)) ∧ Below X.heap.size X w') := hid (fun X => by
       have h9 := numbered_any tabB rfl q X
       rw [← hy, hQ] at h9
       exact h9)
     have KM : Hid (∀ X, Calls Tryz.prog 69 #[.string ⟨#[109, 97, 110, 45]⟩, .string Q] X fun e w' => e = .returned (.int .i64 (x : Int)) ∧ Below X.heap.size X w') := hid (fun X => by
       have h9 := numbered_any manB rfl q X
       rw [← hx, hQ] at h9
       exact h9)
     obtain ⟨lv, hlv⟩ : ∃ lv, lv = l.any (fun v => decide (v.number = (y : Int))) := ⟨_, rfl⟩
     obtain ⟨gB, hgB⟩ : ∃ gB, gB = ((decide (0 < x) && decide (q ≠ list)) || (decide (0 < y) && !lv)) := ⟨_, rfl⟩
     have HGG : Hid (goneB l list q = gB) := hid (by rw [hgB, hlv, hx, hy]; rfl)
     have KL : Hid (∀ X b, Below w2.heap.size w2 X → X.heap[b]? = some (.cells #[.int .i64 (y : Int)] 3) → Calls Tryz.prog 101 #[.slice A l.length c, .func (.func 129) #[] #[.pointer (some ⟨b, 0, none⟩)]] X fun e w' => e = .returned (.bool lv) ∧ Below X.heap.size X w') := hid (fun X b hX hb => by
       rw [hlv]
       exact contains_any 129 [.pointer (some ⟨b, 0, none⟩)] (fun v => decide (v.number = (y : Int))) A c l X (HNM.out X hX).2.1.rd hll (fun v _ W hW => clean1_any v W b y ((hW.block b (Array.getElem?_eq_some_iff.1 hb).1).trans hb)) (fun _ _ => rfl))
     have HQ := hid hQ
     subst hA
     clear hq hc hy hx hQ hlv
     go_wp2_with fail
     refine (KB.out _).mono ?_
     rintro e x2 ⟨rfl, hb2⟩
     have hba : Below wr.heap.size wr (wr.alloc (.cells #[.string Q] 9)) := (Below.refl _ _).alloc (Nat.le_refl _) _
     have hbr2 : Below w2.heap.size w2 x2 := HBR.out.trans ((hba.trans (hb2.mono hba.size)).mono HBR.out.size)
     have hxq : x2.heap[wr.heap.size]? = some (.cells #[.string Q] 9) := (hb2.block _ (by simp)).trans (heap_alloc_new wr _)
     obtain ⟨x3, hx3⟩ : ∃ x3, x3 = x2.alloc (.cells #[.int .i64 (y : Int)] 3) := ⟨_, rfl⟩
     have hb3 : Below x2.heap.size x2 x3 := by rw [hx3]; exact (Below.refl _ _).alloc (Nat.le_refl _) _
     have hxy : x3.heap[x2.heap.size]? = some (.cells #[.int .i64 (y : Int)] 3) := by rw [hx3]; exact heap_alloc_new x2 _
     have hxq3 := (hb3.block _ (Array.getElem?_eq_some_iff.1 hxq).1).trans hxq
     have HB3 := hid (hbr2.trans (hb3.mono hbr2.size))
     obtain ⟨_, _, d1, d2, d3, d4⟩ := HNM.out x3 HB3.out
     have HRX3 : Hid (Below wr.heap.size wr x3) := hid ((hba.trans (hb2.mono hba.size)).trans (hb3.mono (hba.trans (hb2.mono hba.size)).size))
     have HXY := hid hxy
     have HXQ := hid hxq3
     have KL3 := hid (KL.out x3 x2.heap.size HB3.out hxy)
     rw [hx3] at d1 d2 d3 d4 KL3
     clear hb2 hba hbr2 hxq hb3 hxy hxq3 KB KL
     go_wp2_with fail
     refine KL3.out.mono ?_
     rw [← hx3]
     rintro e x4 ⟨rfl, hb4⟩
     have hb34 := HB3.out.trans (hb4.mono HB3.out.size)
     have HB4 := hid hb34
     have HXY4 := hid ((hb4.block _ (Array.getElem?_eq_some_iff.1 HXY.out).1).trans HXY.out)
     have HXQ4 := hid ((hb4.block _ (Array.getElem?_eq_some_iff.1 HXQ.out).1).trans HXQ.out)
     have HRX4 : Hid (Below wr.heap.size wr x4) := hid (HRX3.out.trans (hb4.mono HRX3.out.size))
     clear hb4 hb34 d1 d2 d3 d4 hx3 KL3
     have HGB : Hid (gB = ((decide (0 < x) && decide (q ≠ list)) || (decide (0 < y) && !lv))) := hid hgB
     clear hgB
     obtain ⟨R, hR⟩ : ∃ R, (⟨list.toArray⟩ : ByteArray) = R := ⟨_, rfl⟩
     have HYW : Hid (∀ X, Below x4.heap.size x4 X → X.cell? ⟨wr.heap.size, 0, none⟩ = some (.string Q) ∧ X.cell? ⟨x2.heap.size, 0, none⟩ = some (.int .i64 (y : Int)) ∧ X.cell? ⟨w.heap.size, 0, none⟩ = some (.pointer (some ⟨gk, 0, none⟩)) ∧ X.cell? ⟨gk, 1, none⟩ = some (.string R)) := hid (fun X hX => by
       have h9 := HNM.out X (HB4.out.trans (hX.mono HB4.out.size))
       exact ⟨box_cell ((hX.block _ (Array.getElem?_eq_some_iff.1 HXQ4.out).1).trans HXQ4.out), box_cell ((hX.block _ (Array.getElem?_eq_some_iff.1 HXY4.out).1).trans HXY4.out), h9.2.2.1, hR ▸ h9.2.2.2.2.1⟩)
     go_upto_region 7 with fail
     go_cut [45] from 15 to 50 (fun v wx => v = .bool gB ∧ Hid (Below x4.heap.size x4 wx))
     case first =>
       obtain ⟨V, hV⟩ : ∃ V, V = x4.drew := ⟨_, rfl⟩
       have hbV : Below x4.heap.size x4 V := by rw [hV]; exact (Below.refl _ _).drew
       have HBV := hid hbV
       have hy := HYW.out V hbV
       refine wp_region_E 18 (fun w' => w'.cell? ⟨wr.heap.size, 0, none⟩ = some (.string Q) ∧ w'.cell? ⟨x2.heap.size, 0, none⟩ = some (.int .i64 (y : Int)) ∧ w'.cell? ⟨w.heap.size, 0, none⟩ = some (.pointer (some ⟨gk, 0, none⟩)) ∧ w'.cell? ⟨gk, 1, none⟩ = some (.string R)) (by kernel_rfl) ?_
       rw [← hV]
       clear hV hbV
       refine wTs [11, 10, 3, 2, 1] (i := 0) (v := ?_) rfl (Or.inl ⟨by rfl, ?_⟩) hy ?_
       rotate_left
       · (intro wy hSw; obtain ⟨hs1, hs2, hs3, hs4⟩ := hSw; go_simp; try with_reducible rfl)
       try simp only [Act.put, List.setIfInBounds_toArray]
       try simp only [List.getElem_toArray, List.getElem_cons_zero, List.set_cons_succ, List.set_cons_zero]
       refine wpAnyE_one (i := 1) (by kernel_rfl) rfl (fun K hK => ?_)
       refine step_call2_dv (by rfl) (some 28) (by rfl) (.const (.string ⟨#[109, 97, 110, 45]⟩)) (.tmp 27) (by rfl) (.string ⟨#[109, 97, 110, 45]⟩) (.string Q) rfl rfl (enters_of Tryz.func69 (by kernel_rfl) rfl) _ (KM.out V) ?_
       rintro e x5 ⟨rfl, hb5⟩
       have hb45 := HBV.out.trans (hb5.mono HBV.out.size)
       have HB5 := hid hb45
       have hy5 := HYW.out x5 hb45
       refine ⟨_, rfl, ?_⟩
       refine hK _ _ hy5 ?_
       clear hK K hb5 hb45 hy HBV
       simp only [Act.put, List.setIfInBounds_toArray, List.set_cons_succ, List.set_cons_zero]
       rcases Nat.eq_zero_or_pos x with hx0 | hx0
       · have a1 : decide (0 < x) = false := decide_eq_false (by omega)
         refine wTs [11, 10, 3] (i := 2) (v := ?_) rfl (Or.inl ⟨by rfl, ?_⟩) hy5 ?_
         rotate_left
         · (intro wy hSw; obtain ⟨hs1, hs2, hs3, hs4⟩ := hSw; go_simp; try with_reducible rfl)
         try simp only [Act.put]
         refine wTs [11, 10] (i := 3) (v := ?_) rfl (Or.inl ⟨by rfl, ?_⟩) hy5 ?_
         rotate_left
         · (intro wy hSw; obtain ⟨hs1, hs2, hs3, hs4⟩ := hSw; go_simp; try with_reducible rfl)
         try simp only [Act.put]
         try simp only [List.getElem_toArray, List.getElem_cons_succ, List.getElem_cons_zero, List.setIfInBounds_toArray, List.set_cons_succ, List.set_cons_zero]
         refine wTs [11, 10, 9] (i := 4) (v := undef) rfl (Or.inr ⟨by rfl, rfl⟩) hy5 ?_
         try simp only [Act.put]
         refine wTs [11, 10, 9, 8, 7, 6] (i := 5) (v := undef) rfl (Or.inr ⟨by rfl, rfl⟩) hy5 ?_
         try simp only [Act.put]
         refine wTs [11, 10, 9, 8, 7] (i := 6) (v := undef) rfl (Or.inr ⟨by rfl, rfl⟩) hy5 ?_
         try simp only [Act.put]
         refine wTs [11, 10, 9, 8] (i := 7) (v := undef) rfl (Or.inr ⟨by rfl, rfl⟩) hy5 ?_
         try simp only [Act.put]
         refine wTs [11, 10, 9] (i := 8) (v := undef) rfl (Or.inr ⟨by rfl, rfl⟩) hy5 ?_
         try simp only [Act.put]
         refine wTs [11, 10] (i := 9) (v := undef) rfl (Or.inr ⟨by rfl, rfl⟩) hy5 ?_
         try simp only [Act.put]
         refine wTs [11] (i := 10) (v := ?_) rfl (Or.inl ⟨by rfl, ?_⟩) hy5 ?_
         rotate_left
         · (intro wy hSw; obtain ⟨hs1, hs2, hs3, hs4⟩ := hSw; go_simp; try with_reducible rfl)
         try simp only [Act.put]
         refine wTs [] (i := 11) (v := ?_) rfl (Or.inl ⟨by rfl, ?_⟩) hy5 ?_
         rotate_left
         · (intro wy hSw; obtain ⟨hs1, hs2, hs3, hs4⟩ := hSw; go_simp; try with_reducible rfl)
         try simp only [Act.put]
         try simp only [List.getElem_toArray, List.getElem_cons_succ, List.getElem_cons_zero, List.setIfInBounds_toArray, List.set_cons_succ, List.set_cons_zero]
         rcases Nat.eq_zero_or_pos y with hy0 | hy0
         · have t1 : decide (0 < y) = false := decide_eq_false (by omega)
           have HE : Hid (Value.bool false = Value.bool gB) := hid (by rw [HGB.out]; simp [a1, t1])
           refine wTs [17, 14, 13] (i := 12) (v := ?_) rfl (Or.inl ⟨by rfl, ?_⟩) hy5 ?_
           rotate_left
           · (intro wy hSw; obtain ⟨hs1, hs2, hs3, hs4⟩ := hSw; go_simp; try with_reducible rfl)
           try simp only [Act.put]
           refine wTs [17, 14] (i := 13) (v := ?_) rfl (Or.inl ⟨by rfl, ?_⟩) hy5 ?_
           rotate_left
           · (intro wy hSw; obtain ⟨hs1, hs2, hs3, hs4⟩ := hSw; go_simp; try with_reducible rfl)
           try simp only [Act.put]
           refine wTs [17] (i := 14) (v := ?_) rfl (Or.inl ⟨by rfl, ?_⟩) hy5 ?_
           rotate_left
           · (intro wy hSw; obtain ⟨hs1, hs2, hs3, hs4⟩ := hSw; go_simp; try with_reducible rfl)
           try simp only [Act.put]
           try simp only [List.getElem_toArray, List.getElem_cons_succ, List.getElem_cons_zero, List.setIfInBounds_toArray, List.set_cons_succ, List.set_cons_zero]
           refine wTs [17, 16] (i := 15) (v := undef) rfl (Or.inr ⟨by rfl, rfl⟩) hy5 ?_
           try simp only [Act.put]
           refine wTs [17] (i := 16) (v := undef) rfl (Or.inr ⟨by rfl, rfl⟩) hy5 ?_
           try simp only [Act.put]
           refine wTs [] (i := 17) (v := ?_) rfl (Or.inl ⟨by rfl, ?_⟩) hy5 ?_
           rotate_left
           · (intro wy hSw; obtain ⟨hs1, hs2, hs3, hs4⟩ := hSw; go_simp; try with_reducible rfl)
           try simp only [Act.put]
           try simp only [List.getElem_toArray, List.getElem_cons_succ, List.getElem_cons_zero, List.setIfInBounds_toArray, List.set_cons_succ, List.set_cons_zero]
           refine wpAnyE_last (by kernel_rfl) (by kernel_rfl) rfl (fun K hK => ?_)
           go_simp
           refine hK _ _ ?_
           go_wp2_with fail
           go_meet
           exact ⟨HE.out, HB5⟩
         · have t1 : decide (0 < y) = true := decide_eq_true hy0
           rcases lv with _ | _
           · have HE : Hid (Value.bool true = Value.bool gB) := hid (by rw [HGB.out]; simp [a1, t1])
             refine wTs [17, 14, 13] (i := 12) (v := ?_) rfl (Or.inl ⟨by rfl, ?_⟩) hy5 ?_
             rotate_left
             · (intro wy hSw; obtain ⟨hs1, hs2, hs3, hs4⟩ := hSw; go_simp; try with_reducible rfl)
             try simp only [Act.put]
             refine wTs [17, 14] (i := 13) (v := ?_) rfl (Or.inl ⟨by rfl, ?_⟩) hy5 ?_
             rotate_left
             · (intro wy hSw; obtain ⟨hs1, hs2, hs3, hs4⟩ := hSw; go_simp; try with_reducible rfl)
             try simp only [Act.put]
             refine wTs [17] (i := 14) (v := ?_) rfl (Or.inl ⟨by rfl, ?_⟩) hy5 ?_
             rotate_left
             · (intro wy hSw; obtain ⟨hs1, hs2, hs3, hs4⟩ := hSw; go_simp; try with_reducible rfl)
             try simp only [Act.put]
             try simp only [List.getElem_toArray, List.getElem_cons_succ, List.getElem_cons_zero, List.setIfInBounds_toArray, List.set_cons_succ, List.set_cons_zero]
             refine wTs [17, 16] (i := 15) (v := ?_) rfl (Or.inl ⟨by rfl, ?_⟩) hy5 ?_
             rotate_left
             · (intro wy hSw; obtain ⟨hs1, hs2, hs3, hs4⟩ := hSw; go_simp; try with_reducible rfl)
             try simp only [Act.put]
             refine wTs [17] (i := 16) (v := ?_) rfl (Or.inl ⟨by rfl, ?_⟩) hy5 ?_
             rotate_left
             · (intro wy hSw; obtain ⟨hs1, hs2, hs3, hs4⟩ := hSw; go_simp; try with_reducible rfl)
             try simp only [Act.put]
             refine wTs [] (i := 17) (v := ?_) rfl (Or.inl ⟨by rfl, ?_⟩) hy5 ?_
             rotate_left
             · (intro wy hSw; obtain ⟨hs1, hs2, hs3, hs4⟩ := hSw; go_simp; try with_reducible rfl)
             try simp only [Act.put]
             try simp only [List.getElem_toArray, List.getElem_cons_succ, List.getElem_cons_zero, List.setIfInBounds_toArray, List.set_cons_succ, List.set_cons_zero]
             refine wpAnyE_last (by kernel_rfl) (by kernel_rfl) rfl (fun K hK => ?_)
             go_simp
             refine hK _ _ ?_
             go_wp2_with fail
             go_meet
             exact ⟨HE.out, HB5⟩
           · have HE : Hid (Value.bool false = Value.bool gB) := hid (by rw [HGB.out]; simp [a1, t1])
             refine wTs [17, 14, 13] (i := 12) (v := ?_) rfl (Or.inl ⟨by rfl, ?_⟩) hy5 ?_
             rotate_left
             · (intro wy hSw; obtain ⟨hs1, hs2, hs3, hs4⟩ := hSw; go_simp; try with_reducible rfl)
             try simp only [Act.put]
             refine wTs [17, 14] (i := 13) (v := ?_) rfl (Or.inl ⟨by rfl, ?_⟩) hy5 ?_
             rotate_left
             · (intro wy hSw; obtain ⟨hs1, hs2, hs3, hs4⟩ := hSw; go_simp; try with_reducible rfl)
             try simp only [Act.put]
             refine wTs [17] (i := 14) (v := ?_) rfl (Or.inl ⟨by rfl, ?_⟩) hy5 ?_
             rotate_left
             · (intro wy hSw; obtain ⟨hs1, hs2, hs3, hs4⟩ := hSw; go_simp; try with_reducible rfl)
             try simp only [Act.put]
             try simp only [List.getElem_toArray, List.getElem_cons_succ, List.getElem_cons_zero, List.setIfInBounds_toArray, List.set_cons_succ, List.set_cons_zero]
             refine wTs [17, 16] (i := 15) (v := ?_) rfl (Or.inl ⟨by rfl, ?_⟩) hy5 ?_
             rotate_left
             · (intro wy hSw; obtain ⟨hs1, hs2, hs3, hs4⟩ := hSw; go_simp; try with_reducible rfl)
             try simp only [Act.put]
             refine wTs [17] (i := 16) (v := ?_) rfl (Or.inl ⟨by rfl, ?_⟩) hy5 ?_
             rotate_left
             · (intro wy hSw; obtain ⟨hs1, hs2, hs3, hs4⟩ := hSw; go_simp; try with_reducible rfl)
             try simp only [Act.put]
             refine wTs [] (i := 17) (v := ?_) rfl (Or.inl ⟨by rfl, ?_⟩) hy5 ?_
             rotate_left
             · (intro wy hSw; obtain ⟨hs1, hs2, hs3, hs4⟩ := hSw; go_simp; try with_reducible rfl)
             try simp only [Act.put]
             try simp only [List.getElem_toArray, List.getElem_cons_succ, List.getElem_cons_zero, List.setIfInBounds_toArray, List.set_cons_succ, List.set_cons_zero]
             refine wpAnyE_last (by kernel_rfl) (by kernel_rfl) rfl (fun K hK => ?_)
             go_simp
             refine hK _ _ ?_
             go_wp2_with fail
             go_meet
             exact ⟨HE.out, HB5⟩
       · have a1 : decide (0 < x) = true := decide_eq_true hx0
         rcases str2 HQ.out hR with ⟨h1, -, h3, h4⟩ | ⟨h1, h3, h4⟩
         · have d1 : decide (q ≠ list) = false := decide_eq_false (by simpa using h1)
           refine wTs [11, 10, 3] (i := 2) (v := ?_) rfl (Or.inl ⟨by rfl, ?_⟩) hy5 ?_
           rotate_left
           · (intro wy hSw; obtain ⟨hs1, hs2, hs3, hs4⟩ := hSw; go_simp; try with_reducible rfl)
           try simp only [Act.put]
           refine wTs [11, 10] (i := 3) (v := ?_) rfl (Or.inl ⟨by rfl, ?_⟩) hy5 ?_
           rotate_left
           · (intro wy hSw; obtain ⟨hs1, hs2, hs3, hs4⟩ := hSw; go_simp; try with_reducible rfl)
           try simp only [Act.put]
           try simp only [List.getElem_toArray, List.getElem_cons_succ, List.getElem_cons_zero, List.setIfInBounds_toArray, List.set_cons_succ, List.set_cons_zero]
           refine wTs [11, 10, 9] (i := 4) (v := ?_) rfl (Or.inl ⟨by rfl, ?_⟩) hy5 ?_
           rotate_left
           · (intro wy hSw; obtain ⟨hs1, hs2, hs3, hs4⟩ := hSw; go_simp; try with_reducible rfl)
           try simp only [Act.put]
           refine wTs [11, 10, 9, 8, 7, 6] (i := 5) (v := ?_) rfl (Or.inl ⟨by rfl, ?_⟩) hy5 ?_
           rotate_left
           · (intro wy hSw; obtain ⟨hs1, hs2, hs3, hs4⟩ := hSw; go_simp; try with_reducible rfl)
           try simp only [Act.put]
           refine wTs [11, 10, 9, 8, 7] (i := 6) (v := ?_) rfl (Or.inl ⟨by rfl, ?_⟩) hy5 ?_
           rotate_left
           · (intro wy hSw; obtain ⟨hs1, hs2, hs3, hs4⟩ := hSw; go_simp; try with_reducible rfl)
           try simp only [Act.put]
           refine wTs [11, 10, 9, 8] (i := 7) (v := ?_) rfl (Or.inl ⟨by rfl, ?_⟩) hy5 ?_
           rotate_left
           · (intro wy hSw; obtain ⟨hs1, hs2, hs3, hs4⟩ := hSw; go_simp; try with_reducible rfl)
           try simp only [Act.put]
           refine wTs [11, 10, 9] (i := 8) (v := ?_) rfl (Or.inl ⟨by rfl, ?_⟩) hy5 ?_
           rotate_left
           · (intro wy hSw; obtain ⟨hs1, hs2, hs3, hs4⟩ := hSw; go_simp; try with_reducible rfl)
           try simp only [Act.put]
           refine wTs [11, 10] (i := 9) (v := ?_) rfl (Or.inl ⟨by rfl, ?_⟩) hy5 ?_
           rotate_left
           · (intro wy hSw; obtain ⟨hs1, hs2, hs3, hs4⟩ := hSw; go_simp; try with_reducible rfl)
           try simp only [Act.put]
           refine wTs [11] (i := 10) (v := ?_) rfl (Or.inl ⟨by rfl, ?_⟩) hy5 ?_
           rotate_left
           · (intro wy hSw; obtain ⟨hs1, hs2, hs3, hs4⟩ := hSw; go_simp; try with_reducible rfl)
           try simp only [Act.put]
           refine wTs [] (i := 11) (v := ?_) rfl (Or.inl ⟨by rfl, ?_⟩) hy5 ?_
           rotate_left
           · (intro wy hSw; obtain ⟨hs1, hs2, hs3, hs4⟩ := hSw; go_simp; try with_reducible rfl)
           try simp only [Act.put]
           try simp only [List.getElem_toArray, List.getElem_cons_succ, List.getElem_cons_zero, List.setIfInBounds_toArray, List.set_cons_succ, List.set_cons_zero]
           rcases Nat.eq_zero_or_pos y with hy0 | hy0
           · have t1 : decide (0 < y) = false := decide_eq_false (by omega)
             have HE : Hid (Value.bool false = Value.bool gB) := hid (by rw [HGB.out]; simp [a1, d1, t1])
             refine wTs [17, 14, 13] (i := 12) (v := ?_) rfl (Or.inl ⟨by rfl, ?_⟩) hy5 ?_
             rotate_left
             · (intro wy hSw; obtain ⟨hs1, hs2, hs3, hs4⟩ := hSw; go_simp; try with_reducible rfl)
             try simp only [Act.put]
             refine wTs [17, 14] (i := 13) (v := ?_) rfl (Or.inl ⟨by rfl, ?_⟩) hy5 ?_
             rotate_left
             · (intro wy hSw; obtain ⟨hs1, hs2, hs3, hs4⟩ := hSw; go_simp; try with_reducible rfl)
             try simp only [Act.put]
             refine wTs [17] (i := 14) (v := ?_) rfl (Or.inl ⟨by rfl, ?_⟩) hy5 ?_
             rotate_left
             · (intro wy hSw; obtain ⟨hs1, hs2, hs3, hs4⟩ := hSw; go_simp; try with_reducible rfl)
             try simp only [Act.put]
             try simp only [List.getElem_toArray, List.getElem_cons_succ, List.getElem_cons_zero, List.setIfInBounds_toArray, List.set_cons_succ, List.set_cons_zero]
             refine wTs [17, 16] (i := 15) (v := undef) rfl (Or.inr ⟨by rfl, rfl⟩) hy5 ?_
             try simp only [Act.put]
             refine wTs [17] (i := 16) (v := undef) rfl (Or.inr ⟨by rfl, rfl⟩) hy5 ?_
             try simp only [Act.put]
             refine wTs [] (i := 17) (v := ?_) rfl (Or.inl ⟨by rfl, ?_⟩) hy5 ?_
             rotate_left
             · (intro wy hSw; obtain ⟨hs1, hs2, hs3, hs4⟩ := hSw; go_simp; try with_reducible rfl)
             try simp only [Act.put]
             try simp only [List.getElem_toArray, List.getElem_cons_succ, List.getElem_cons_zero, List.setIfInBounds_toArray, List.set_cons_succ, List.set_cons_zero]
             refine wpAnyE_last (by kernel_rfl) (by kernel_rfl) rfl (fun K hK => ?_)
             go_simp
             refine hK _ _ ?_
             go_wp2_with fail
             go_meet
             exact ⟨HE.out, HB5⟩
           · have t1 : decide (0 < y) = true := decide_eq_true hy0
             rcases lv with _ | _
             · have HE : Hid (Value.bool true = Value.bool gB) := hid (by rw [HGB.out]; simp [a1, d1, t1])
               refine wTs [17, 14, 13] (i := 12) (v := ?_) rfl (Or.inl ⟨by rfl, ?_⟩) hy5 ?_
               rotate_left
               · (intro wy hSw; obtain ⟨hs1, hs2, hs3, hs4⟩ := hSw; go_simp; try with_reducible rfl)
               try simp only [Act.put]
               refine wTs [17, 14] (i := 13) (v := ?_) rfl (Or.inl ⟨by rfl, ?_⟩) hy5 ?_
               rotate_left
               · (intro wy hSw; obtain ⟨hs1, hs2, hs3, hs4⟩ := hSw; go_simp; try with_reducible rfl)
               try simp only [Act.put]
               refine wTs [17] (i := 14) (v := ?_) rfl (Or.inl ⟨by rfl, ?_⟩) hy5 ?_
               rotate_left
               · (intro wy hSw; obtain ⟨hs1, hs2, hs3, hs4⟩ := hSw; go_simp; try with_reducible rfl)
               try simp only [Act.put]
               try simp only [List.getElem_toArray, List.getElem_cons_succ, List.getElem_cons_zero, List.setIfInBounds_toArray, List.set_cons_succ, List.set_cons_zero]
               refine wTs [17, 16] (i := 15) (v := ?_) rfl (Or.inl ⟨by rfl, ?_⟩) hy5 ?_
               rotate_left
               · (intro wy hSw; obtain ⟨hs1, hs2, hs3, hs4⟩ := hSw; go_simp; try with_reducible rfl)
               try simp only [Act.put]
               refine wTs [17] (i := 16) (v := ?_) rfl (Or.inl ⟨by rfl, ?_⟩) hy5 ?_
               rotate_left
               · (intro wy hSw; obtain ⟨hs1, hs2, hs3, hs4⟩ := hSw; go_simp; try with_reducible rfl)
               try simp only [Act.put]
               refine wTs [] (i := 17) (v := ?_) rfl (Or.inl ⟨by rfl, ?_⟩) hy5 ?_
               rotate_left
               · (intro wy hSw; obtain ⟨hs1, hs2, hs3, hs4⟩ := hSw; go_simp; try with_reducible rfl)
               try simp only [Act.put]
               try simp only [List.getElem_toArray, List.getElem_cons_succ, List.getElem_cons_zero, List.setIfInBounds_toArray, List.set_cons_succ, List.set_cons_zero]
               refine wpAnyE_last (by kernel_rfl) (by kernel_rfl) rfl (fun K hK => ?_)
               go_simp
               refine hK _ _ ?_
               go_wp2_with fail
               go_meet
               exact ⟨HE.out, HB5⟩
             · have HE : Hid (Value.bool false = Value.bool gB) := hid (by rw [HGB.out]; simp [a1, d1, t1])
               refine wTs [17, 14, 13] (i := 12) (v := ?_) rfl (Or.inl ⟨by rfl, ?_⟩) hy5 ?_
               rotate_left
               · (intro wy hSw; obtain ⟨hs1, hs2, hs3, hs4⟩ := hSw; go_simp; try with_reducible rfl)
               try simp only [Act.put]
               refine wTs [17, 14] (i := 13) (v := ?_) rfl (Or.inl ⟨by rfl, ?_⟩) hy5 ?_
               rotate_left
               · (intro wy hSw; obtain ⟨hs1, hs2, hs3, hs4⟩ := hSw; go_simp; try with_reducible rfl)
               try simp only [Act.put]
               refine wTs [17] (i := 14) (v := ?_) rfl (Or.inl ⟨by rfl, ?_⟩) hy5 ?_
               rotate_left
               · (intro wy hSw; obtain ⟨hs1, hs2, hs3, hs4⟩ := hSw; go_simp; try with_reducible rfl)
               try simp only [Act.put]
               try simp only [List.getElem_toArray, List.getElem_cons_succ, List.getElem_cons_zero, List.setIfInBounds_toArray, List.set_cons_succ, List.set_cons_zero]
               refine wTs [17, 16] (i := 15) (v := ?_) rfl (Or.inl ⟨by rfl, ?_⟩) hy5 ?_
               rotate_left
               · (intro wy hSw; obtain ⟨hs1, hs2, hs3, hs4⟩ := hSw; go_simp; try with_reducible rfl)
               try simp only [Act.put]
               refine wTs [17] (i := 16) (v := ?_) rfl (Or.inl ⟨by rfl, ?_⟩) hy5 ?_
               rotate_left
               · (intro wy hSw; obtain ⟨hs1, hs2, hs3, hs4⟩ := hSw; go_simp; try with_reducible rfl)
               try simp only [Act.put]
               refine wTs [] (i := 17) (v := ?_) rfl (Or.inl ⟨by rfl, ?_⟩) hy5 ?_
               rotate_left
               · (intro wy hSw; obtain ⟨hs1, hs2, hs3, hs4⟩ := hSw; go_simp; try with_reducible rfl)
               try simp only [Act.put]
               try simp only [List.getElem_toArray, List.getElem_cons_succ, List.getElem_cons_zero, List.setIfInBounds_toArray, List.set_cons_succ, List.set_cons_zero]
               refine wpAnyE_last (by kernel_rfl) (by kernel_rfl) rfl (fun K hK => ?_)
               go_simp
               refine hK _ _ ?_
               go_wp2_with fail
               go_meet
               exact ⟨HE.out, HB5⟩
         · have d1 : decide (q ≠ list) = true := decide_eq_true h1
           refine wTs [11, 10, 3] (i := 2) (v := ?_) rfl (Or.inl ⟨by rfl, ?_⟩) hy5 ?_
           rotate_left
           · (intro wy hSw; obtain ⟨hs1, hs2, hs3, hs4⟩ := hSw; go_simp; try with_reducible rfl)
           try simp only [Act.put]
           refine wTs [11, 10] (i := 3) (v := ?_) rfl (Or.inl ⟨by rfl, ?_⟩) hy5 ?_
           rotate_left
           · (intro wy hSw; obtain ⟨hs1, hs2, hs3, hs4⟩ := hSw; go_simp; try with_reducible rfl)
           try simp only [Act.put]
           try simp only [List.getElem_toArray, List.getElem_cons_succ, List.getElem_cons_zero, List.setIfInBounds_toArray, List.set_cons_succ, List.set_cons_zero]
           refine wTs [11, 10, 9] (i := 4) (v := ?_) rfl (Or.inl ⟨by rfl, ?_⟩) hy5 ?_
           rotate_left
           · (intro wy hSw; obtain ⟨hs1, hs2, hs3, hs4⟩ := hSw; go_simp; try with_reducible rfl)
           try simp only [Act.put]
           refine wTs [11, 10, 9, 8, 7, 6] (i := 5) (v := ?_) rfl (Or.inl ⟨by rfl, ?_⟩) hy5 ?_
           rotate_left
           · (intro wy hSw; obtain ⟨hs1, hs2, hs3, hs4⟩ := hSw; go_simp; try with_reducible rfl)
           try simp only [Act.put]
           refine wTs [11, 10, 9, 8, 7] (i := 6) (v := ?_) rfl (Or.inl ⟨by rfl, ?_⟩) hy5 ?_
           rotate_left
           · (intro wy hSw; obtain ⟨hs1, hs2, hs3, hs4⟩ := hSw; go_simp; try with_reducible rfl)
           try simp only [Act.put]
           refine wTs [11, 10, 9, 8] (i := 7) (v := ?_) rfl (Or.inl ⟨by rfl, ?_⟩) hy5 ?_
           rotate_left
           · (intro wy hSw; obtain ⟨hs1, hs2, hs3, hs4⟩ := hSw; go_simp; try with_reducible rfl)
           try simp only [Act.put]
           refine wTs [11, 10, 9] (i := 8) (v := ?_) rfl (Or.inl ⟨by rfl, ?_⟩) hy5 ?_
           rotate_left
           · (intro wy hSw; obtain ⟨hs1, hs2, hs3, hs4⟩ := hSw; go_simp; try with_reducible rfl)
           try simp only [Act.put]
           refine wTs [11, 10] (i := 9) (v := ?_) rfl (Or.inl ⟨by rfl, ?_⟩) hy5 ?_
           rotate_left
           · (intro wy hSw; obtain ⟨hs1, hs2, hs3, hs4⟩ := hSw; go_simp; try with_reducible rfl)
           try simp only [Act.put]
           refine wTs [11] (i := 10) (v := ?_) rfl (Or.inl ⟨by rfl, ?_⟩) hy5 ?_
           rotate_left
           · (intro wy hSw; obtain ⟨hs1, hs2, hs3, hs4⟩ := hSw; go_simp; try with_reducible rfl)
           try simp only [Act.put]
           refine wTs [] (i := 11) (v := ?_) rfl (Or.inl ⟨by rfl, ?_⟩) hy5 ?_
           rotate_left
           · (intro wy hSw; obtain ⟨hs1, hs2, hs3, hs4⟩ := hSw; go_simp; try with_reducible rfl)
           try simp only [Act.put]
           try simp only [List.getElem_toArray, List.getElem_cons_succ, List.getElem_cons_zero, List.setIfInBounds_toArray, List.set_cons_succ, List.set_cons_zero]
           have HE : Hid (Value.bool true = Value.bool gB) := hid (by rw [HGB.out]; simp [a1, d1])
           refine wTs [17, 14, 13] (i := 12) (v := undef) rfl (Or.inr ⟨by rfl, rfl⟩) hy5 ?_
           try simp only [Act.put]
           refine wTs [17, 14] (i := 13) (v := undef) rfl (Or.inr ⟨by rfl, rfl⟩) hy5 ?_
           try simp only [Act.put]
           refine wTs [17] (i := 14) (v := undef) rfl (Or.inr ⟨by rfl, rfl⟩) hy5 ?_
           try simp only [Act.put]
           try simp only [List.getElem_toArray, List.getElem_cons_succ, List.getElem_cons_zero, List.setIfInBounds_toArray, List.set_cons_succ, List.set_cons_zero]
           refine wTs [17, 16] (i := 15) (v := undef) rfl (Or.inr ⟨by rfl, rfl⟩) hy5 ?_
           try simp only [Act.put]
           refine wTs [17] (i := 16) (v := undef) rfl (Or.inr ⟨by rfl, rfl⟩) hy5 ?_
           try simp only [Act.put]
           refine wTs [] (i := 17) (v := undef) rfl (Or.inr ⟨by rfl, rfl⟩) hy5 ?_
           try simp only [Act.put]
           try simp only [List.getElem_toArray, List.getElem_cons_succ, List.getElem_cons_zero, List.setIfInBounds_toArray, List.set_cons_succ, List.set_cons_zero]
           refine wpAnyE_last (by kernel_rfl) (by kernel_rfl) rfl (fun K hK => ?_)
           go_simp
           refine hK _ _ ?_
           go_wp2_with fail
           go_meet
           exact ⟨HE.out, HB5⟩
     case rest =>
       obtain ⟨rfl, HB5⟩ := hcut
       have HRX : Hid (Below wr.heap.size wr x4) := HRX4
       have HWX := hid (HRX.out.trans (HB5.out.mono HRX.out.size))
       have HWW := hid (HBR.out.trans (HWX.out.mono HBR.out.size))
       have HOX := hid (HOF.out.below HWX.out)
       have HPX2 : Hid (∀ p ∈ P, wc.heap[p.1]? = some (.cells #[.string ⟨p.2.toArray⟩] 9) ∧ w.heap.size ≤ p.1) := hid (fun p hp => ⟨(HWX.out.block _ (Array.getElem?_eq_some_iff.1 (HPX.out p hp).1).1).trans (HPX.out p hp).1, (HPX.out p hp).2⟩)
       have HQX : Hid (wc.heap[wr.heap.size]? = some (.cells #[.string ⟨q.toArray⟩] 9)) := hid (by rw [HQ.out]; exact (HB5.out.block _ (Array.getElem?_eq_some_iff.1 HXQ4.out).1).trans HXQ4.out)
       clear HGB HRX4 HYW HXQ4 HXY4 HXQ HXY
       rcases gB with _ | _
       · have HPN2 : Hid (P.map (·.2) = (L.take (k + 1)).filter (goneB l list)) := hid (by rw [HFT.out, HPN.out, HGG.out]; simp)
         have HFL2 : Hid (fs.length ≤ k + 1) := hid (by have := HFL.out; omega)
         go_wp2_with fail
         exact ⟨⟨k + 1, sc, SA, P, fs, hlt, by simp, rfl, HFS, HFL2, HPN2, HPX2, HOX, HWW⟩, by simp only [intOf]; omega⟩
       · have HLX : Hid ((fs.length + 1) * 8 ≤ 140737488355328 ∧ fs.length + 1 ≤ 9223372036854775807) := hid (by have := HFL.out; omega)
         have HWZ := hid HWW.out.size
         have HW2 := hid (HB2.out.size)
         go_wp2_with (at_builtin; (refine wpList_append_s _ rfl _ _ fcT rfl w2.heap.size SA sc fs rfl (HOX.out.alloc _) (wc.heap.size + 1) (some ⟨wc.heap.size, 0, none⟩) 1 1 [cf w.heap.size (wr.heap.size, q)] rfl rfl (rd_fc_new wc (cf w.heap.size (wr.heap.size, q))) HLX.out.1 HLX.out.2 (by have := HWZ.out; simp; omega) ?_; intro A3 c3 L3 w8 hl3 ho3 hg3 hat3))
         have hl3 : L3 = fs ++ [cf w.heap.size (wr.heap.size, q)] := hl3
         subst hl3
         have hba : Below wc.heap.size wc (wc.alloc (.cells #[(cf w.heap.size (wr.heap.size, q)).val] 120)) := (Below.refl _ _).alloc (Nat.le_refl _) _
         have HBN : Hid (Below w2.heap.size w2 w8) := hid ((HWW.out.alloc HWZ.out _).grown hg3 (by have := HWZ.out; simp; omega) (fun g e => (HOX.out.blk_ge g e).1))
         have HPX3 : Hid (∀ p ∈ P ++ [(wr.heap.size, q)], w8.heap[p.1]? = some (.cells #[.string ⟨p.2.toArray⟩] 9) ∧ w.heap.size ≤ p.1) := hid (fun p hp => by
           rcases List.mem_append.1 hp with hp | hp
           · obtain ⟨h1, h2⟩ := HPX2.out p hp
             exact ⟨keep_box ((hba.block _ (Array.getElem?_eq_some_iff.1 h1).1).trans h1) (HOX.out.below hba) hg3, h2⟩
           · rw [List.mem_singleton] at hp
             subst hp
             exact ⟨keep_box ((hba.block _ (Array.getElem?_eq_some_iff.1 HQX.out).1).trans HQX.out) (HOX.out.below hba) hg3, by have := HBR.out.size; have := HW2.out; simp only; omega⟩)
         exact ⟨⟨k + 1, c3, A3, P ++ [(wr.heap.size, q)], fs ++ [cf w.heap.size (wr.heap.size, q)], hlt, by simp, by simp, hid (by rw [HFS.out]; simp), hid (by have := HFL.out; simp; omega), hid (by rw [HFT.out, List.map_append, HPN.out, HGG.out]; simp), HPX3, hid ho3, HBN⟩, by simp only [intOf]; omega⟩
   · have hlt' : ¬ (k : Int) < (L.length : Int) := by omega
     have hke : k = L.length := by omega
     have HGN : Hid (goners s l list = P.map (·.2)) := hid (by rw [HGO.out, HPN.out, hke, List.take_length])
     have HBW := hid (HB2.out.trans (HBR.out.mono HB2.out.size))
     obtain ⟨_, _, d1, d2, _, _⟩ := HNM.out wr HBR.out
     by_cases hfs0 : fs.length = 0
     · have hf0 : ¬ (0 : Int) < (fs.length : Int) := by omega
       have HF0 : Hid (fs = []) := hid (List.eq_nil_of_length_eq_zero hfs0)
       have HXX : Hid (x = (0, s)) := hid (by
         rw [HXE.out]
         unfold cleanP
         rw [HGN.out]
         have hp0 : P = [] := by
           have h1 := HFS.out
           rw [HF0.out] at h1
           exact List.map_eq_nil_iff.1 h1.symm
         rw [hp0]
         rfl)
       have KA := hid (all_any (σ := Unit) [] [] rfl (fun _ _ X => Below w.heap.size w X) SA sc () wr HBW.out (by simp) (fun _ _ X _ => RdS.nil) (fun f hf => by cases hf) (fun k hk => absurd hk (Nat.not_lt_zero _)))
       clear hfs0
       have e0 : (([] : List Fc).length) = fs.length := by rw [HF0.out]
       rw [e0] at KA
       clear e0
       go_wp2_with fail
       refine KA.out.mono ?_
       rintro e x9 ⟨rfl, _, hb9⟩
       have HB9 := hid hb9
       clear hb9
       simp only [allP]
       go_wp2_with fail
       go_ret
       rw [HXX.out]
       exact ⟨rfl, m, HS0.out.below HB9.out, Sto.Aft.of_below HB9.out⟩
     · have hf1 : (0 : Int) < (fs.length : Int) := by omega
       have HLX : Hid ((fs.length + 1) * 8 ≤ 140737488355328 ∧ fs.length + 1 ≤ 9223372036854775807) := hid (by have := HFL.out; omega)
       have HWZ := hid HBR.out.size
       have HF1 := hid hfs0
       clear hfs0
       go_wp2_with (at_builtin; (refine wpList_append_s _ rfl _ _ fcT rfl w2.heap.size SA sc fs rfl (HOF.out.alloc _) (wr.heap.size + 1) (some ⟨wr.heap.size, 0, none⟩) 1 1 [sdf g] rfl rfl (rd_fc_new wr (sdf g)) HLX.out.1 HLX.out.2 (by have := HWZ.out; simp; omega) ?_; intro A3 c3 L3 w8 hl3 ho3 hg3 hat3))
       have hl3 : L3 = fs ++ [sdf g] := hl3
       have hba : Below wr.heap.size wr (wr.alloc (.cells #[(sdf g).val] 120)) := (Below.refl _ _).alloc (Nat.le_refl _) _
       have hbn : Below w2.heap.size w2 w8 := (HBR.out.alloc HWZ.out _).grown hg3 (by have := HWZ.out; simp; omega) (fun g e => (HOF.out.blk_ge g e).1)
       have hbw8 : Below w.heap.size w w8 := HB2.out.trans (hbn.mono HB2.out.size)
       have hx0 : w8.heap[w.heap.size]? = some (.cells #[.pointer (some ⟨gk, 0, none⟩)] 54) := (hbn.block _ (Array.getElem?_eq_some_iff.1 HX2.out).1).trans HX2.out
       have hxk : w8.heap[gk]? = some (bkObj g list A l c log next br) := (hbw8.block _ (Array.getElem?_eq_some_iff.1 HK0.out).1).trans HK0.out
       have hs8 := HS0.out.below hbw8
       have KS := hid (steps_any w8 base g w.heap.size gk m s hs8 w.heap.size (fun q hq hm => by have := (HS0.out.r.mut_ge hm).2; omega) l list P (fun p hp => by
           have h1 : p.2 ∈ P.map (·.2) := List.mem_map_of_mem hp
           rw [HPN.out] at h1
           exact (List.mem_filter.1 h1).2) (by
           have h1 := congrArg List.length HFS.out
           rw [List.length_map] at h1
           have := HF1.out
           omega) _ _ _ _ _ hx0 (Nat.le_refl _) hxk (fun hm => not_foot_book hs8 ⟨_, _, hxk⟩ (.inl hm)) (fun p hp => by
           obtain ⟨h1, h2⟩ := HPX.out p hp
           exact ⟨keep_box ((hba.block _ (Array.getElem?_eq_some_iff.1 h1).1).trans h1) (HOF.out.below hba) hg3, h2⟩) (by
           have h1 := congrArg List.length HFS.out
           rw [List.length_map] at h1
           have := HFL.out
           omega) A3 c3 w2.heap.size HB2.out.size L3 (by rw [hl3, HFS.out]) ho3)
       have HXX : Hid (allP (cleanSteps (P.map (·.2))) s = x) := hid (by rw [HXE.out]; unfold cleanP; rw [HGN.out])
       have e9 : L3.length = fs.length + 1 := by rw [hl3]; simp
       rw [HXX.out, e9] at KS
       clear e9
       have HB8 := hid hbw8
       clear hl3 ho3 hg3 hat3 hba hbn hbw8 hx0 hxk hs8
       refine KS.out.mono ?_
       rintro e x9 ⟨rfl, m9, h1, h2⟩
       have H9 := hid (And.intro h1 h2)
       clear h1 h2 KS
       go_wp2_with fail
       go_ret
       exact ⟨rfl, m9, H9.out.1, (Sto.Aft.of_below HB8.out).trans H9.out.2⟩
end Ver
namespace Ver
def goneF (l : List Fi) (list n : Sto.Str) : Bool := (decide (0 < nb manB n) && decide (n ≠ list)) || (decide (0 < nb tabB n) && !(l.any (fun v => decide (v.number = (nb tabB n : Int)))))
theorem goneB_eq (l : List Vf) (list n : Sto.Str) : goneB l list n = goneF (l.map Vf.fi) list n := by
 unfold goneB goneF
 rw [List.any_map]
 rfl
def cleanF (s : Sto.St) (l : List Fi) (list : Sto.Str) : Int × Sto.St := allP (cleanSteps ((Sto.names s).filter (goneF l list))) s
theorem cleanP_eq (s : Sto.St) (l : List Vf) (list : Sto.Str) : cleanP s l list = cleanF s (l.map Vf.fi) list := by
 unfold cleanP cleanF goners
 have e : goneB l list = goneF (l.map Vf.fi) list := funext (goneB_eq l list)
 rw [e]
def stateOf (s : Sto.St) : Option Ss :=
 if curB ∈ Sto.names s then (if nb manB (Sto.read s curB).2 = 0 ∨ (Sto.read s curB).2 ∉ Sto.names s then none else some (told s (Sto.read s curB).2)) else some zeroS
def openP (s : Sto.St) : Int × Sto.St × Sto.Str × Ss :=
 if s.off = true then (8, s, [], zeroS) else match stateOf s with
 | none => (3, s, [], zeroS)
 | some t => if (beginP s [] (edSt t)).1.1 ≠ 0 then ((beginP s [] (edSt t)).1.1, (beginP s [] (edSt t)).1.2, (beginP s [] (edSt t)).2, t) else
   ((cleanF (beginP s [] (edSt t)).1.2 t.files (beginP s [] (edSt t)).2).1, (cleanF (beginP s [] (edSt t)).1.2 t.files (beginP s [] (edSt t)).2).2, (beginP s [] (edSt t)).2, t)
theorem tells_len : ∀ (l : List (UInt8 × List UInt8)) (s : Ss), s.files.length ≤ 1000000 → (tells s l).files.length ≤ 1000000
 | [], _, h => h
 | p :: r, s, h => by
   unfold tells
   split
   · exact h
   · rename_i t ht
     refine tells_len r t ?_
     unfold tell1 at ht
     split at ht
     · cases ht
     · split at ht
       · injection ht with ht
         rw [← ht]
         exact apply_len _ _
       · cases ht
theorem stateOf_len {s : Sto.St} {t : Ss} (h : stateOf s = some t) : t.files.length ≤ 1000000 := by
 unfold stateOf at h
 split at h
 · split at h
   · cases h
   · injection h with h
     rw [← h]
     exact tells_len _ _ (by simp [zeroS])
 · injection h with h
   rw [← h]
   simp [zeroS]
theorem allP_sz (a b : Nat) : ∀ (l : List (Sto.St → Int × Sto.St)) (x : Sto.St), (∀ f ∈ l, ∀ y : Sto.St, (f y).2.files.length ≤ y.files.length + a ∧ (f y).2.kept.length ≤ y.kept.length + b) → (allP l x).2.files.length ≤ x.files.length + a * l.length ∧ (allP l x).2.kept.length ≤ x.kept.length + b * l.length
 | [], x, _ => ⟨by simp [allP], by simp [allP]⟩
 | f :: l, x, h => by
   have h1 := h f List.mem_cons_self x
   have h2 := allP_sz a b l (f x).2 (fun g hg => h g (List.mem_cons_of_mem _ hg))
   unfold allP
   rw [List.length_cons, Nat.mul_succ, Nat.mul_succ]
   split
   · omega
   · have : 0 ≤ a * l.length := Nat.zero_le _
     have : 0 ≤ b * l.length := Nat.zero_le _
     omega
theorem syncDir_files (s : Sto.St) : (Sto.syncDir s).2.files.length = s.files.length := by
 obtain ⟨h1, _, _, _, _⟩ := Sto.meet_files s []
 unfold Sto.syncDir
 simp only
 split
 · rw [h1]
 · simp [h1]
theorem begin_sz (s : Sto.St) (old : Sto.Str) (e : Ed) : (beginP s old e).1.2.files.length ≤ s.files.length + 4 ∧ (beginP s old e).1.2.kept.length ≤ s.kept.length + 5 := by
 have hc : (cleared s).2.files.length ≤ s.files.length ∧ (cleared s).2.kept.length ≤ s.kept.length + 1 := by
   unfold cleared
   split
   · have := remove_szv s newB
     omega
   · exact ⟨Nat.le_refl _, Nat.le_succ _⟩
 unfold beginP
 split
 · simp only; omega
 · split
   · simp only; omega
   · split
     · simp only; omega
     · have h4 := allP_sz 1 1 (beginSteps (nm manB (lastN (Sto.names s) + 1)) (Frm.put 69 (frB e))) (cleared s).2 (fun f hf y => by
         unfold beginSteps at hf
         simp only [List.mem_cons, List.not_mem_nil, or_false] at hf
         rcases hf with rfl | rfl | rfl | rfl
         · exact wr_szv _ _ _
         · exact wr_szv _ _ _
         · have := rename_szv y newB curB
           show (Sto.rename y newB curB).2.files.length ≤ _ ∧ (Sto.rename y newB curB).2.kept.length ≤ _
           omega
         · have h1 := syncDir_files y
           have h2 := syncDir_kept y
           show (Sto.syncDir y).2.files.length ≤ _ ∧ (Sto.syncDir y).2.kept.length ≤ _
           omega)
       simp only [beginSteps, List.length_cons, List.length_nil] at h4 ⊢
       omega
theorem names_le {w : World} {base g : Nat} {s : Sto.St} {m : Sto.Mem} (h : Sto.StAt w base g s m) : (Sto.names s).length ≤ s.files.length := by
 unfold Sto.names
 rw [List.length_map]
 exact h.r.ok.gnow.len
def OpenB (w : World) (base g : Nat) (m : Sto.Mem) (x : Int × Sto.St × Sto.Str × Ss) (e : Ending) (w' : World) : Prop :=
 ∃ m' : Sto.Mem, Sto.StAt w' base g x.2.1 m' ∧ Sto.Aft w w' g m m' ∧
   ((x.1 ≠ 0 ∧ e = .returned (.tuple #[.pointer none, .int .i64 x.1])) ∨
    (x.1 = 0 ∧ ∃ (gk : Nat) (A : Option Addr) (c : Nat) (l : List Vf), e = .returned (.tuple #[.pointer (some ⟨gk, 0, none⟩), .int .i64 0]) ∧ w.heap.size ≤ gk ∧ w'.heap[gk]? = some (bkObj g x.2.2.1 A l c x.2.2.2.log x.2.2.2.next false) ∧ l.map Vf.fi = x.2.2.2.files ∧ OwV w' w.heap.size A c l ∧ OffV g m' A l))
set_option maxHeartbeats 4000000 in
set_option maxRecDepth 100000 in
theorem open_any (w : World) (base g : Nat) (m : Sto.Mem) (s : Sto.St) (h : Sto.StAt w base g s m) (ht : TabU base w) (hkl : s.kept.length + s.files.length ≤ 700000) :
   Calls Tryz.prog 25 #[.pointer (some ⟨g, 0, none⟩)] w (OpenB w base g m (openP s)) := by
 obtain ⟨O, hO⟩ : ∃ O, O = openP s := ⟨_, rfl⟩
 rw [← hO]
 have hnf := names_le h
 have hnl : (Sto.names s).length ≤ 700000 := by omega
 have KO := hid (Sto.off_any h)
 obtain ⟨of, hof⟩ : ∃ of, of = s.off := ⟨_, rfl⟩
 rw [← hof] at KO
 have HOF := hid hof
 obtain ⟨w1, hw1⟩ : ∃ w1, w1 = w.alloc (.cells #[.pointer (some ⟨g, 0, none⟩), .string ⟨#[]⟩, .slice none 0 0, .int .i64 0, .int .i64 1, .bool false] 114) := ⟨_, rfl⟩
 have hb1 : Below w.heap.size w w1 := by rw [hw1]; exact (Below.refl _ _).alloc (Nat.le_refl _) _
 have hx1 : w1.heap[w.heap.size]? = some (bkObj g [] none [] 0 0 1 false) := by rw [hw1]; exact heap_alloc_new w _
 have KN := hid (Sto.names_any (h.below hb1) (by omega))
 have HB1 := hid hb1
 have HX1 := hid hx1
 have HO := hid hO
 have HS0 := hid h
 have HT := hid ht
 rw [hw1] at KN
 clear h hb1 hx1 ht hof hO hnf
 go_enter Tryz.func25, Tryz.ntmps25
 go_wp2_with fail
 refine KO.out.mono ?_
 rintro e w0 ⟨rfl, rfl⟩
 clear KO
 rcases of with _ | _
 rotate_left
 · have HE : Hid (O = (8, s, [], zeroS)) := hid (by rw [HO.out]; unfold openP; rw [if_pos HOF.out.symm])
   go_wp2_with fail
   go_ret2
   rw [HE.out]
   exact ⟨m, HS0.out, Sto.Aft.refl _ _ _, .inl ⟨by simp, rfl⟩⟩
 go_wp2_with fail
 refine KN.out.mono ?_
 rw [← hw1]
 rintro e w2 ⟨NA, nc, rfl, hno, hb2⟩
 obtain ⟨d, hd⟩ : ∃ d, d = decide (curB ∈ Sto.names s) := ⟨_, rfl⟩
 have KC := hid (scontains_any NA nc (Sto.names s) curB w2 hno.rd (by omega))
 rw [← hd] at KC
 have HD := hid hd
 have hbb : Below w0.heap.size w0 w2 := HB1.out.trans (hb2.mono HB1.out.size)
 have hx2 := (hb2.block _ (Array.getElem?_eq_some_iff.1 HX1.out).1).trans HX1.out
 have HB2 := hid hbb
 have HX2 := hid hx2
 have HNO := hid hno
 have KR := hid (Sto.read_any curB (by unfold curB maxLen; simp) (HS0.out.below hbb))
 obtain ⟨rc, hrc⟩ : ∃ rc, rc = Sto.read s curB := ⟨_, rfl⟩
 rw [← hrc] at KR
 have HRC := hid hrc
 have HRL : Hid (rc.2.length ≤ 16777216) := hid (by rw [hrc]; exact read_len HS0.out curB)
 unfold curB at KC KR
 clear hno hbb hx2 hb2 KN hw1 hd hrc
 go_wp2_with fail
 refine KC.out.mono ?_
 rintro e w8 ⟨rfl, rfl⟩
 clear KC
 go_upto_if 22 with fail
 go_cut [] (fun wx => ∃ (A : Option Addr) (c : Nat) (l : List Vf) (log next : Int), Hid (stateOf s = some ⟨l.map Vf.fi, log, next⟩) ∧ Hid (Below w0.heap.size w0 wx) ∧ Hid (wx.heap[w0.heap.size]? = some (bkObj g [] A l c log next false)) ∧ Hid (OwV wx w0.heap.size A c l))
 case first =>
   rcases d with _ | _
   · go_wp2_with fail
     go_meet
     exact ⟨none, 0, [], 0, 1, hid (by unfold stateOf; rw [if_neg (of_decide_eq_false HD.out.symm)]; rfl), HB2, HX2, hid (OwV.nil _ _)⟩
   · go_wp2_with fail
     refine KR.out.mono ?_
     rintro e w3 ⟨hb3, RA, rcc, rfl, hro⟩
     dsimp only
     have HB3 := hid (HB2.out.trans (hb3.mono HB2.out.size))
     obtain ⟨cb, hcb⟩ : ∃ cb, cb = rc.2 := ⟨_, rfl⟩
     rw [← hcb] at hro HRL ⊢
     obtain ⟨CS, hCS⟩ : ∃ CS, (⟨cb.toArray⟩ : ByteArray) = CS := ⟨_, rfl⟩
     have z1 : (convert 37 9 (.slice RA cb.length rcc)).run Tryz.prog w3 = .ok (.string CS) w3 := strB_to hro.rd hCS
     have HRO := hid hro
     have HCB : Hid (cb = (Sto.read s curB).2) := hid (by rw [hcb, HRC.out])
     have HCS := hid hCS
     have HX3 := hid ((hb3.block _ (Array.getElem?_eq_some_iff.1 HX2.out).1).trans HX2.out)
     have HNO3 := hid (HNO.out.below hb3)
     obtain ⟨y, hy⟩ : ∃ y, y = nb manB cb := ⟨_, rfl⟩
     have KM : Hid (Calls Tryz.prog 69 #[.string ⟨#[109, 97, 110, 45]⟩, .string CS] w3 fun e w' => e = .returned (.int .i64 (y : Int)) ∧ Below w3.heap.size w3 w') := hid (by
       have h9 := numbered_any manB rfl cb w3
       rw [← hy, hCS] at h9
       exact h9)
     have HY := hid hy
     clear hb3 hro hcb hCS hy KR
     go_wp2_with fail
     refine KM.out.mono ?_
     rintro e w4 ⟨rfl, hb4⟩
     dsimp only
     have HB4 := hid (HB3.out.trans (hb4.mono HB3.out.size))
     have HX4 := hid ((hb4.block _ (Array.getElem?_eq_some_iff.1 HX3.out).1).trans HX3.out)
     have z4 : (convert 37 9 (.slice RA cb.length rcc)).run Tryz.prog w4 = .ok (.string CS) w4 := strB_to (HRO.out.below hb4).rd HCS.out
     have HRO4 := hid (HRO.out.below hb4)
     obtain ⟨d2, hd2⟩ : ∃ d2, d2 = decide (cb ∈ Sto.names s) := ⟨_, rfl⟩
     have KC4 := hid (scontains_any NA nc (Sto.names s) cb w4 (HNO3.out.below hb4).rd (by omega))
     rw [← hd2, HCS.out] at KC4
     have HD2 := hid hd2
     have HSO : Hid (stateOf s = if nb manB cb = 0 ∨ cb ∉ Sto.names s then none else some (told s cb)) := hid (by unfold stateOf; rw [if_pos (of_decide_eq_true HD.out.symm), ← HCB.out])
     clear hb4 hd2 KM z1
     rcases Nat.eq_zero_or_pos y with hy0 | hy0
     · have t1 : ((y : Int) == 0) = true := by rw [hy0]; rfl
       have HE : Hid (O = (3, s, [], zeroS)) := hid (by rw [HO.out]; unfold openP; rw [if_neg (by rw [← HOF.out]; decide), HSO.out, if_pos (.inl (by rw [← HY.out]; exact hy0))])
       clear hy0
       go_wp2_with fail
       go_ret2
       rw [HE.out]
       exact ⟨m, HS0.out.below HB4.out, Sto.Aft.of_below HB4.out, .inl ⟨by simp, rfl⟩⟩
     have t1 : ((y : Int) == 0) = false := by simp; omega
     have HYP := hid hy0
     clear hy0
     go_wp2_with fail
     refine KC4.out.mono ?_
     rintro e w5 ⟨rfl, rfl⟩
     dsimp only
     clear KC4
     rcases d2 with _ | _
     · have HE : Hid (O = (3, s, [], zeroS)) := hid (by rw [HO.out]; unfold openP; rw [if_neg (by rw [← HOF.out]; decide), HSO.out, if_pos (.inr (of_decide_eq_false HD2.out.symm))])
       go_wp2_with fail
       go_ret2
       rw [HE.out]
       exact ⟨m, HS0.out.below HB4.out, Sto.Aft.of_below HB4.out, .inl ⟨by simp, rfl⟩⟩
     have HST : Hid (stateOf s = some (told s cb)) := hid (by
       rw [HSO.out, if_neg]
       rintro (h1 | h1)
       · have h2 := HY.out
         have h3 := HYP.out
         rw [h1] at h2
         omega
       · exact h1 (of_decide_eq_true HD2.out.symm))
     have KT := hid (told_any (HS0.out.below HB4.out) cb (by have := HRL.out; unfold maxLen; omega))
     rw [HCS.out] at KT
     obtain ⟨t, ht⟩ : ∃ t, t = told s cb := ⟨_, rfl⟩
     rw [← ht] at KT HST
     clear ht
     go_wp2_with fail
     refine KT.out.mono ?_
     rintro e w6 ⟨hb6, A, c, l, rfl, hl6, ho6⟩
     dsimp only
     have HB6 := hid (HB4.out.trans (hb6.mono HB4.out.size))
     have hx6 := (hb6.block _ (Array.getElem?_eq_some_iff.1 HX4.out).1).trans HX4.out
     have c2 : w6.cell? ⟨w0.heap.size, 2, none⟩ = some (.slice none 0 0) := by rw [cell_of_row w6 _ 2 _ _ (0, 0) hx6]; rfl
     have c3 : w6.cell? ⟨w0.heap.size, 3, none⟩ = some (.int .i64 0) := by rw [cell_of_row w6 _ 3 _ _ (0, 0) hx6]; rfl
     have c4 : w6.cell? ⟨w0.heap.size, 4, none⟩ = some (.int .i64 1) := by rw [cell_of_row w6 _ 4 _ _ (0, 0) hx6]; rfl
     have f2 := frozen_of_row w6 w0.heap.size 2 _ _ hx6
     have f3 := frozen_of_row w6 w0.heap.size 3 _ _ hx6
     have f4 := frozen_of_row w6 w0.heap.size 4 _ _ hx6
     have HX6 := hid hx6
     have HO6 := hid (ho6.mono HB4.out.size)
     have HL6 := hid hl6
     clear hb6 hx6 ho6 hl6 KT
     go_wp2_with fail
     go_meet
     have k1 : ∀ q, q ≠ w0.heap.size → (((w6.setCell ⟨w0.heap.size, 2, none⟩ (.slice A l.length c)).setCell ⟨w0.heap.size, 3, none⟩ (.int .i64 t.log)).setCell ⟨w0.heap.size, 4, none⟩ (.int .i64 t.next)).heap[q]? = w6.heap[q]? := fun q hq => (Below.heap_setCell _ _ _ _ hq).trans ((Below.heap_setCell _ _ _ _ hq).trans (Below.heap_setCell _ _ _ _ hq))
     exact ⟨A, c, l, t.log, t.next, hid (by rw [HST.out, HL6.out]), hid (((HB6.out.setCell (Nat.le_refl _) _).setCell (Nat.le_refl _) _).setCell (Nat.le_refl _) _), hid (book_set3 HX6.out), hid (owV_book HO6.out ⟨_, _, HX6.out⟩ (by simp [World.setCell]) k1)⟩
 case rest =>
   obtain ⟨A, c, l, log, next, HST, HB7, HX7, HOV⟩ := hcut
   have HLL : Hid (l.length ≤ 1000000) := hid (by
     have := stateOf_len HST.out
     rwa [List.length_map] at this)
   obtain ⟨p, hp⟩ : ∃ p, p = beginP s [] (edSt ⟨l.map Vf.fi, log, next⟩) := ⟨_, rfl⟩
   obtain ⟨q, hq⟩ : ∃ q, q = cleanP p.1.2 l p.2 := ⟨_, rfl⟩
   have HOE : Hid (O = if p.1.1 ≠ 0 then (p.1.1, p.1.2, p.2, ⟨l.map Vf.fi, log, next⟩) else (q.1, q.2, p.2, ⟨l.map Vf.fi, log, next⟩)) := hid (by
     rw [HO.out, hq, cleanP_eq, hp]
     unfold openP
     rw [if_neg (by rw [← HOF.out]; decide), HST.out])
   have HPS : Hid (p.1.2.files.length ≤ 700004 ∧ p.1.2.kept.length + p.1.2.files.length ≤ 700009) := hid (by
     have := begin_sz s [] (edSt ⟨l.map Vf.fi, log, next⟩)
     rw [← hp] at this
     omega)
   obtain ⟨w3, hw3⟩ : ∃ w3, w3 = wc.alloc (.cells #[.func (.func 72) #[.pointer (some ⟨w0.heap.size, 0, none⟩)] #[], .func (.func 73) #[.pointer (some ⟨w0.heap.size, 0, none⟩)] #[]] 120) := ⟨_, rfl⟩
   have hb3 : Below wc.heap.size wc w3 := by rw [hw3]; exact (Below.refl _ _).alloc (Nat.le_refl _) _
   have hx3 : w3.heap[wc.heap.size]? = some (.cells #[.func (.func 72) #[.pointer (some ⟨w0.heap.size, 0, none⟩)] #[], .func (.func 73) #[.pointer (some ⟨w0.heap.size, 0, none⟩)] #[]] 120) := by rw [hw3]; exact heap_alloc_new wc _
   have hxk : w3.heap[w0.heap.size]? = some (bkObj g [] A l c log next false) := (hb3.block _ (Array.getElem?_eq_some_iff.1 HX7.out).1).trans HX7.out
   have hb03 : Below w0.heap.size w0 w3 := HB7.out.trans (hb3.mono HB7.out.size)
   have hs3 := HS0.out.below hb03
   have hbase : base ≤ w0.heap.size := by have := HS0.out.r.mut_ge (.inl rfl); omega
   have ht3 : TabU base w3 := HT.out.keep (hb03.mono hbase)
   have hnm : ∀ j, w0.heap.size ≤ j → ¬ Sto.Mut g m j := fun j hj hm => by have := (HS0.out.r.mut_ge hm).2; omega
   have hov3 := HOV.out.below hb3
   have hoff : OffV g m A l := fun j e => hnm j (owV_lt hov3 e).1
   obtain ⟨fs, hfs⟩ : ∃ fs : List Fc, fs = [⟨72, [.pointer (some ⟨w0.heap.size, 0, none⟩)], []⟩, ⟨73, [.pointer (some ⟨w0.heap.size, 0, none⟩)], []⟩] := ⟨_, rfl⟩
   have KB := begin_any w3 base w0.heap.size g w0.heap.size m s hs3 ht3 (by omega) (by omega) [] A c l log next false hxk hov3 hoff HLL.out
   rw [← hp] at KB
   have KA := hid (all_any (σ := Nat × Sto.St) fs [fun _ => (p.1.1, (1, p.1.2)), fun _ => (q.1, (2, q.2))] (by rw [hfs]; rfl) (fun k y X => (X.heap[wc.heap.size]? = w3.heap[wc.heap.size]?) ∧ (k = 0 → y.1 = 0 ∧ X = w3) ∧ (0 < k → ∃ m', Sto.StAt X base g y.2 m' ∧ AftB w3 X g w0.heap.size m m' ∧ X.heap[w0.heap.size]? = some (bkObj g p.2 A l c log next false)) ∧ (k = 1 → y.2 = p.1.2)) (some ⟨wc.heap.size, 0, none⟩) 2 (0, s) w3 ⟨rfl, fun _ => ⟨rfl, rfl⟩, fun h => absurd h (by omega), fun h => absurd h (by omega)⟩ (by rw [hfs]; simp)
     (fun k y X hX => by
       have e := hX.1.trans hx3
       subst hfs
       refine RdS.of (f := F1) (n := 1) (fun _ => rfl) _ 0 (Array.getElem?_eq_some_iff.1 e).1 (fun k hk j u hj => ?_)
       have hj0 : j = 0 := by
         rcases j with _ | j
         · rfl
         · simp [F1] at hj
       subst hj0
       rw [cell_of_row _ _ _ _ _ (0, 0) e]
       rcases k with _ | _ | k
       · simpa [F1, Fc.val] using hj
       · simpa [F1, Fc.val] using hj
       · exfalso; simp only [List.length_cons, List.length_nil] at hk; omega)
     (fun f hf args w => by
       subst hfs
       simp only [List.mem_cons, List.not_mem_nil, or_false] at hf
       rcases hf with rfl | rfl <;> rfl)
     (fun k hk y X hX => by
       obtain ⟨h1, h2, h3, h4⟩ := hX
       subst hfs
       rcases k with _ | _ | k
       · obtain ⟨_, e⟩ := h2 rfl
         subst e
         refine KB.mono ?_
         rintro e W' ⟨he, m', a1, a2, a3⟩
         refine ⟨he, ?_, by omega, fun _ => ⟨m', a1, a2, a3⟩, fun _ => rfl⟩
         refine a2.block _ (Array.getElem?_eq_some_iff.1 hx3).1 (hnm _ HB7.out.size) ?_
         have := (Array.getElem?_eq_some_iff.1 HX7.out).1
         omega
       · obtain ⟨m', a1, a2, a3⟩ := h3 (by omega)
         have hy2 := h4 rfl
         rw [hy2] at a1
         have hovX := owV_aftB hov3 hoff ⟨_, _, hxk⟩ a2
         have KC := clean_any X base w0.heap.size g w0.heap.size m' p.1.2 a1 (by have := HPS.out; omega) (by have := HPS.out; omega) p.2 A c l log next false a3 hovX HLL.out
         rw [← hq] at KC
         refine KC.mono ?_
         rintro e W' ⟨he, m2, b1, b2⟩
         have hnm2 : ∀ j, w0.heap.size ≤ j → j < w3.heap.size → ¬ Sto.Mut g m' j := fun j hj hj3 hm => hnm j hj (a2.turn j hj3 hm)
         have hlt3 := (Array.getElem?_eq_some_iff.1 hx3).1
         have hltk := (Array.getElem?_eq_some_iff.1 hxk).1
         have hsz := a2.size
         refine ⟨he, (b2.block _ (by omega) (hnm2 _ HB7.out.size hlt3)).trans h1, by omega, fun _ => ⟨m2, b1, a2.trans (AftB.of b2), (b2.block _ (by omega) (hnm2 _ (Nat.le_refl _) hltk)).trans a3⟩, by omega⟩
       · exfalso; simp only [List.length_cons, List.length_nil] at hk; omega))
   have e2 : fs.length = 2 := by rw [hfs]; rfl
   obtain ⟨z, hz⟩ : ∃ z, z = allP [fun _ : Nat × Sto.St => (p.1.1, (1, p.1.2)), fun _ => (q.1, (2, q.2))] (0, s) := ⟨_, rfl⟩
   have HZ : Hid (z.2.1 ≠ 0 ∧ O = (z.1, z.2.2, p.2, ⟨l.map Vf.fi, log, next⟩)) := hid (by
     by_cases h0 : p.1.1 = 0
     · have e1 : z = allP [fun _ : Nat × Sto.St => (q.1, (2, q.2))] (1, p.1.2) := by rw [hz]; exact if_pos h0
       rw [allP_one] at e1
       rw [e1, HOE.out, if_neg (fun h => h h0)]
       exact ⟨by simp, rfl⟩
     · have e1 : z = (p.1.1, (1, p.1.2)) := by rw [hz]; exact if_neg h0
       rw [e1, HOE.out, if_pos h0]
       exact ⟨by simp, rfl⟩)
   rw [e2, ← hz] at KA
   have HB3 := hid hb3
   have HO3 := hid hov3
   have HOFF := hid hoff
   have HXK := hid hxk
   have HW3 := hid hw3
   rw [hw3] at KA
   clear hb3 hx3 hxk hs3 ht3 hfs KB hw3 hb03 hov3 hoff hnm hz hp hq e2
   go_wp2_with fail
   refine KA.out.mono ?_
   rw [← HW3.out]
   rintro e w4 ⟨rfl, j, -, h2, h3, -⟩
   dsimp only
   have HF : Hid (∃ m', Sto.StAt w4 base g z.2.2 m' ∧ AftB w3 w4 g w0.heap.size m m' ∧ w4.heap[w0.heap.size]? = some (bkObj g p.2 A l c log next false)) := hid (by
     rcases Nat.eq_zero_or_pos j with h | h
     · exact absurd (h2 h).1 HZ.out.1
     · exact h3 h)
   clear h2 h3 KA
   obtain ⟨zc, zn, zs⟩ := z
   simp only at HZ HF ⊢
   by_cases hzc : zc = 0
   · subst hzc
     have t1 : ((0 : Int) != 0) = false := by rfl
     go_wp2_with fail
     go_ret2
     obtain ⟨m', a1, a2, a3⟩ := HF.out
     rw [HZ.out.2]
     exact ⟨m', a1, AftB.new (HB7.out.trans (HB3.out.mono HB7.out.size)) (Nat.le_refl _) a2, .inr ⟨rfl, _, A, c, l, rfl, Nat.le_refl _, a3, rfl, owV_aftB HO3.out HOFF.out ⟨_, _, HXK.out⟩ a2, HOFF.out.aftB HO3.out a2⟩⟩
   · have t1 : ((zc : Int) != 0) = true := by simp [hzc]
     go_wp2_with fail
     go_ret2
     obtain ⟨m', a1, a2, a3⟩ := HF.out
     rw [HZ.out.2]
     exact ⟨m', a1, AftB.new (HB7.out.trans (HB3.out.mono HB7.out.size)) (Nat.le_refl _) a2, .inl ⟨hzc, rfl⟩⟩
end Ver
end Go.Proofs.YtgmnhdkdicgkcaaGreatDoor
namespace Go.Proofs.YtgmnhdkdicgkcaaGreatDoor
open Go.RowKit Go.WideShapes
open Lib (hid)
namespace Sto
theorem meet_plain1 (s : St) (l : List Str) (hl : l.all isName = true) (ho : s.off = false) (hp : s.plan = []) : meet s l = (0, s) := by
 unfold meet
 rw [if_neg (by rw [hl]; simp), if_neg (by rw [ho]; simp), hp]
theorem meet_ways1 (s : St) (l : List Str) (hl : l.all isName = true) : ∃ p o, (meet s l).2 = { s with plan := p, off := o } ∧ ((meet s l).1 = 0 ∨ (meet s l).1 = 7 ∨ (meet s l).1 = 8) := by
 unfold meet
 rw [if_neg (by rw [hl]; simp)]
 split
 · exact ⟨s.plan, s.off, rfl, .inr (.inr rfl)⟩
 · split
   · exact ⟨s.plan, s.off, rfl, .inl rfl⟩
   · split
     · exact ⟨_, s.off, rfl, .inr (.inl rfl)⟩
     · split
       · exact ⟨_, true, rfl, .inr (.inr rfl)⟩
       · exact ⟨_, s.off, rfl, .inl rfl⟩
end Sto
namespace Ver
theorem bb_bl1 : ∀ (a b : List UInt8), bytesBefore a b = Op.bytesLess a b
 | [], [] => rfl
 | [], _ :: _ => rfl
 | _ :: _, [] => rfl
 | a :: r, b :: s => by rw [bytesBefore, Op.bytesLess, bb_bl1 r s]
theorem nm_less {a b : Nat} (h : a < b) (hb : b < 1000000) : bytesBefore (nm manB a) (nm manB b) = true := by
 rw [bb_bl1]
 unfold nm
 exact (Dig.bytesLess_same _ _ _).trans (Dig.digW_less 6 a b h (by omega))
theorem nm_isName (n : Nat) (h : n < 1000000) : Sto.isName (nm manB n) = true := by
 obtain ⟨_, h2⟩ := Prs.dval_digW 6 n (by omega)
 unfold Sto.isName nm
 rw [Bool.and_eq_true, List.all_eq_true]
 refine ⟨by simp [Dig.digW_length, manB], fun c hc => ?_⟩
 rcases List.mem_append.1 hc with hc | hc
 · simp [manB] at hc
   rcases hc with rfl | rfl | rfl | rfl <;> rfl
 · have h3 : Prs.dig c = true := by
     unfold Prs.digs at h2
     exact List.all_eq_true.1 h2 c hc
   have h4 := Prs.dig_iff.1 h3
   unfold Sto.nameChar
   rw [decide_eq_true_iff]
   refine .inr (.inl ⟨?_, ?_⟩) <;> (rw [UInt8.le_iff_toNat_le]; simp; omega)
theorem nm_len (n : Nat) : (nm manB n).length = 10 := by unfold nm; simp [Dig.digW_length, manB]
theorem nb_nm (n : Nat) (h : n < 1000000) : nb manB (nm manB n) = n := by
 obtain ⟨h1, h2⟩ := Prs.dval_digW 6 n (by omega)
 unfold nm
 rw [nb_pre manB _ rfl, if_pos ⟨Dig.digW_length _ _, h2⟩, h1]
theorem nb_tab_nm (n : Nat) : nb tabB (nm manB n) = 0 := by
 unfold nb nm
 rw [if_neg]
 rintro ⟨_, h, _⟩
 have h2 : (manB ++ Dig.digW 6 n).take 4 = manB := by simp [manB]
 rw [h2] at h
 exact absurd h (by decide)
theorem cur_nm (n : Nat) : bytesBefore curB (nm manB n) = true := by rw [bb_bl1]; unfold nm curB manB; rfl
theorem new_nm (n : Nat) : bytesBefore newB (nm manB n) = true := by rw [bb_bl1]; unfold nm newB manB; rfl
theorem bb_no {a b : List UInt8} (h : bytesBefore a b = true) : bytesBefore b a = false := by
 cases h2 : bytesBefore b a with
 | false => rfl
 | true =>
   have := bytes_trans _ _ _ h h2
   rw [WideAt.bytes_irrefl] at this
   cases this
theorem bb_beq {a b : List UInt8} (h : bytesBefore a b = true) : (a == b) = false ∧ (b == a) = false := by
 have : a ≠ b := fun e => by rw [e, WideAt.bytes_irrefl] at h; cases h
 exact ⟨by simpa using this, by simpa using fun e => this e.symm⟩
theorem cur_new : bytesBefore curB newB = true := by decide
def Lst (F : List Sto.Fl) (k i j : Nat) (pl : List UInt8) (off : Bool) : Sto.St := ⟨4194304, F, [(curB, i), (nm manB k, j)], [(curB, i), (nm manB k, j)], [], pl, off⟩
def zF : Sto.Fl := ⟨[], 0⟩
theorem right_okE {t : Ss} (h : right t = true) : okE (edSt t) = true := by
 obtain ⟨g1, g2, g3, g4, g5, g6⟩ := right_good h
 unfold okE edSt
 rw [Bool.and_eq_true, Bool.and_eq_true, decide_eq_true_eq, List.all_eq_true, List.all_eq_true]
 exact ⟨⟨g2, by simp, g5, g6, (by show (0 : Int) ≤ t.next; omega), (by show t.next ≤ 1099511627776; omega)⟩, fun f hf => (g1.ok f hf).1, fun n hn => by cases hn⟩
theorem enc_len2 {e : Ed} (h : okE e = true) : (enc e).length ≤ 56000 := by
 obtain ⟨⟨g1, g2, g3, g4, g5, g6⟩, g7, g8⟩ := okE_bd h
 have h1 := flatF_len e.add g7
 have h2 : (e.drop.flatMap numI).length ≤ 10 * e.drop.length := by
   clear g2
   generalize e.drop = D at g8
   induction D with
   | nil => simp
   | cons d D ih =>
     rw [List.flatMap_cons, List.length_append, List.length_cons]
     have h3 := ih (fun n hn => g8 n (List.mem_cons_of_mem _ hn))
     have h4 := g8 d List.mem_cons_self
     unfold okN at h4
     have h5 := of_decide_eq_true h4
     have h6 := numI_len (n := d) (by omega)
     omega
 have h3 := numI_len (n := (e.add.length : Int)) (by omega)
 have h4 := numI_len (n := (e.drop.length : Int)) (by omega)
 have h5 := numI_len (n := e.log) (by omega)
 have h6 := numI_len (n := e.next) (by omega)
 unfold enc
 simp only [List.length_append]
 omega
theorem put_len2 {e : Ed} (h : okE e = true) : (Frm.put 69 (enc e)).length ≤ 56020 := by
 have h1 := enc_len2 h
 have h2 := text_len2 (l := enc e) (by omega)
 have h3 : ∀ x, (Frm.be4 x).length = 4 := fun _ => rfl
 unfold Frm.put Frm.head
 simp only [List.length_append, List.length_cons, h3]
 omega
theorem frB_ok {e : Ed} (h : okE e = true) : frB e = enc e := by unfold frB; rw [if_pos h]
theorem apply_zero {t : Ss} (h : right t = true) : apply zeroS (edSt t) = (0, t) := by
 have hE := right_okE h
 obtain ⟨g1, g2, g3, g4, g5, g6⟩ := right_good h
 have hs : Srd t.files := g1.sto.srd
 have hp := insAll_perm t.files []
 have hq := right_perm (X := insAll [] t.files) (Y := t.files) (log := t.log) (next := t.next) (insAll_srd _ _ (by simp [Srd])) hs (by simpa using hp)
 have h2 : right ⟨insAll [] t.files, t.log, t.next⟩ = true := by rw [hq.1]; exact h
 have h3 := hq.2 h2
 unfold apply
 have hn : ¬ (right zeroS = false ∨ okE (edSt t) = false) := by
   rintro (h | h)
   · exact absurd h (by decide)
   · rw [hE] at h
     cases h
 rw [if_neg hn]
 show (if 50 < zeroS.files.length + t.files.length then _ else _) = _
 rw [if_neg (by show ¬ (50 < 0 + t.files.length); omega), if_neg]
 · show (0, (⟨insAll [] t.files, t.log, t.next⟩ : Ss)) = (0, t)
   rw [h3]
 · rintro (h4 | h4 | h4)
   · have : t.log < 0 := h4
     omega
   · have : t.next < 1 := h4
     omega
   · have h5 : right ⟨insAll [] t.files, t.log, t.next⟩ = false := h4
     rw [h2] at h5
     cases h5
def tellAll : Ss → List (UInt8 × List UInt8) → Option Ss
 | s, [] => some s
 | s, p :: r => (tell1 s p).bind fun t => tellAll t r
theorem tells_of : ∀ (l : List (UInt8 × List UInt8)) (s t : Ss), tellAll s l = some t → tells s l = t
 | [], s, t, h => by unfold tellAll at h; injection h
 | p :: r, s, t, h => by
   unfold tellAll at h
   unfold tells
   cases h1 : tell1 s p with
   | none => rw [h1] at h; cases h
   | some u => rw [h1] at h; exact tells_of r u t h
theorem tellAll_snoc : ∀ (l : List (UInt8 × List UInt8)) (s t : Ss) (p : UInt8 × List UInt8), tellAll s l = some t → tellAll s (l ++ [p]) = tell1 t p
 | [], s, t, p, h => by
   unfold tellAll at h
   injection h with h
   rw [List.nil_append, h]
   unfold tellAll
   cases h1 : tell1 t p with
   | none => rfl
   | some u => rfl
 | x :: r, s, t, p, h => by
   unfold tellAll at h
   rw [List.cons_append]
   unfold tellAll
   cases h1 : tell1 s x with
   | none => rw [h1] at h; cases h
   | some u => rw [h1] at h; exact tellAll_snoc r u t p h
theorem tell1_ok {t : Ss} {e : Ed} (hE : okE e = true) (h : (apply t e).1 = 0) : tell1 t (69, enc e) = some (apply t e).2 := by
 unfold tell1
 rw [dec_enc hE]
 show (if (69 : UInt8) = 69 ∧ (apply t e).1 = 0 then some (apply t e).2 else none) = _
 rw [if_pos ⟨rfl, h⟩]
theorem take_cut1 {k : UInt8} {t p q : List UInt8} (ht : t.length ≤ 65536) (h : p ++ q = Frm.put k t) (hq : q ≠ []) : Frm.take p = none := by
 cases hp : Frm.take p with
 | none => rfl
 | some x =>
   exfalso
   obtain ⟨k2, t2, r⟩ := x
   obtain ⟨e, hf⟩ := Frm.of_take hp
   have h2 := Frm.take_put k2 t2 (r ++ q) hf
   have h3 := Frm.take_put k t [] ht
   rw [List.append_nil, ← h, e, List.append_assoc, h2] at h3
   injection h3 with h3
   injection h3 with _ h3
   injection h3 with _ h3
   exact hq (List.append_eq_nil_iff.1 h3).2
theorem scan_whole {l : List (UInt8 × List UInt8)} (h : ∀ p ∈ l, p.2.length ≤ 65536) : scan (Frm.flat l) = l :=
 scan_of (r := []) ⟨(List.append_nil _).symm, h⟩ rfl
theorem scan_part {l : List (UInt8 × List UInt8)} (h : ∀ p ∈ l, p.2.length ≤ 65536) {z : List UInt8} (hz : Frm.take z = none) : scan (Frm.flat l ++ z) = l :=
 scan_of (r := z) ⟨rfl, h⟩ hz
theorem flat_snoc1 (l : List (UInt8 × List UInt8)) (p : UInt8 × List UInt8) : Frm.flat (l ++ [p]) = Frm.flat l ++ Frm.put p.1 p.2 := by unfold Frm.flat; simp
theorem cut_told {Fr : List (UInt8 × List UInt8)} {t : Ss} {e : Ed} (hf : ∀ p ∈ Fr, p.2.length ≤ 65536) (ht : tellAll zeroS Fr = some t) (hE : okE e = true) (ha : (apply t e).1 = 0) (z : Nat) :
   tells zeroS (scan (Frm.flat Fr ++ (Frm.put 69 (enc e)).take z)) = t ∨ tells zeroS (scan (Frm.flat Fr ++ (Frm.put 69 (enc e)).take z)) = (apply t e).2 := by
 have hl := enc_len2 hE
 by_cases hz : (Frm.put 69 (enc e)).drop z = []
 · have h1 : (Frm.put 69 (enc e)).take z = Frm.put 69 (enc e) := by
     have := List.take_append_drop z (Frm.put 69 (enc e))
     rwa [hz, List.append_nil] at this
   right
   rw [h1, show Frm.flat Fr ++ Frm.put 69 (enc e) = Frm.flat (Fr ++ [(69, enc e)]) from (flat_snoc1 Fr (69, enc e)).symm, scan_whole (fun p hp => by
     rcases List.mem_append.1 hp with hp | hp
     · exact hf p hp
     · rw [List.mem_singleton] at hp
       subst hp
       simp only
       omega)]
   exact tells_of _ _ _ ((tellAll_snoc _ _ _ _ ht).trans (tell1_ok hE ha))
 · left
   rw [scan_part hf (take_cut1 (k := 69) (t := enc e) (by omega) (List.take_append_drop z _) hz)]
   exact tells_of _ _ _ ht
theorem find_lst (i j k : Nat) : Sto.find [(curB, i), (nm manB k, j)] (nm manB k) = some j := by
 have h := (bb_beq (cur_nm k)).1
 unfold Sto.find
 simp [h]
theorem append_lst (F : List Sto.Fl) (k i j : Nat) (pl : List UInt8) (off : Bool) (hk : k < 1000000) (y : List UInt8) :
   (∃ (c : Int) (p : List UInt8) (o : Bool), c ≠ 0 ∧ c ≠ 2 ∧ c ≠ 9 ∧ Sto.append (Lst F k i j pl off) (nm manB k) y = (c, Lst F k i j p o)) ∨ ∃ p o, Sto.append (Lst F k i j pl off) (nm manB k) y = (0, Lst (F.set j ⟨(F.getD j zF).b ++ y, (F.getD j zF).sure⟩) k i j p o) := by
 obtain ⟨p, o, hm, hc⟩ := Sto.meet_ways1 (Lst F k i j pl off) [nm manB k] (by simp [nm_isName k hk])
 have hm2 : (Sto.meet (Lst F k i j pl off) [nm manB k]).2 = Lst F k i j p o := hm
 by_cases h0 : (Sto.meet (Lst F k i j pl off) [nm manB k]).1 = 0
 · have e : Sto.append (Lst F k i j pl off) (nm manB k) y = if (Lst F k i j p o).room - (Sto.size (Lst F k i j p o) : Int) < (y.length : Int) then (6, Lst F k i j p o) else (0, Sto.setF (Lst F k i j p o) j ⟨(Sto.file (Lst F k i j p o) j).b ++ y, (Sto.file (Lst F k i j p o) j).sure⟩) := by
     unfold Sto.append
     simp only
     rw [if_neg (fun h => h h0), hm2]
     have hf : Sto.find (Lst F k i j p o).now (nm manB k) = some j := find_lst i j k
     rw [hf]
   rw [e]
   split
   · exact .inl ⟨6, p, o, by decide, by decide, by decide, rfl⟩
   · exact .inr ⟨p, o, rfl⟩
 · left
   have e : Sto.append (Lst F k i j pl off) (nm manB k) y = Sto.meet (Lst F k i j pl off) [nm manB k] := by
     unfold Sto.append
     simp only
     rw [if_pos h0]
   rw [e]
   rcases hc with h | h | h
   · exact absurd h h0
   · exact ⟨7, p, o, by decide, by decide, by decide, Prod.ext h hm2⟩
   · exact ⟨8, p, o, by decide, by decide, by decide, Prod.ext h hm2⟩
theorem sync_lst (F : List Sto.Fl) (k i j : Nat) (pl : List UInt8) (off : Bool) (hk : k < 1000000) :
   (∃ (c : Int) (p : List UInt8) (o : Bool), c ≠ 0 ∧ c ≠ 2 ∧ c ≠ 9 ∧ Sto.sync (Lst F k i j pl off) (nm manB k) = (c, Lst F k i j p o)) ∨ ∃ p o, Sto.sync (Lst F k i j pl off) (nm manB k) = (0, Lst (F.set j ⟨(F.getD j zF).b, (F.getD j zF).b.length⟩) k i j p o) := by
 obtain ⟨p, o, hm, hc⟩ := Sto.meet_ways1 (Lst F k i j pl off) [nm manB k] (by simp [nm_isName k hk])
 have hm2 : (Sto.meet (Lst F k i j pl off) [nm manB k]).2 = Lst F k i j p o := hm
 by_cases h0 : (Sto.meet (Lst F k i j pl off) [nm manB k]).1 = 0
 · right
   refine ⟨p, o, ?_⟩
   unfold Sto.sync
   simp only
   rw [if_neg (fun h => h h0), hm2]
   have hf : Sto.find (Lst F k i j p o).now (nm manB k) = some j := find_lst i j k
   rw [hf]
   rfl
 · left
   have e : Sto.sync (Lst F k i j pl off) (nm manB k) = Sto.meet (Lst F k i j pl off) [nm manB k] := by
     unfold Sto.sync
     simp only
     rw [if_pos h0]
   rw [e]
   rcases hc with h | h | h
   · exact absurd h h0
   · exact ⟨7, p, o, by decide, by decide, by decide, Prod.ext h hm2⟩
   · exact ⟨8, p, o, by decide, by decide, by decide, Prod.ext h hm2⟩
structure J (s : Sto.St) (n : Sto.Str) (t : Ss) (br : Bool) (may : List Ss) (q : Nat) : Prop where
 ex : ∃ (F : List Sto.Fl) (k i j : Nat) (pl : List UInt8) (off : Bool) (Fr : List (UInt8 × List UInt8)) (y : List UInt8),
   s = Lst F k i j pl off ∧ n = nm manB k ∧ 1 ≤ k ∧ k ≤ q + 1 ∧ i < F.length ∧ j < F.length ∧ i ≠ j ∧ F.getD i zF = ⟨nm manB k, 10⟩ ∧ F.getD j zF = ⟨Frm.flat Fr ++ y, (Frm.flat Fr).length⟩ ∧ (∀ p ∈ Fr, p.2.length ≤ 65536) ∧ tellAll zeroS Fr = some t ∧
   (Frm.flat Fr ++ y).length ≤ 57000 * (q + 1) ∧ F.length ≤ 2 * (q + 1) ∧ (y = [] ∨ (br = true ∧ ∃ e, y = Frm.put 69 (enc e) ∧ okE e = true ∧ (apply t e).1 = 0 ∧ (apply t e).2 ∈ may))
 mem : t ∈ may
 one : br = false → may = [t]
 right : ∀ u ∈ may, right u = true
theorem J.mono {s : Sto.St} {n : Sto.Str} {t : Ss} {br : Bool} {may : List Ss} {q : Nat} (h : J s n t br may q) : J s n t br may (q + 1) := by
 obtain ⟨F, k, i, j, pl, off, Fr, y, h1, h2, h3, h4, h5, h6, h7, h8, h9, h10, h11, h12, h13, h14⟩ := h.ex
 exact ⟨⟨F, k, i, j, pl, off, Fr, y, h1, h2, h3, by omega, h5, h6, h7, h8, h9, h10, h11, by omega, by omega, h14⟩, h.mem, h.one, h.right⟩
theorem getD_set1 (F : List Sto.Fl) {i j : Nat} (x : Sto.Fl) (hj : j < F.length) : (F.set j x).getD i zF = if j = i then x else F.getD i zF := by
 rw [Sto.getD_set]
 by_cases h : j = i
 · rw [if_pos ⟨h, hj⟩, if_pos h]
 · rw [if_neg (fun h2 => h h2.1), if_neg h]
theorem J.log {s : Sto.St} {n : Sto.Str} {t : Ss} {br : Bool} {may : List Ss} {q : Nat} (h : J s n t br may q) (hq : q < 100) (e : Ed) (u : Ss) (hu : may.getLast? = some u) :
   ((logP s n t br e).1 = 0 → (apply u e).1 = 0 ∧ J (logP s n t br e).2.1 n (logP s n t br e).2.2.1 (logP s n t br e).2.2.2 [(apply u e).2] (q + 1)) ∧
   ((logP s n t br e).1 ≠ 0 → (apply u e).1 = 0 → (logP s n t br e).1 ≠ 9 → (logP s n t br e).1 ≠ 2 → J (logP s n t br e).2.1 n (logP s n t br e).2.2.1 (logP s n t br e).2.2.2 (may ++ [(apply u e).2]) (q + 1)) ∧
   ((logP s n t br e).1 ≠ 0 → ¬ ((apply u e).1 = 0 ∧ (logP s n t br e).1 ≠ 9 ∧ (logP s n t br e).1 ≠ 2) → J (logP s n t br e).2.1 n (logP s n t br e).2.2.1 (logP s n t br e).2.2.2 may (q + 1)) := by
 obtain ⟨F, k, i, j, pl, off, Fr, y, h1, h2, h3, h4, h5, h6, h7, h8, h9, h10, h11, h12, h13, h14⟩ := h.ex
 cases br with
 | true =>
   have e1 : logP s n t true e = (9, s, t, true) := rfl
   rw [e1]
   exact ⟨fun h => absurd h (show ¬ (9 : Int) = 0 by decide), fun _ _ h => absurd rfl h, fun _ _ => h.mono⟩
 | false =>
   have hm := h.one rfl
   have hut : u = t := by
     rw [hm] at hu
     simpa using hu.symm
   subst hut
   have hy : y = [] := by
     rcases h14 with h | ⟨h, _⟩
     · exact h
     · cases h
   subst hy
   rw [List.append_nil] at h9 h12
   by_cases ha : (apply u e).1 = 0
   rotate_left
   · have e1 : logP s n u false e = ((apply u e).1, s, u, false) := by
       unfold logP
       rw [if_neg (by decide), if_pos ha]
     rw [e1]
     exact ⟨fun h => absurd h ha, fun _ h => absurd h ha, fun _ _ => h.mono⟩
   obtain ⟨r1, r2, r3, r4, r5⟩ := apply_right ha
   have hfr := frB_ok r4
   have hel := enc_len2 r4
   have hpl := put_len2 r4
   obtain ⟨x, hx⟩ : ∃ x, x = allP (logSteps n (Frm.put 69 (enc e))) s := ⟨_, rfl⟩
   have e1 : logP s n u false e = if x.1 ≠ 0 then (x.1, x.2, u, true) else (0, x.2, (apply u e).2, false) := by
     unfold logP
     rw [if_neg (by decide), if_neg (fun h => h ha), hfr, if_neg (by omega), hx]
   have hmr : ∀ v ∈ may ++ [(apply u e).2], Ver.right v = true := fun v hv => by
     rcases List.mem_append.1 hv with hv | hv
     · exact h.right v hv
     · rw [List.mem_singleton] at hv
       rw [hv]
       exact r1
   have hbr : ∀ (c : Int) (F2 : List Sto.Fl) (p : List UInt8) (o : Bool) (y2 : List UInt8), c ≠ 0 → c ≠ 2 → c ≠ 9 → x = (c, Lst F2 k i j p o) → F2.length = F.length → F2.getD i zF = F.getD i zF → F2.getD j zF = ⟨Frm.flat Fr ++ y2, (Frm.flat Fr).length⟩ → (y2 = [] ∨ y2 = Frm.put 69 (enc e)) →
       ((logP s n u false e).1 = 0 → (apply u e).1 = 0 ∧ J (logP s n u false e).2.1 n (logP s n u false e).2.2.1 (logP s n u false e).2.2.2 [(apply u e).2] (q + 1)) ∧
       ((logP s n u false e).1 ≠ 0 → (apply u e).1 = 0 → (logP s n u false e).1 ≠ 9 → (logP s n u false e).1 ≠ 2 → J (logP s n u false e).2.1 n (logP s n u false e).2.2.1 (logP s n u false e).2.2.2 (may ++ [(apply u e).2]) (q + 1)) ∧
       ((logP s n u false e).1 ≠ 0 → ¬ ((apply u e).1 = 0 ∧ (logP s n u false e).1 ≠ 9 ∧ (logP s n u false e).1 ≠ 2) → J (logP s n u false e).2.1 n (logP s n u false e).2.2.1 (logP s n u false e).2.2.2 may (q + 1)) := by
     intro c F2 p o y2 c0 c2 c9 hxe hl hi hj hy2
     have e2 : logP s n u false e = (c, Lst F2 k i j p o, u, true) := by rw [e1, hxe, if_pos c0]
     rw [e2]
     refine ⟨fun h => absurd h c0, fun _ _ _ _ => ⟨⟨F2, k, i, j, p, o, Fr, y2, rfl, h2, h3, by omega, by omega, by omega, h7, by rw [hi]; exact h8, hj, h10, h11, ?_, by omega, ?_⟩, List.mem_append_left _ h.mem, (fun h => by cases h), hmr⟩, fun _ hn => absurd ⟨ha, c9, c2⟩ hn⟩
     · rw [List.length_append]
       rcases hy2 with rfl | rfl
       · simp only [List.length_nil]; omega
       · omega
     · rcases hy2 with rfl | rfl
       · exact .inl rfl
       · exact .inr ⟨rfl, e, rfl, r4, ha, List.mem_append_right _ (by simp)⟩
   rcases append_lst F k i j pl off (by omega) (Frm.put 69 (enc e)) with ⟨c, p, o, c0, c2, c9, hA⟩ | ⟨p, o, hA⟩
   · refine hbr c F p o [] c0 c2 c9 ?_ rfl rfl (by rw [List.append_nil]; exact h9) (.inl rfl)
     rw [hx, h1, h2]
     show (if (Sto.append (Lst F k i j pl off) (nm manB k) (Frm.put 69 (enc e))).1 = 0 then _ else Sto.append (Lst F k i j pl off) (nm manB k) (Frm.put 69 (enc e))) = _
     rw [hA, if_neg c0]
   obtain ⟨F1, hF1⟩ : ∃ F1, F1 = F.set j ⟨(F.getD j zF).b ++ Frm.put 69 (enc e), (F.getD j zF).sure⟩ := ⟨_, rfl⟩
   rw [← hF1] at hA
   have l1 : F1.length = F.length := by rw [hF1, List.length_set]
   have gi : F1.getD i zF = F.getD i zF := by rw [hF1, getD_set1 _ _ h6, if_neg (fun e => h7 e.symm)]
   have gj : F1.getD j zF = ⟨Frm.flat Fr ++ Frm.put 69 (enc e), (Frm.flat Fr).length⟩ := by rw [hF1, getD_set1 _ _ h6, if_pos rfl, h9]
   have hx2 : x = if (Sto.sync (Lst F1 k i j p o) (nm manB k)).1 = 0 then (0, (Sto.sync (Lst F1 k i j p o) (nm manB k)).2) else Sto.sync (Lst F1 k i j p o) (nm manB k) := by
     rw [hx, h1, h2]
     show (if (Sto.append (Lst F k i j pl off) (nm manB k) (Frm.put 69 (enc e))).1 = 0 then allP [fun s => Sto.sync s (nm manB k)] (Sto.append (Lst F k i j pl off) (nm manB k) (Frm.put 69 (enc e))).2 else _) = _
     rw [hA, if_pos rfl]
     rfl
   rcases sync_lst F1 k i j p o (by omega) with ⟨c, p2, o2, c0, c2, c9, hS⟩ | ⟨p2, o2, hS⟩
   · exact hbr c F1 p2 o2 _ c0 c2 c9 (by rw [hx2, hS, if_neg c0]) l1 gi gj (.inr rfl)
   · have e2 : logP s n u false e = (0, Lst (F1.set j ⟨(F1.getD j zF).b, (F1.getD j zF).b.length⟩) k i j p2 o2, (apply u e).2, false) := by
       rw [e1, hx2, hS, if_pos rfl, if_neg (fun h => h rfl)]
     rw [e2]
     refine ⟨fun _ => ⟨ha, ⟨_, k, i, j, p2, o2, Fr ++ [(69, enc e)], [], rfl, h2, h3, by omega, by rw [List.length_set]; omega, by rw [List.length_set]; omega, h7, ?_, ?_, ?_, ?_, ?_, by rw [List.length_set]; omega, .inl rfl⟩, by simp, fun _ => rfl, fun v hv => by rw [List.mem_singleton] at hv; rw [hv]; exact r1⟩, fun h => absurd rfl h, fun h => absurd rfl h⟩
     · rw [getD_set1 _ _ (by omega), if_neg (fun e => h7 e.symm), gi]; exact h8
     · rw [getD_set1 _ _ (by omega), if_pos rfl, gj, List.append_nil, flat_snoc1]
     · intro p hp
       rcases List.mem_append.1 hp with hp | hp
       · exact h10 p hp
       · rw [List.mem_singleton] at hp
         subst hp
         simp only
         omega
     · exact (tellAll_snoc _ _ _ _ h11).trans (tell1_ok r4 ha)
     · rw [List.append_nil, flat_snoc1, List.length_append]
       simp only
       omega
theorem J.plan {s : Sto.St} {n : Sto.Str} {t : Ss} {br : Bool} {may : List Ss} {q : Nat} (h : J s n t br may q) (p : List UInt8) : J { s with plan := p } n t br may (q + 1) := by
 obtain ⟨F, k, i, j, pl, off, Fr, y, h1, h2, h3, h4, h5, h6, h7, h8, h9, h10, h11, h12, h13, h14⟩ := h.ex
 subst h1
 exact ⟨⟨F, k, i, j, p, off, Fr, y, rfl, h2, h3, by omega, h5, h6, h7, h8, h9, h10, h11, by omega, by omega, h14⟩, h.mem, h.one, h.right⟩
theorem J.sizes {s : Sto.St} {n : Sto.Str} {t : Ss} {br : Bool} {may : List Ss} {q : Nat} (h : J s n t br may q) : s.kept = [] ∧ s.files.length ≤ 2 * (q + 1) ∧ n.length = 10 := by
 obtain ⟨F, k, i, j, pl, off, Fr, y, h1, h2, h3, h4, h5, h6, h7, h8, h9, h10, h11, h12, h13, h14⟩ := h.ex
 subst h1
 exact ⟨rfl, h13, by rw [h2]; exact nm_len k⟩
end Ver
namespace Sto
section
variable {s : St} {n m : Str} {b : List UInt8} {i : Nat}
theorem create_plain1 (hn : isName n = true) (ho : s.off = false) (hp : s.plan = []) (hf : find s.now n = none) : create s n = (0, change { s with files := s.files ++ [⟨[], 0⟩] } (.put n s.files.length)) := by
 have hm := meet_plain1 s [n] (by simp [hn]) ho hp
 unfold create
 simp only [hm]
 rw [if_neg (by simp), hf]
 rfl
theorem append_plain1 (hn : isName n = true) (ho : s.off = false) (hp : s.plan = []) (hf : find s.now n = some i) (hr : ¬ (s.room - (size s : Int) < (b.length : Int))) : append s n b = (0, setF s i ⟨(file s i).b ++ b, (file s i).sure⟩) := by
 have hm := meet_plain1 s [n] (by simp [hn]) ho hp
 unfold append
 simp only [hm]
 rw [if_neg (by simp), hf]
 simp only
 rw [if_neg hr]
theorem sync_plain1 (hn : isName n = true) (ho : s.off = false) (hp : s.plan = []) (hf : find s.now n = some i) : sync s n = (0, setF s i ⟨(file s i).b, (file s i).b.length⟩) := by
 have hm := meet_plain1 s [n] (by simp [hn]) ho hp
 unfold sync
 simp only [hm]
 rw [if_neg (by simp), hf]
theorem remove_plain1 (hn : isName n = true) (ho : s.off = false) (hp : s.plan = []) (hf : find s.now n = some i) : remove s n = (0, change s (.del n)) := by
 have hm := meet_plain1 s [n] (by simp [hn]) ho hp
 unfold remove
 simp only [hm]
 rw [if_neg (by simp), hf]
theorem rename_plain1 (hn : isName n = true) (hm2 : isName m = true) (ho : s.off = false) (hp : s.plan = []) (hf : find s.now n = some i) (hne : n ≠ m) : rename s n m = (0, change s (.ren n m i)) := by
 have hm := meet_plain1 s [m, n] (by simp [hn, hm2]) ho hp
 unfold rename
 simp only [hm]
 rw [if_neg (by simp), hf]
 simp only
 rw [if_neg hne]
theorem syncDir_plain1 (ho : s.off = false) (hp : s.plan = []) : syncDir s = (0, { s with disk := s.now, kept := [] }) := by
 have hm := meet_plain1 s [] rfl ho hp
 unfold syncDir
 simp only [hm]
 rw [if_neg (by simp)]
end
end Sto
namespace Ver
theorem getD_lt (F G : List Sto.Fl) {i : Nat} (h : i < F.length) : (F ++ G).getD i zF = F.getD i zF := by
 rw [List.getD_eq_getElem?_getD, List.getD_eq_getElem?_getD, List.getElem?_append_left h]
theorem getD_0 (F : List Sto.Fl) (x : Sto.Fl) (G : List Sto.Fl) : (F ++ x :: G).getD F.length zF = x := by
 rw [List.getD_eq_getElem?_getD, List.getElem?_append_right (Nat.le_refl _)]; simp
theorem getD_1 (F : List Sto.Fl) (x y : Sto.Fl) : (F ++ [x, y]).getD (F.length + 1) zF = y := by
 rw [List.getD_eq_getElem?_getD, List.getElem?_append_right (by omega)]; simp
theorem set_0 (F : List Sto.Fl) (x z : Sto.Fl) (G : List Sto.Fl) : (F ++ x :: G).set F.length z = F ++ z :: G := by
 rw [List.set_append_right _ _ (Nat.le_refl _)]; simp
theorem set_1 (F : List Sto.Fl) (x y z : Sto.Fl) : (F ++ [x, y]).set (F.length + 1) z = F ++ [x, z] := by
 rw [List.set_append_right _ _ (by omega)]; simp
theorem allP_go {f : Sto.St → Int × Sto.St} {l : List (Sto.St → Int × Sto.St)} {x y : Sto.St} (h : f x = (0, y)) : allP (f :: l) x = allP l y := by
 show (if (f x).1 = 0 then allP l (f x).2 else f x) = _
 rw [h, if_pos rfl]
theorem wr_plain {s s1 s2 s3 : Sto.St} {n : Sto.Str} {b : List UInt8} (h1 : Sto.create s n = (0, s1)) (h2 : Sto.append s1 n b = (0, s2)) (h3 : Sto.sync s2 n = (0, s3)) : wr s n b = (0, s3) := by
 unfold wr wrSteps
 rw [allP_go h1, allP_go h2, allP_one, h3]
theorem curB_name : Sto.isName curB = true := by decide
theorem newB_name : Sto.isName newB = true := by decide
theorem nb_cur : nb manB curB = 0 ∧ nb tabB curB = 0 := by decide
theorem crash_lst (F : List Sto.Fl) (k i j : Nat) (pl : List UInt8) (off : Bool) (hi : i < F.length) (hci : F.getD i zF = ⟨nm manB k, 10⟩) (c : Int) (keep : List Int) :
   ∃ z, Sto.crash (Lst F k i j pl off) c keep = Lst (F.set j ⟨(F.getD j zF).b.take ((F.getD j zF).sure + z), (F.getD j zF).sure + z⟩) k i j [] false := by
 have h1 : Sto.cut keep 0 (F.getD i zF) = ⟨nm manB k, 10⟩ := by
   rw [hci]
   unfold Sto.cut
   have hl : ((nm manB k).length : Int) - ((10 : Nat) : Int) = 0 := by rw [nm_len]; rfl
   have h10 := nm_len k
   have hz : ∀ x : Int, (min (max x 0) (0 : Int)).toNat = 0 := fun x => by
     have : min (max x 0) (0 : Int) = 0 := by omega
     rw [this]; rfl
   rcases keep[0]? with _ | x
   · simp only [Nat.add_zero]
     rw [List.take_of_length_le (by omega)]
   · simp only [hl, hz, Nat.add_zero]
     rw [List.take_of_length_le (by omega)]
 have h2 : F.set i ⟨nm manB k, 10⟩ = F := by
   rw [← hci]
   refine List.ext_getElem? (fun x => ?_)
   rw [List.getElem?_set]
   by_cases hx : i = x
   · subst hx
     rw [if_pos rfl, if_pos hi, List.getD_eq_getElem?_getD, List.getElem?_eq_getElem hi]; rfl
   · rw [if_neg hx]
 unfold Sto.crash Lst
 simp only [List.take_nil, List.foldl_nil, Sto.ids, List.map_cons, List.map_nil]
 have e : Sto.cutAll keep 0 [i, j] F = F.set j (Sto.cut keep 1 (F.getD j zF)) := by
   show Sto.cutAll keep 1 [j] (F.set i (Sto.cut keep 0 (F.getD i zF))) = _
   rw [h1, h2]
   rfl
 rw [e]
 exact ⟨_, rfl⟩
theorem open_lst (F : List Sto.Fl) (k i j : Nat) (hk : k + 1 < 999999) (h1k : 1 ≤ k) (hi : i < F.length) (hj : j < F.length) (hci : F.getD i zF = ⟨nm manB k, 10⟩) (t : Ss) (ht : tells zeroS (scan (F.getD j zF).b) = t) (hr : right t = true) (hsz : (F.getD j zF).b.length ≤ 4000000) :
   openP (Lst F k i j [] false) = (0, Lst (F ++ [⟨Frm.put 69 (enc (edSt t)), (Frm.put 69 (enc (edSt t))).length⟩, ⟨nm manB (k + 1), 10⟩]) (k + 1) (F.length + 1) F.length [] false, nm manB (k + 1), t) := by
 obtain ⟨f, hf⟩ : ∃ f, f = Frm.put 69 (enc (edSt t)) := ⟨_, rfl⟩
 obtain ⟨n, hn⟩ : ∃ n, n = nm manB k := ⟨_, rfl⟩
 obtain ⟨n', hn'⟩ : ∃ n', n' = nm manB (k + 1) := ⟨_, rfl⟩
 have hok := right_okE hr
 have hfl : f.length ≤ 56020 := by rw [hf]; exact put_len2 hok
 have b1 : bytesBefore curB n = true := by rw [hn]; exact cur_nm k
 have b2 : bytesBefore curB n' = true := by rw [hn']; exact cur_nm _
 have b3 : bytesBefore n n' = true := by rw [hn, hn']; exact nm_less (by omega) (by omega)
 have b4 : bytesBefore newB n = true := by rw [hn]; exact new_nm k
 have b5 : bytesBefore newB n' = true := by rw [hn']; exact new_nm _
 have b6 := cur_new
 have q1 := bb_beq b1
 have q2 := bb_beq b2
 have q3 := bb_beq b3
 have q4 := bb_beq b4
 have q5 := bb_beq b5
 have q6 := bb_beq b6
 have p1 := bb_no b1
 have p2 := bb_no b2
 have p3 := bb_no b3
 have p4 := bb_no b4
 have p5 := bb_no b5
 have p6 := bb_no b6
 have i1 : Sto.isName n = true := by rw [hn]; exact nm_isName k (by omega)
 have i2 : Sto.isName n' = true := by rw [hn']; exact nm_isName _ (by omega)
 have l1 : n.length = 10 := by rw [hn]; exact nm_len k
 have l2 : n'.length = 10 := by rw [hn']; exact nm_len _
 have v1 : nb manB n = k := by rw [hn]; exact nb_nm k (by omega)
 have v2 : nb manB n' = k + 1 := by rw [hn']; exact nb_nm _ (by omega)
 have w1 : nb tabB n = 0 := by rw [hn]; exact nb_tab_nm k
 have w2 : nb tabB n' = 0 := by rw [hn']; exact nb_tab_nm _
 obtain ⟨D, hD⟩ : ∃ D : Sto.Dir, D = [(curB, i), (n, j)] := ⟨_, rfl⟩
 have hs0 : Lst F k i j [] false = ⟨4194304, F, D, D, [], [], false⟩ := by rw [hD, hn]; rfl
 have hres : Lst (F ++ [⟨f, f.length⟩, ⟨n', 10⟩]) (k + 1) (F.length + 1) F.length [] false = ⟨4194304, F ++ [⟨f, f.length⟩, ⟨n', 10⟩], [(curB, F.length + 1), (n', F.length)], [(curB, F.length + 1), (n', F.length)], [], [], false⟩ := by rw [hn']; rfl
 rw [← hf, ← hn', hres, hs0]
 rw [← hn] at hci
 clear hs0 hres
 obtain ⟨s0, hs0⟩ : ∃ s0 : Sto.St, s0 = ⟨4194304, F, D, D, [], [], false⟩ := ⟨_, rfl⟩
 rw [← hs0]
 have hnm : Sto.names s0 = [curB, n] := by rw [hs0, hD]; rfl
 have hrd : (Sto.read s0 curB).2 = n := by
   unfold Sto.read
   rw [if_neg (by rw [hs0]; simp), if_neg (by rw [curB_name]; simp)]
   have : Sto.find s0.now curB = some i := by rw [hs0, hD]; exact (by unfold Sto.find; simp)
   rw [this]
   show (Sto.file s0 i).b = n
   have : Sto.file s0 i = F.getD i zF := by rw [hs0]; rfl
   rw [this, hci]
 have hrd2 : (Sto.read s0 n).2 = (F.getD j zF).b := by
   unfold Sto.read
   rw [if_neg (by rw [hs0]; simp), if_neg (by rw [i1]; simp)]
   have : Sto.find s0.now n = some j := by rw [hs0, hD, hn]; exact find_lst i j k
   rw [this]
   show (Sto.file s0 j).b = _
   have : Sto.file s0 j = F.getD j zF := by rw [hs0]; rfl
   rw [this]
 have hst : stateOf s0 = some t := by
   unfold stateOf
   have hno : ¬ (k = 0 ∨ n ∉ [curB, n]) := by
     rintro (h | h)
     · omega
     · exact h (by simp)
   rw [hnm, if_pos (by simp), hrd, v1, if_neg hno]
   unfold told
   rw [hrd2, ht]
 -- begin
 have hcl : cleared s0 = (0, s0) := by
   unfold cleared
   rw [hnm, if_neg]
   intro h
   rcases List.mem_cons.1 h with h | h
   · exact absurd h (by decide)
   · rw [List.mem_singleton] at h
     rw [h, WideAt.bytes_irrefl] at b4
     cases b4
 have hla : lastN (Sto.names s0) = k := by
   rw [hnm]
   show max (max 0 (nb manB curB)) (nb manB n) = k
   rw [nb_cur.1, v1]
   omega
 have hfB : frB (edSt t) = enc (edSt t) := frB_ok hok
 have hel := enc_len2 hok
 -- the list
 have c1 : Sto.create s0 n' = (0, ⟨4194304, F ++ [zF], [(curB, i), (n, j), (n', F.length)], D, [.put n' F.length], [], false⟩) := by
   rw [Sto.create_plain1 i2 (by rw [hs0]) (by rw [hs0]) (by rw [hs0, hD]; unfold Sto.find; simp [q2.1, q3.1])]
   rw [hs0, hD]
   unfold Sto.change Sto.made Sto.put Sto.del
   simp [q2.1, q3.1, Sto.ins, p2, p3, zF]
 have z0 : ∀ (x : Sto.Fl) (d : Sto.Dir) (kp : List Sto.Chg), Sto.size ⟨4194304, F ++ [x], [(curB, i), (n, j), (n', F.length)], d, kp, [], false⟩ = 10 + (F.getD j zF).b.length + x.b.length := by
   intro x d kp
   unfold Sto.size Sto.file
   show ((F ++ [x]).getD i zF).b.length + (((F ++ [x]).getD j zF).b.length + (((F ++ [x]).getD F.length zF).b.length + 0)) = _
   rw [getD_lt F _ hi, getD_lt F _ hj, getD_0 F x [], hci, l1]
   omega
 have c2 : Sto.append ⟨4194304, F ++ [zF], [(curB, i), (n, j), (n', F.length)], D, [.put n' F.length], [], false⟩ n' f = (0, ⟨4194304, F ++ [⟨f, 0⟩], [(curB, i), (n, j), (n', F.length)], D, [.put n' F.length], [], false⟩) := by
   rw [Sto.append_plain1 (i := F.length) i2 rfl rfl (by unfold Sto.find; simp [q2.1, q3.1]) (by rw [z0]; show ¬ ((4194304 : Int) - ((10 + (F.getD j zF).b.length + 0 : Nat) : Int) < (f.length : Int)); omega)]
   unfold Sto.setF Sto.file
   simp only
   rw [show (⟨[], 0⟩ : Sto.Fl) = zF from rfl, getD_0 F zF [], set_0 F zF _ []]
   rfl
 have c3 : Sto.sync ⟨4194304, F ++ [⟨f, 0⟩], [(curB, i), (n, j), (n', F.length)], D, [.put n' F.length], [], false⟩ n' = (0, ⟨4194304, F ++ [⟨f, f.length⟩], [(curB, i), (n, j), (n', F.length)], D, [.put n' F.length], [], false⟩) := by
   rw [Sto.sync_plain1 (i := F.length) i2 rfl rfl (by unfold Sto.find; simp [q2.1, q3.1])]
   unfold Sto.setF Sto.file
   simp only
   rw [show (⟨[], 0⟩ : Sto.Fl) = zF from rfl, getD_0 F _ [], set_0 F _ _ []]
 -- the scratch file
 have d1 : Sto.create ⟨4194304, F ++ [⟨f, f.length⟩], [(curB, i), (n, j), (n', F.length)], D, [.put n' F.length], [], false⟩ newB = (0, ⟨4194304, F ++ [⟨f, f.length⟩, zF], [(curB, i), (newB, F.length + 1), (n, j), (n', F.length)], D, [.put n' F.length, .put newB (F.length + 1)], [], false⟩) := by
   rw [Sto.create_plain1 newB_name rfl rfl (by unfold Sto.find; simp [q4.2, q5.2, q6.1])]
   unfold Sto.change Sto.made Sto.put Sto.del
   simp [q4.2, q5.2, q6.1, Sto.ins, p6, b4, zF]
 have z1 : ∀ (x y : Sto.Fl) (d : Sto.Dir) (kp : List Sto.Chg), Sto.size ⟨4194304, F ++ [x, y], [(curB, i), (newB, F.length + 1), (n, j), (n', F.length)], d, kp, [], false⟩ = 10 + y.b.length + (F.getD j zF).b.length + x.b.length := by
   intro x y d kp
   unfold Sto.size Sto.file
   show ((F ++ [x, y]).getD i zF).b.length + (((F ++ [x, y]).getD (F.length + 1) zF).b.length + (((F ++ [x, y]).getD j zF).b.length + (((F ++ [x, y]).getD F.length zF).b.length + 0))) = _
   rw [getD_lt F _ hi, getD_lt F _ hj, getD_1 F x y, getD_0 F x [y], hci, l1]
   omega
 have d2 : Sto.append ⟨4194304, F ++ [⟨f, f.length⟩, zF], [(curB, i), (newB, F.length + 1), (n, j), (n', F.length)], D, [.put n' F.length, .put newB (F.length + 1)], [], false⟩ newB n' = (0, ⟨4194304, F ++ [⟨f, f.length⟩, ⟨n', 0⟩], [(curB, i), (newB, F.length + 1), (n, j), (n', F.length)], D, [.put n' F.length, .put newB (F.length + 1)], [], false⟩) := by
   rw [Sto.append_plain1 (i := F.length + 1) newB_name rfl rfl (by unfold Sto.find; simp [q6.1]) (by rw [z1]; show ¬ ((4194304 : Int) - ((10 + 0 + (F.getD j zF).b.length + f.length : Nat) : Int) < (n'.length : Int)); omega)]
   unfold Sto.setF Sto.file
   simp only
   rw [show (⟨[], 0⟩ : Sto.Fl) = zF from rfl, getD_1 F _ zF, set_1 F _ zF _]
   rfl
 have d3 : Sto.sync ⟨4194304, F ++ [⟨f, f.length⟩, ⟨n', 0⟩], [(curB, i), (newB, F.length + 1), (n, j), (n', F.length)], D, [.put n' F.length, .put newB (F.length + 1)], [], false⟩ newB = (0, ⟨4194304, F ++ [⟨f, f.length⟩, ⟨n', 10⟩], [(curB, i), (newB, F.length + 1), (n, j), (n', F.length)], D, [.put n' F.length, .put newB (F.length + 1)], [], false⟩) := by
   rw [Sto.sync_plain1 (i := F.length + 1) newB_name rfl rfl (by unfold Sto.find; simp [q6.1])]
   unfold Sto.setF Sto.file
   simp only
   rw [show (⟨[], 0⟩ : Sto.Fl) = zF from rfl, getD_1 F _ _, set_1 F _ _ _, l2]
 have d4 : Sto.rename ⟨4194304, F ++ [⟨f, f.length⟩, ⟨n', 10⟩], [(curB, i), (newB, F.length + 1), (n, j), (n', F.length)], D, [.put n' F.length, .put newB (F.length + 1)], [], false⟩ newB curB = (0, ⟨4194304, F ++ [⟨f, f.length⟩, ⟨n', 10⟩], [(curB, F.length + 1), (n, j), (n', F.length)], D, [.put n' F.length, .put newB (F.length + 1), .ren newB curB (F.length + 1)], [], false⟩) := by
   rw [Sto.rename_plain1 (i := F.length + 1) newB_name curB_name rfl rfl (by unfold Sto.find; simp [q6.1]) (by decide)]
   unfold Sto.change Sto.made Sto.put Sto.del
   simp [q1.2, q2.2, q4.2, q5.2, q6.1, Sto.ins, b1]
 have d5 : Sto.syncDir ⟨4194304, F ++ [⟨f, f.length⟩, ⟨n', 10⟩], [(curB, F.length + 1), (n, j), (n', F.length)], D, [.put n' F.length, .put newB (F.length + 1), .ren newB curB (F.length + 1)], [], false⟩ = (0, ⟨4194304, F ++ [⟨f, f.length⟩, ⟨n', 10⟩], [(curB, F.length + 1), (n, j), (n', F.length)], [(curB, F.length + 1), (n, j), (n', F.length)], [], [], false⟩) := by
   rw [Sto.syncDir_plain1 rfl rfl]
 have hbs : allP (beginSteps n' f) s0 = (0, ⟨4194304, F ++ [⟨f, f.length⟩, ⟨n', 10⟩], [(curB, F.length + 1), (n, j), (n', F.length)], [(curB, F.length + 1), (n, j), (n', F.length)], [], [], false⟩) := by
   have hw1 := wr_plain c1 c2 c3
   have hw2 := wr_plain d1 d2 d3
   unfold beginSteps
   rw [allP_go (f := fun s => wr s n' f) hw1, allP_go (f := fun s => wr s newB n') hw2, allP_go (f := fun s => Sto.rename s newB curB) d4, allP_one, d5]
 have hbp : beginP s0 [] (edSt t) = ((0, ⟨4194304, F ++ [⟨f, f.length⟩, ⟨n', 10⟩], [(curB, F.length + 1), (n, j), (n', F.length)], [(curB, F.length + 1), (n, j), (n', F.length)], [], [], false⟩), n') := by
   unfold beginP
   rw [hcl, hla, if_neg (by simp), if_neg (by omega), hfB, if_neg (by omega), ← hn', ← hf, hbs]
 -- clean
 obtain ⟨s8, hs8⟩ : ∃ s8 : Sto.St, s8 = ⟨4194304, F ++ [⟨f, f.length⟩, ⟨n', 10⟩], [(curB, F.length + 1), (n, j), (n', F.length)], [(curB, F.length + 1), (n, j), (n', F.length)], [], [], false⟩ := ⟨_, rfl⟩
 rw [← hs8] at hbp
 have hg : (Sto.names s8).filter (goneF t.files n') = [n] := by
   have e1 : goneF t.files n' curB = false := by unfold goneF; rw [nb_cur.1, nb_cur.2]; rfl
   have e2 : goneF t.files n' n = true := by
     unfold goneF
     rw [v1, decide_eq_true (show 0 < k by omega), decide_eq_true (show n ≠ n' from fun e => by rw [e, WideAt.bytes_irrefl] at b3; cases b3)]
     rfl
   have e3 : goneF t.files n' n' = false := by unfold goneF; rw [w2]; simp
   rw [hs8]
   show [curB, n, n'].filter (goneF t.files n') = [n]
   simp [e1, e2, e3]
 have r1 : Sto.remove s8 n = (0, ⟨4194304, F ++ [⟨f, f.length⟩, ⟨n', 10⟩], [(curB, F.length + 1), (n', F.length)], [(curB, F.length + 1), (n, j), (n', F.length)], [.del n], [], false⟩) := by
   rw [Sto.remove_plain1 (i := j) i1 (by rw [hs8]) (by rw [hs8]) (by rw [hs8]; unfold Sto.find; simp [q1.1]), hs8]
   unfold Sto.change Sto.made Sto.del
   simp [q1.1, q3.2]
 have hcf : cleanF s8 t.files n' = (0, ⟨4194304, F ++ [⟨f, f.length⟩, ⟨n', 10⟩], [(curB, F.length + 1), (n', F.length)], [(curB, F.length + 1), (n', F.length)], [], [], false⟩) := by
   unfold cleanF
   rw [hg]
   show allP [fun s => Sto.remove s n, fun s => Sto.syncDir s] s8 = _
   rw [allP_go r1, allP_one, Sto.syncDir_plain1 rfl rfl]
 unfold openP
 rw [if_neg (by rw [hs0]; simp), hst]
 simp only
 rw [hbp, if_neg (by simp)]
 simp only
 rw [hcf]
theorem J.crash {s : Sto.St} {n : Sto.Str} {t : Ss} {br : Bool} {may : List Ss} {q : Nat} (h : J s n t br may q) (hq : q < 64) (c : Int) (keep : List Int) :
   ∃ s' n' t', openP (Sto.crash s c keep) = (0, s', n', t') ∧ t' ∈ may ∧ Ver.right t' = true ∧ J s' n' t' false [t'] (q + 1) := by
 obtain ⟨F, k, i, j, pl, off, Fr, y, h1, h2, h3, h4, h5, h6, h7, h8, h9, h10, h11, h12, h13, h14⟩ := h.ex
 subst h1
 obtain ⟨z, hz⟩ := crash_lst F k i j pl off h5 h8 c keep
 rw [h9] at hz
 simp only at hz
 obtain ⟨F1, hF1⟩ : ∃ F1, F1 = F.set j ⟨(Frm.flat Fr ++ y).take ((Frm.flat Fr).length + z), (Frm.flat Fr).length + z⟩ := ⟨_, rfl⟩
 rw [← hF1] at hz
 have l1 : F1.length = F.length := by rw [hF1, List.length_set]
 have gi : F1.getD i zF = ⟨nm manB k, 10⟩ := by rw [hF1, getD_set1 _ _ h6, if_neg (fun e => h7 e.symm), h8]
 have gj : (F1.getD j zF).b = Frm.flat Fr ++ y.take z := by rw [hF1, getD_set1 _ _ h6, if_pos rfl]; exact List.take_length_add_append _
 obtain ⟨t', ht'⟩ : ∃ t', t' = tells zeroS (scan (F1.getD j zF).b) := ⟨_, rfl⟩
 have hmem : t' ∈ may := by
   rw [ht', gj]
   rcases h14 with rfl | ⟨_, e, rfl, hE, ha, hm⟩
   · rw [List.take_nil, List.append_nil, scan_whole h10, tells_of _ _ _ h11]
     exact h.mem
   · rcases cut_told h10 h11 hE ha z with h15 | h15
     · rw [h15]; exact h.mem
     · rw [h15]; exact hm
 have hr := h.right t' hmem
 have hop := open_lst F1 k i j (by omega) h3 (by omega) (by omega) gi t' ht'.symm hr (by
   rw [gj, List.length_append, List.length_take]
   rw [List.length_append] at h12
   omega)
 rw [hz]
 have hok := right_okE hr
 have hp := put_len2 hok
 refine ⟨_, _, _, hop, hmem, hr, ⟨⟨_, k + 1, F1.length + 1, F1.length, [], false, [(69, enc (edSt t'))], [], rfl, rfl, by omega, by omega, by simp, by simp, by omega, getD_1 F1 _ _, ?_, ?_, ?_, ?_, by simp only [List.length_append, List.length_cons, List.length_nil]; omega, .inl rfl⟩, by simp, fun _ => rfl, fun u hu => by rw [List.mem_singleton] at hu; rw [hu]; exact hr⟩⟩
 · rw [getD_0 F1 _ [_], List.append_nil, show Frm.flat [(69, enc (edSt t'))] = Frm.put 69 (enc (edSt t')) by simp [Frm.flat]]
 · intro p hp2
   rw [List.mem_singleton] at hp2
   subst hp2
   have := enc_len2 hok
   simp only
   omega
 · have h16 : (apply zeroS (edSt t')).1 = 0 := by rw [apply_zero hr]
   have h17 := tell1_ok hok h16
   rw [apply_zero hr] at h17
   unfold tellAll
   rw [h17]
   rfl
 · rw [List.append_nil, show Frm.flat [(69, enc (edSt t'))] = Frm.put 69 (enc (edSt t')) by simp [Frm.flat]]
   omega
set_option maxRecDepth 100000 in
theorem open_new4 : openP (Sto.new 4194304) = (0, Lst [⟨Frm.put 69 (enc (edSt zeroS)), (Frm.put 69 (enc (edSt zeroS))).length⟩, ⟨nm manB 1, 10⟩] 1 1 0 [] false, nm manB 1, zeroS) := by
 kernel_rfl
theorem J.start : ∃ s n, openP (Sto.new 4194304) = (0, s, n, zeroS) ∧ J s n zeroS false [zeroS] 0 := by
 have hr : Ver.right zeroS = true := by decide
 have hok := right_okE hr
 have hp := put_len2 hok
 refine ⟨_, _, open_new4, ⟨⟨_, 1, 1, 0, [], false, [(69, enc (edSt zeroS))], [], rfl, rfl, by omega, by omega, by simp, by simp, by omega, rfl, ?_, ?_, ?_, ?_, by simp, .inl rfl⟩, by simp, fun _ => rfl, fun u hu => by rw [List.mem_singleton] at hu; rw [hu]; exact hr⟩⟩
 · rw [List.append_nil, show Frm.flat [(69, enc (edSt zeroS))] = Frm.put 69 (enc (edSt zeroS)) by simp [Frm.flat]]
   rfl
 · intro p hp2
   rw [List.mem_singleton] at hp2
   subst hp2
   have := enc_len2 hok
   simp only
   omega
 · have h16 : (apply zeroS (edSt zeroS)).1 = 0 := by rw [apply_zero hr]
   have h17 := tell1_ok hok h16
   rw [apply_zero hr] at h17
   unfold tellAll
   rw [h17]
   rfl
 · rw [List.append_nil, show Frm.flat [(69, enc (edSt zeroS))] = Frm.put 69 (enc (edSt zeroS)) by simp [Frm.flat]]
   omega
end Ver
end Go.Proofs.YtgmnhdkdicgkcaaGreatDoor
namespace Go.Proofs.YtgmnhdkdicgkcaaGreatDoor
open Go.RowKit Go.Maps
open Lib (hid)
namespace Ver
structure Sv where
 A : Option Addr
 c : Nat
 l : List Vf
 log : Int
 next : Int
def Sv.cells (v : Sv) : List Value := [.slice v.A v.l.length v.c, .int .i64 v.log, .int .i64 v.next]
def Sv.val (v : Sv) : Value := .agg #[.slice v.A v.l.length v.c, .int .i64 v.log, .int .i64 v.next]
def Sv.obj (v : Sv) : Obj := .cells #[.slice v.A v.l.length v.c, .int .i64 v.log, .int .i64 v.next] 24
def Sv.ss (v : Sv) : Ss := ⟨v.l.map Vf.fi, v.log, v.next⟩
theorem svT : RT Tryz.prog 73 24 Sv.cells 3 40 (.agg #[.slice none 0 0, .int .i64 0, .int .i64 0]) :=
 ⟨Tryz.underlying73, by kernel_rfl, fun _ => rfl, fun v u hu => by simp [Sv.cells] at hu; rcases hu with h | h | h <;> (subst h; rfl), by omega, rfl⟩
theorem rd_sv_new (w : World) (v : Sv) {N : Nat} (hN : w.heap.size = N) : RdS Sv.cells 3 (w.alloc v.obj) (N + 1) (some ⟨N, 0, none⟩) [v] := by
 subst hN
 refine RdS.of (f := Sv.cells) (n := 3) (l := [v]) (fun _ => rfl) _ 0 (by omega) (fun k hk j u hj => ?_)
 obtain rfl : k = 0 := by simp at hk; exact hk
 have hj' : v.cells[j]? = some u := hj
 unfold Sv.obj
 rw [cell_of_row _ w.heap.size _ _ _ (0, 0) (heap_alloc_new w _)]
 simpa [Sv.cells] using hj'
theorem own_sv_new (w : World) (v : Sv) {base : Nat} (hb : base ≤ w.heap.size) : OwnS Sv.cells 3 (w.alloc v.obj) base 24 (some ⟨w.heap.size, 0, none⟩) 1 [v] := by
 have := World.ownsRow_lit (e := 24) (size := 3) w #[.slice v.A v.l.length v.c, .int .i64 v.log, .int .i64 v.next] 1 hb (by unfold maxLen; omega) rfl
 exact this
structure Sok (w : World) (base g : Nat) (m : Sto.Mem) (v : Sv) : Prop where
 ow : OwV w base v.A v.c v.l
 off : OffV g m v.A v.l
structure My (w : World) (base g : Nat) (m : Sto.Mem) (A : Option Addr) (c : Nat) (L X : List Sv) : Prop where
 row : OwnS Sv.cells 3 w base 24 A c L
 ok : ∀ v ∈ L ++ X, Sok w base g m v
structure Aq (w w' : World) (g gk : Nat) (m m' : Sto.Mem) : Prop where
 os : w'.os = w.os
 tape : w'.tape = w.tape
 output : w'.output = w.output
 size : w.heap.size ≤ w'.heap.size
 block : ∀ k, k < w.heap.size → ¬ Sto.Mut g m k → k ≠ gk → w'.heap[k]? = w.heap[k]?
 turn : ∀ k, k < w.heap.size → Sto.Mut g m' k → Sto.Mut g m k
def BxKept (w w' : World) : Prop := ∀ q, Sto.Tag w q 61 ∨ Sto.Tag w q 24 → w'.heap[q]? = w.heap[q]?
section
variable {w w' w1 : World} {base g gk c : Nat} {s : Sto.St} {m m' : Sto.Mem} {A : Option Addr} {L X : List Sv} {v : Sv}
theorem Aq.of_b (h : AftB w w' g gk m m') : Aq w w' g gk m m' := ⟨h.os, h.tape, h.output, h.size, h.block, h.turn⟩
theorem Aq.of_a (h : Sto.Aft w w' g m m') : Aq w w' g gk m m' := ⟨h.os, h.tape, h.output, h.size, fun k h1 h2 _ => h.block k h1 h2, h.turn⟩
theorem Aq.of_0 (h : Aft0 w w' g m m') : Aq w w' g gk m m' := ⟨h.os, h.tape, h.output, h.size, fun k h1 h2 _ => h.block k h1 h2, h.turn⟩
theorem Aq.below (h : Aq w w' g gk m m') (hs : Sto.StAt w base g s m) (hg : base ≤ gk) : Below base w w' :=
 ⟨h.os, h.tape, h.output, h.size, fun k hk => by
   have h1 := hs.r.mut_ge (.inl rfl)
   exact h.block k (by omega) (fun hm => by have := (hs.r.mut_ge hm).1; omega) (by omega)⟩
theorem not_foot_state (h : Sto.StAt w base g s m) {k : Nat} (ht : Sto.Tag w k 24) : ¬ Sto.Foot w g m k :=
 h.not_foot ht (by decide) (by decide) (by decide) (by decide) (by decide) (fun e => absurd e (by decide))
theorem not_foot_step (h : Sto.StAt w base g s m) {k : Nat} (ht : Sto.Tag w k 61) : ¬ Sto.Foot w g m k :=
 h.not_foot ht (by decide) (by decide) (by decide) (by decide) (by decide) (fun e => absurd e (by decide))
theorem Aq.kept (h : Aq w w' g gk m m') (hs : Sto.StAt w base g s m) (hk : Sto.Tag w gk 114) : BxKept w w' := by
 intro q hq
 rcases hq with t | t
 · exact h.block q t.lt (fun hm => not_foot_step hs t (.inl hm)) (t.ne hk (by decide))
 · exact h.block q t.lt (fun hm => not_foot_state hs t (.inl hm)) (t.ne hk (by decide))
theorem Sok.aq (h : Sok w base g m v) (ha : Aq w w' g gk m m') (hk : Sto.Tag w gk 114) : Sok w' base g m' v :=
 ⟨h.ow.keep ha.size (fun q e => ha.block q (owV_lt h.ow e).2 (h.off q e) (owV_ne h.ow hk e)), fun q e hm => h.off q e (ha.turn q (owV_lt h.ow e).2 hm)⟩
theorem Sok.below (h : Sok w base g m v) (hb : Below w.heap.size w w') : Sok w' base g m v := ⟨h.ow.below hb, h.off⟩
theorem My.aq (h : My w base g m A c L X) (hs : Sto.StAt w base g s m) (ha : Aq w w' g gk m m') (hk : Sto.Tag w gk 114) : My w' base g m' A c L X :=
 ⟨h.row.keep (fun q e => by
   have t := Sto.ownTagS h.row e
   exact ha.block q t.lt (fun hm => not_foot_state hs t (.inl hm)) (t.ne hk (by decide))), fun v hv => (h.ok v hv).aq ha hk⟩
theorem My.below (h : My w base g m A c L X) (hb : Below w.heap.size w w') : My w' base g m A c L X := ⟨h.row.below hb, fun v hv => (h.ok v hv).below hb⟩
theorem My.nil (w : World) (base g : Nat) (m : Sto.Mem) : My w base g m none 0 [] [] := ⟨OwnS.nil _ _ _, fun _ h => by cases h⟩
theorem Sok.fresh (hs : Sto.StAt w base g s m) (ho : OwV w' w.heap.size v.A v.c v.l) : Sok w' base g m v := by
 have h1 := hs.r.mut_ge (.inl rfl)
 exact ⟨ho.mono (by omega), fun q e hm => by have := (owV_lt ho e).1; have := (hs.r.mut_ge hm).2; omega⟩
end
structure LvM (w : World) (base g gk : Nat) (A : Option Addr) (c : Nat) (L X : List Sv) (s : Sto.St) (m : Sto.Mem) (n : Sto.Str) (t : Ss) (br : Bool) : Prop where
 st : Sto.StAt w base g s m
 bk : ∃ (A1 : Option Addr) (c1 : Nat) (l1 : List Vf), w.heap[gk]? = some (bkObj g n A1 l1 c1 t.log t.next br) ∧ l1.map Vf.fi = t.files ∧ OwV w base A1 c1 l1 ∧ OffV g m A1 l1
 ge : base ≤ gk
 my : My w base g m A c L X
def LvR (w : World) (base g gk k : Nat) (A : Option Addr) (c : Nat) (L X : List Sv) : Prop := ∃ s m n t br, LvM w base g gk A c L X s m n t br ∧ J s n t br (L.map Sv.ss) k
def LvC (w : World) (base g k : Nat) (A : Option Addr) (c : Nat) (L : List Sv) (t' : Ss) : Prop := ∃ s m, Sto.StAt w base g s m ∧ My w base g m A c L [] ∧ s.kept = [] ∧ s.files.length ≤ 400 ∧ Ver.right t' = true ∧ ∃ s' n', openP s = (0, s', n', t') ∧ J s' n' t' false [t'] k
def LvO (w : World) (base g gk k : Nat) (A : Option Addr) (c : Nat) (L : List Sv) (t' : Ss) : Prop := ∃ s m n, LvM w base g gk A c L [] s m n t' false ∧ Ver.right t' = true ∧ J s n t' false [t'] k
def LvG (w : World) (base g gk k : Nat) (A : Option Addr) (c : Nat) (L X : List Sv) (code : Int) (p : Int × Ss) : Prop := ∃ s m n t br, LvM w base g gk A c L X s m n t br ∧ (code = 0 → p.1 = 0 ∧ J s n t br [p.2] (k + 1)) ∧ (code ≠ 0 → p.1 = 0 → code ≠ 9 → code ≠ 2 → J s n t br (L.map Sv.ss ++ [p.2]) (k + 1)) ∧ (code ≠ 0 → ¬ (p.1 = 0 ∧ code ≠ 9 ∧ code ≠ 2) → J s n t br (L.map Sv.ss) (k + 1))
section
variable {w w' w1 : World} {base g gk k c c' : Nat} {s : Sto.St} {m m' : Sto.Mem} {n : Sto.Str} {t t' : Ss} {br : Bool} {A A' : Option Addr} {L X : List Sv} {v x : Sv} {code : Int} {p : Int × Ss}
theorem LvM.tag (h : LvM w base g gk A c L X s m n t br) : Sto.Tag w gk 114 := by
 obtain ⟨A1, c1, l1, h1, _⟩ := h.bk
 exact ⟨_, _, h1⟩
theorem LvM.base_le (h : LvM w base g gk A c L X s m n t br) : base ≤ w.heap.size := by
 have := h.st.r.mut_ge (.inl rfl); omega
theorem LvM.below (h : LvM w base g gk A c L X s m n t br) (hb : Below w.heap.size w w') : LvM w' base g gk A c L X s m n t br := by
 obtain ⟨A1, c1, l1, h1, h2, h3, h4⟩ := h.bk
 exact ⟨h.st.below hb, ⟨A1, c1, l1, (hb.block _ (Array.getElem?_eq_some_iff.1 h1).1).trans h1, h2, h3.below hb, h4⟩, h.ge, h.my.below hb⟩
theorem LvR.below (h : LvR w base g gk k A c L X) (hb : Below w.heap.size w w') : LvR w' base g gk k A c L X := by
 obtain ⟨s, m, n, t, br, h1, h2⟩ := h
 exact ⟨s, m, n, t, br, h1.below hb, h2⟩
theorem LvR.base_le (h : LvR w base g gk k A c L X) : base ≤ w.heap.size := by
 obtain ⟨s, m, n, t, br, h1, h2⟩ := h
 exact h1.base_le
theorem LvO.below (h : LvO w base g gk k A c L t') (hb : Below w.heap.size w w') : LvO w' base g gk k A c L t' := by
 obtain ⟨s, m, n, h1, h2⟩ := h
 exact ⟨s, m, n, h1.below hb, h2⟩
theorem LvC.below (h : LvC w base g k A c L t') (hb : Below w.heap.size w w') : LvC w' base g k A c L t' := by
 obtain ⟨s, m, h1, h2, h3⟩ := h
 exact ⟨s, m, h1.below hb, h2.below hb, h3⟩
theorem LvG.below (h : LvG w base g gk k A c L X code p) (hb : Below w.heap.size w w') : LvG w' base g gk k A c L X code p := by
 obtain ⟨s, m, n, t, br, h1, h2⟩ := h
 exact ⟨s, m, n, t, br, h1.below hb, h2⟩
theorem LvR.row (h : LvR w base g gk k A c L X) : OwnS Sv.cells 3 w base 24 A c L ∧ (∀ v ∈ L ++ X, OwV w base v.A v.c v.l) ∧ (∀ v ∈ L, Ver.right v.ss = true) ∧ 0 < L.length := by
 obtain ⟨s, m, n, t, br, h1, h2⟩ := h
 refine ⟨h1.my.row, fun v hv => (h1.my.ok v hv).ow, fun v hv => h2.right _ (List.mem_map_of_mem hv), ?_⟩
 have := h2.mem
 cases L with
 | nil => cases this
 | cons a L => simp
theorem LvO.row (h : LvO w base g gk k A c L t') : OwnS Sv.cells 3 w base 24 A c L ∧ (∀ v ∈ L, OwV w base v.A v.c v.l) ∧ Ver.right t' = true := by
 obtain ⟨s, m, n, h1, h2, _⟩ := h
 exact ⟨h1.my.row, fun v hv => (h1.my.ok v (by simpa using hv)).ow, h2⟩
theorem LvG.row (h : LvG w base g gk k A c L X code p) : OwnS Sv.cells 3 w base 24 A c L ∧ (code = 0 → p.1 = 0) := by
 obtain ⟨s, m, n, t, br, h1, h2, _⟩ := h
 exact ⟨h1.my.row, fun h => (h2 h).1⟩
theorem sv_len (h : Ver.right v.ss = true) : v.l.length ≤ 50 := by
 have h1 := (right_good h).2.1
 have h2 : v.ss.files.length = v.l.length := by unfold Sv.ss; simp
 omega
theorem LvR.apply_val (h : LvR w base g gk k A c L []) (hv : v ∈ L) (e : Ev) (he : EvOk w w.heap.size e) (hal : e.add.length ≤ 1000000) (hdl : e.drop.length ≤ 1000000) :
   Calls Tryz.prog 12 #[v.val, e.val] w fun r w' => ∃ x : Sv, r = .returned (.tuple #[x.val, .int .i64 (apply v.ss e.ed).1]) ∧ x.ss = (apply v.ss e.ed).2 ∧ LvR w' base g gk k A c L [x] ∧ Below w.heap.size w w' := by
 have hr := h.row.2.2.1 v hv
 obtain ⟨s, m, n, t, br, h1, h2⟩ := h
 have hok := h1.my.ok v (List.mem_append_left _ hv)
 refine (rapply_keep (fun q => base ≤ q ∧ Sto.Tag w q 5 ∧ ¬ Sto.Mut g m q) v.A v.c v.l v.log v.next e w hok.ow.rd he (by have := sv_len hr; omega) hal hdl (fun u hu q e => ⟨((hok.ow.own u hu).at_ e).1, ((hok.ow.own u hu).at_ e).2, hok.off q (.inr ⟨u, hu, e⟩)⟩)).mono ?_
 rintro r w' ⟨hb, A2, c2, l2, rfl, hl, hrk⟩
 have hbl := h1.base_le
 have hmg : ∀ q, w.heap.size ≤ q → ¬ Sto.Mut g m q := fun q hq hm => by have := (h1.st.r.mut_ge hm).2; omega
 have hown : ∀ u ∈ l2, VfOwn w' base u ∧ ∀ q, (blk u.FA = some q ∨ blk u.LA = some q) → ¬ Sto.Mut g m q := fun u hu => by
   rcases hrk.el u hu with ⟨h3, h4⟩ | h3
   · refine ⟨⟨⟨h3.f.more hrk.sz, fun q e => ?_⟩, ⟨h3.l.more hrk.sz, fun q e => ?_⟩, h3.fc, h3.lc⟩, fun q e => (h4 q e).2.2⟩
     · have h5 := h4 q (.inl e)
       exact ⟨h5.1, h5.2.1.keep (hb.block q h5.2.1.lt)⟩
     · have h5 := h4 q (.inr e)
       exact ⟨h5.1, h5.2.1.keep (hb.block q h5.2.1.lt)⟩
   · exact ⟨h3.mono hbl, fun q e => hmg q (h3.at_ e).1⟩
 refine ⟨⟨A2, c2, l2, (apply v.ss e.ed).2.log, (apply v.ss e.ed).2.next⟩, rfl, ?_, ⟨s, m, n, t, br, ?_, h2⟩, hb⟩
 · unfold Sv.ss
   simp only
   have hl2 : l2.map Vf.fi = (apply v.ss e.ed).2.files := hl
   rw [hl2]
   rfl
 · have h3 := h1.below hb
   refine ⟨h3.st, h3.bk, h3.ge, h3.my.row, fun u hu => ?_⟩
   rcases List.mem_append.1 hu with hu | hu
   · exact h3.my.ok u (List.mem_append_left _ hu)
   · rw [List.mem_singleton] at hu
     subst hu
     exact ⟨⟨hrk.row.mono hbl, fun y hy => (hown y hy).1⟩, fun q e => by
       rcases e with e | ⟨y, hy, e⟩
       · exact hmg q (hrk.row.blk_ge q e).1
       · exact (hown y hy).2 q e⟩
theorem LvR.log_val (h : LvR w base g gk k A c L X) (hk : k < 100) (hv : L.getLast? = some v) (e : Ev) (he : EvOk w w.heap.size e) (hal : e.add.length ≤ 1000000) (hdl : e.drop.length ≤ 1000000) :
   Calls Tryz.prog 32 #[.pointer (some ⟨gk, 0, none⟩), e.val] w fun r w' => ∃ code : Int, r = .returned (.int .i64 code) ∧ LvG w' base g gk k A c L X code (apply v.ss e.ed) ∧ Below base w w' ∧ BxKept w w' := by
 obtain ⟨s, m, n, t, br, h1, h2⟩ := h
 obtain ⟨A1, c1, l1, b1, b2, b3, b4⟩ := h1.bk
 obtain ⟨z1, z2, z3⟩ := h2.sizes
 have hll : l1.length ≤ 1000000 := by
   have h3 := (right_good (h2.right t h2.mem)).2.1
   have h4 := congrArg List.length b2
   rw [List.length_map] at h4
   omega
 have hc := log_any w base base g gk m s h1.st (by omega) h1.base_le n (by rw [z3]; unfold maxLen; omega) A1 c1 l1 t.log t.next br b1 b3 b4 hll e he hal hdl
 rw [b2] at hc
 refine hc.mono ?_
 rintro r w' ⟨rfl, m', A2, c2, l2, d1, d2, d3, d4, d5, d6⟩
 have hq := Aq.of_b d2
 have hj := h2.log hk e.ed v.ss (by rw [List.getLast?_map, hv]; rfl)
 exact ⟨_, rfl, ⟨_, m', n, _, _, ⟨d1, ⟨A2, c2, l2, d3, d4, d5, d6⟩, h1.ge, h1.my.aq h1.st hq h1.tag⟩, hj⟩, hq.below h1.st h1.ge, hq.kept h1.st h1.tag⟩
theorem LvG.one (h : LvG w base g gk k A c L [x] code p) (h0 : code = 0) (hx : x.ss = p.2) (hb : Below w.heap.size w w') (hr : OwnS Sv.cells 3 w' base 24 A' c' [x]) : LvR w' base g gk (k + 1) A' c' [x] [] := by
 obtain ⟨s, m, n, t, br, h1, h2, _⟩ := h
 have h3 := h1.below hb
 refine ⟨s, m, n, t, br, ⟨h3.st, h3.bk, h3.ge, hr, fun u hu => h3.my.ok u (List.mem_append_right _ (by simpa using hu))⟩, ?_⟩
 show J s n t br [x.ss] (k + 1)
 rw [hx]
 exact (h2 h0).2
theorem LvG.more (h : LvG w base g gk k A c L [x] code p) (h0 : code ≠ 0) (h1 : p.1 = 0) (h9 : code ≠ 9) (h2 : code ≠ 2) (hx : x.ss = p.2) (hb : Below w.heap.size w w1) (hg : w1.grownBy w' (blk A)) (hr : OwnS Sv.cells 3 w' base 24 A' c' (L ++ [x])) : LvR w' base g gk (k + 1) A' c' (L ++ [x]) [] ∧ Below base w w' := by
 obtain ⟨s, m, n, t, br, h3, _, h5, _⟩ := h
 have h4 := h3.below hb
 have htg : ∀ q, blk A = some q → base ≤ q ∧ Sto.Tag w1 q 24 := fun q e => ⟨(h4.my.row.blk_ge q e).1, Sto.ownTagS h4.my.row e⟩
 have hk : ∀ q, q < w1.heap.size → blk A ≠ some q → w'.heap[q]? = w1.heap[q]? := fun q h1 h2 => hg.block q h1 (fun e => h2 e.symm)
 obtain ⟨A1, c1, l1, b1, b2, b3, b4⟩ := h4.bk
 refine ⟨⟨s, m, n, t, br, ⟨?_, ⟨A1, c1, l1, ?_, b2, ?_, b4⟩, h3.ge, hr, fun u hu => ?_⟩, ?_⟩, ?_⟩
 · exact h4.st.other hg (fun q e _ hf => not_foot_state h4.st (htg q e).2 hf)
 · refine (hk gk h4.tag.lt (fun e => ?_)).trans b1
   exact ((htg gk e).2.ne h4.tag (by decide)) rfl
 · exact b3.keep hg.size (fun q e => hk q (owV_lt b3 e).2 (fun e2 => by
     have ht := (htg q e2).2
     rcases e with e | ⟨y, hy, e⟩
     · exact (Sto.ownTagS b3.row e).ne ht (by decide) rfl
     · exact ((b3.own y hy).at_ e).2.ne ht (by decide) rfl))
 · have hu2 : u ∈ L ++ [x] := by simpa using hu
   obtain ⟨o1, o2⟩ := h4.my.ok u hu2
   exact ⟨o1.keep hg.size (fun q e => hk q (owV_lt o1 e).2 (fun e2 => by
     have ht := (htg q e2).2
     rcases e with e | ⟨y, hy, e⟩
     · exact (Sto.ownTagS o1.row e).ne ht (by decide) rfl
     · exact ((o1.own y hy).at_ e).2.ne ht (by decide) rfl)), o2⟩
 · rw [List.map_append]
   show J s n t br (L.map Sv.ss ++ [x.ss]) (k + 1)
   rw [hx]
   exact h5 h0 h1 h9 h2
 · exact (hb.mono h3.base_le).trans ((Below.refl base w1).grown hg h4.base_le (fun q e => (htg q e).1))
theorem LvG.same (h : LvG w base g gk k A c L X code p) (h0 : code ≠ 0) (h1 : ¬ (p.1 = 0 ∧ code ≠ 9 ∧ code ≠ 2)) : LvR w base g gk (k + 1) A c L [] := by
 obtain ⟨s, m, n, t, br, h3, _, _, h6⟩ := h
 exact ⟨s, m, n, t, br, ⟨h3.st, h3.bk, h3.ge, h3.my.row, fun u hu => h3.my.ok u (List.mem_append_left _ (by simpa using hu))⟩, h6 h0 h1⟩
theorem LvR.mono (h : LvR w base g gk k A c L X) : LvR w base g gk (k + 1) A c L X := by
 obtain ⟨s, m, n, t, br, h1, h2⟩ := h
 exact ⟨s, m, n, t, br, h1, h2.mono⟩
theorem LvR.plan_val (h : LvR w base g gk k A c L []) (bA : Option Addr) (bc : Nat) (b : List UInt8) (hb : RdB w w.heap.size bA b) (hl : b.length ≤ 140737488355328) :
   Calls Tryz.prog 29 #[.pointer (some ⟨g, 0, none⟩), .slice bA b.length bc] w fun e w' => e = .returned (.tuple #[]) ∧ LvR w' base g gk (k + 1) A c L [] ∧ Below base w w' := by
 obtain ⟨s, m, n, t, br, h1, h2⟩ := h
 obtain ⟨A1, c1, l1, b1, b2, b3, b4⟩ := h1.bk
 refine (Sto.plan_any h1.st bA bc b hb hl).mono ?_
 rintro e w' ⟨rfl, m', hst, haf⟩
 have hq : Aq w w' g gk m m' := Aq.of_a haf
 have hab : AftB w w' g gk m m' := AftB.of haf
 exact ⟨rfl, ⟨_, m', n, t, br, ⟨hst, ⟨A1, c1, l1, (haf.block gk h1.tag.lt (fun hm => not_foot_book h1.st h1.tag (.inl hm))).trans b1, b2, owV_aftB b3 b4 h1.tag hab, b4.aftB b3 hab⟩, h1.ge, h1.my.aq h1.st hq h1.tag⟩, h2.plan b⟩, hq.below h1.st h1.ge⟩
theorem LvR.crash_val (h : LvR w base g gk k A c L []) (hk : k < 60) (changes : Int) (KA : Option Addr) (kc : Nat) (keep : List Int) (hkr : RdS Sto.I1 1 w base KA keep) (hkl2 : keep.length ≤ 9223372036854775807) :
   Calls Tryz.prog 27 #[.pointer (some ⟨g, 0, none⟩), .int .i64 changes, .slice KA keep.length kc] w fun e w' => e = .returned (.tuple #[]) ∧ ∃ t', t' ∈ L.map Sv.ss ∧ LvC w' base g (k + 1) A c L t' ∧ Below base w w' := by
 obtain ⟨s, m, n, t, br, h1, h2⟩ := h
 obtain ⟨z1, z2, z3⟩ := h2.sizes
 refine (Sto.crash_any h1.st changes KA kc keep hkr hkl2 (by rw [z1]; simp) (by omega)).mono ?_
 rintro e w' ⟨rfl, m', hst, haf⟩
 have hq : Aq w w' g gk m m' := Aq.of_0 haf
 obtain ⟨s', n', t', o1, o2, o3, o4⟩ := h2.crash (by omega) changes keep
 have hfl : (Sto.crash s changes keep).files.length = s.files.length := Sto.cutAll_len _ _ _ _
 exact ⟨rfl, t', o2, ⟨_, m', hst, h1.my.aq h1.st hq h1.tag, rfl, by rw [hfl]; omega, o3, s', n', o1, o4⟩, hq.below h1.st h1.ge⟩
theorem LvC.open_val (h : LvC w base g k A c L t') (ht : TabU base w) :
   Calls Tryz.prog 25 #[.pointer (some ⟨g, 0, none⟩)] w fun e w' => ∃ gk, e = .returned (.tuple #[.pointer (some ⟨gk, 0, none⟩), .int .i64 0]) ∧ LvO w' base g gk k A c L t' ∧ Below base w w' := by
 obtain ⟨s, m, h1, h2, h3, h4, h5, s', n', h6, h7⟩ := h
 have hc := open_any w base g m s h1 ht (by rw [h3]; simp; omega)
 rw [h6] at hc
 refine hc.mono ?_
 rintro e w' ⟨m', d1, d2, d3⟩
 have hb := d2.below h1.r
 have hbl := h1.r.mut_ge (.inl rfl)
 rcases d3 with ⟨d3, _⟩ | ⟨_, gk, A1, c1, l1, rfl, d4, d5, d6, d7, d8⟩
 · exact absurd rfl d3
 · have hmy : My w' base g m' A c L [] := ⟨h2.row.keep (fun q e => by
       have t := Sto.ownTagS h2.row e
       exact d2.block q t.lt (fun hm => not_foot_state h1 t (.inl hm))), fun u hu => by
       obtain ⟨o1, o2⟩ := h2.ok u hu
       exact ⟨o1.keep d2.size (fun q e => d2.block q (owV_lt o1 e).2 (o2 q e)), fun q e hm => o2 q e (d2.turn q (owV_lt o1 e).2 hm)⟩⟩
   exact ⟨gk, rfl, ⟨s', m', n', ⟨d1, ⟨A1, c1, l1, d5, d6, d7.mono (by omega), d8⟩, by omega, hmy⟩, h5, h7⟩, hb⟩
theorem LvO.state_val (h : LvO w base g gk k A c L t') :
   Calls Tryz.prog 35 #[.pointer (some ⟨gk, 0, none⟩)] w fun e w' => ∃ v : Sv, e = .returned v.val ∧ v.ss = t' ∧ OwV w' w.heap.size v.A v.c v.l ∧ Below w.heap.size w w' := by
 obtain ⟨s, m, n, h1, h2, h3⟩ := h
 obtain ⟨A1, c1, l1, b1, b2, b3, b4⟩ := h1.bk
 obtain ⟨g1, g2, _⟩ := right_good h2
 have hll : l1.length ≤ 1000000 := by
   have h4 := congrArg List.length b2
   rw [List.length_map] at h4
   omega
 refine (state_any w base g gk n A1 c1 l1 t'.log t'.next false b1 b3 hll (fun u hu => ?_)).mono ?_
 · have h5 := g1.ok u.fi (by rw [← b2]; exact List.mem_map_of_mem hu)
   have h6 := okF_bd h5.1
   exact ⟨(by have := h6.2.2.2.2.2.1; show u.fi.first.length ≤ 1000000; omega), (by have := h6.2.2.2.2.2.2.2.1; show u.fi.last.length ≤ 1000000; omega)⟩
 · rintro e w' ⟨A2, c2, l2, rfl, hl, ho, hb⟩
   exact ⟨⟨A2, c2, l2, t'.log, t'.next⟩, rfl, by unfold Sv.ss; simp only; rw [hl, b2], ho, hb⟩
theorem LvO.one (h : LvO w base g gk k A c L t') (hb : Below w.heap.size w w') (ho : OwV w' w.heap.size v.A v.c v.l) (hv : v.ss = t') (hr : OwnS Sv.cells 3 w' base 24 A' c' [v]) : LvR w' base g gk k A' c' [v] [] := by
 obtain ⟨s, m, n, h1, h2, h3⟩ := h
 have h4 := h1.below hb
 refine ⟨s, m, n, t', false, ⟨h4.st, h4.bk, h4.ge, hr, fun u hu => ?_⟩, ?_⟩
 · have hu2 : u = v := by simpa using hu
   subst hu2
   exact Sok.fresh h1.st ho
 · show J s n t' false [v.ss] k
   rw [hv]
   exact h3
theorem new_val (w : World) : Calls Tryz.prog 23 #[.int .i64 4194304] w fun e w' => ∃ g, e = .returned (.tuple #[.pointer (some ⟨g, 0, none⟩), .int .i64 0]) ∧ LvC w' w.heap.size g 0 none 0 [] zeroS ∧ Below w.heap.size w w' := by
 refine (Sto.new_any 4194304 (by decide) (by decide) w).mono ?_
 rintro e w' ⟨g, m, rfl, hst, hb⟩
 obtain ⟨s, n, h1, h2⟩ := J.start
 exact ⟨g, rfl, ⟨_, m, hst, My.nil _ _ _ _, rfl, by show (0 : Nat) ≤ 400; omega, by decide, s, n, h1, h2⟩, hb⟩
end
end Ver
namespace Ver
set_option maxRecDepth 100000 in
theorem open_new1 : ∃ s, openP (Sto.new 1000) = (0, s, nm manB 1, zeroS) ∧ Sto.names s = [curB, nm manB 1] ∧ s.files.length = 2 := by
 refine ⟨⟨1000, [⟨Frm.put 69 (enc (edSt zeroS)), (Frm.put 69 (enc (edSt zeroS))).length⟩, ⟨nm manB 1, 10⟩], [(curB, 1), (nm manB 1, 0)], [(curB, 1), (nm manB 1, 0)], [], [], false⟩, ?_, rfl, rfl⟩
 kernel_rfl
set_option maxHeartbeats 1000000 in
set_option maxRecDepth 100000 in
theorem awake2_any (w : World) (ht : Tab w) : Calls Tryz.prog 8 #[] w fun e w' => e = .returned (.bool true) ∧ Below w.heap.size w w' := by
 have KN := hid (Sto.new_any 1000 (by decide) (by decide) w)
 have HT := hid (TabU.of ht)
 clear ht
 go_enter Tryz.func8, Tryz.ntmps8
 go_wp2_with fail
 refine KN.out.mono ?_
 rintro e w1 ⟨g, m, rfl, hst, hb⟩
 obtain ⟨s, n1, n2, n3⟩ := open_new1
 have KO := hid (open_any w1 w.heap.size g m (Sto.new 1000) hst (HT.out.keep hb) (by show (0 : Nat) + 0 ≤ 700000; omega))
 rw [n1] at KO
 have HB := hid hb
 have HST := hid hst
 have H2 := hid n2
 have H4 := hid n3
 clear hst hb n1 n2 n3 KN
 go_wp2_with fail
 refine KO.out.mono ?_
 rintro e w2 ⟨m2, hst, haf, hw⟩
 obtain ⟨gk, A1, c1, l1, rfl, hgk, hbk, hl1, ho1, _⟩ : ∃ (gk : Nat) (A : Option Addr) (c : Nat) (l : List Vf), e = .returned (.tuple #[.pointer (some ⟨gk, 0, none⟩), .int .i64 0]) ∧ w1.heap.size ≤ gk ∧ w2.heap[gk]? = some (bkObj g (nm manB 1) A l c 0 1 false) ∧ l.map Vf.fi = [] ∧ OwV w2 w1.heap.size A c l ∧ OffV g m2 A l := by
   rcases hw with ⟨h, _⟩ | ⟨_, h⟩
   · exact absurd rfl h
   · exact h
 have hl0 : l1 = [] := List.map_eq_nil_iff.1 hl1
 subst hl0
 have HB2 : Hid (Below w.heap.size w w2) := hid (HB.out.trans (haf.below HST.out.r))
 have KS := hid (state_any w2 w1.heap.size g gk (nm manB 1) A1 c1 [] 0 1 false hbk ho1 (by simp) (fun v hv => by cases hv))
 have HST2 := hid hst
 clear hgk hst haf hbk KO hw hl1 ho1
 go_wp2_with fail
 refine KS.out.mono ?_
 rintro e w3 ⟨A', c', l', rfl, -, -, hb3⟩
 have KM := hid (Sto.names_any (HST2.out.below hb3) (by have := H4.out; omega))
 have HB3 := hid (HB2.out.trans (hb3.mono HB2.out.size))
 have hnl : (Sto.names s).length = 2 := by rw [H2.out]; rfl
 simp only [hnl] at KM
 have hfd : ∀ w : World, (Instr.field 24 (.agg #[.slice A' l'.length c', .int .i64 0, .int .i64 1]) 2).run Tryz.prog w = .ok (.int .i64 1) w := fun _ => by kernel_rfl
 clear hb3 KS hnl
 go_wp2_with fail
 refine KM.out.mono ?_
 rintro e w4 ⟨NA, nc, rfl, -, hb4⟩
 have HB4 := hid (HB3.out.trans (hb4.mono HB3.out.size))
 clear hb4 KM
 go_wp2_with fail
 go_ret
 exact ⟨rfl, HB4.out⟩
end Ver
end Go.Proofs.YtgmnhdkdicgkcaaGreatDoor
