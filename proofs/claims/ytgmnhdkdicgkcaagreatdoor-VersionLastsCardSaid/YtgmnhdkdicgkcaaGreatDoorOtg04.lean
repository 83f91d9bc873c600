/- Parts of the proof, one behind the other: Contract: the reference's Apply, with what its files' bytes are told: the state's own ones or new ones. -/
import Derived.Test.YtgmnhdkdicgkcaaGreatDoorOsg08
namespace Go.Proofs.YtgmnhdkdicgkcaaGreatDoor
open Go.RowKit Go.Maps
namespace Ver
def VfK (K : Nat → Prop) (w : World) (base : Nat) (v : Vf) : Prop := (VfOk w base v ∧ ∀ q, (blk v.FA = some q ∨ blk v.LA = some q) → K q) ∨ VfOwn w base v
structure Rk (K : Nat → Prop) (w : World) (base rb : Nat) (A : Option Addr) (c : Nat) (l : List Vf) : Prop where
 row : OwnS Vf.cells 6 w rb 43 A c l
 el : ∀ v ∈ l, VfK K w base v
 le : base ≤ rb
 sz : rb ≤ w.heap.size
section
variable {K : Nat → Prop} {w w' : World} {base rb rb' c c' : Nat} {A A' : Option Addr} {l l' : List Vf} {v : Vf}
theorem VfK.rd (h : VfK K w base v) (hb : base ≤ w.heap.size) : VfOk w w.heap.size v := h.elim (fun h => h.1.more hb) (fun h => h.rd)
theorem VfK.below (h : VfK K w base v) (hb : Below w.heap.size w w') (hs : base ≤ w.heap.size) : VfK K w' base v := h.elim (fun h => .inl ⟨h.1.below hb hs, h.2⟩) (fun h => .inr (h.below hb))
theorem Rk.rd (h : Rk K w base rb A c l) : RdV w w.heap.size A l := ⟨h.row.rd, fun v hv => (h.el v hv).rd (Nat.le_trans h.le h.sz)⟩
theorem Rk.below (h : Rk K w base rb A c l) (hb : Below w.heap.size w w') : Rk K w' base rb A c l := ⟨h.row.below hb, fun v hv => (h.el v hv).below hb (Nat.le_trans h.le h.sz), h.le, Nat.le_trans h.sz hb.size⟩
theorem VfK.grown {g : Option Nat} (h : VfK K w base v) (hg : w.grownBy w' g) (hs : base ≤ w.heap.size) (hr : ∀ q, g = some q → base ≤ q ∧ Sto.Tag w q 43) : VfK K w' base v := by
 rcases h with h | h
 · refine .inl ⟨h.1.below (D := base) ?_ (Nat.le_refl _), h.2⟩
   exact (Below.refl base w).grown hg hs (fun q hq => (hr q hq).1)
 · refine .inr (h.keep hg.size (fun q e => hg.block q (h.at_ e).2.lt (fun e2 => ?_)))
   exact ((h.at_ e).2.ne (hr q e2.symm).2 (by decide)) rfl
theorem Rk.grown_at (h : OwnS Vf.cells 6 w rb 43 A c l) (hb : base ≤ rb) : ∀ q, blk A = some q → base ≤ q ∧ Sto.Tag w q 43 := fun q e => ⟨Nat.le_trans hb (h.blk_ge q e).1, Sto.ownTagS h e⟩
theorem Rk.app (h : Rk K w base rb A c l) (hg : w.grownBy w' (blk A)) (ho : OwnS Vf.cells 6 w' rb 43 A' c' (l ++ l')) (hl : ∀ v ∈ l', VfK K w base v) : Rk K w' base rb A' c' (l ++ l') := by
 have hs := Nat.le_trans h.le h.sz
 have hr := Rk.grown_at h.row h.le
 refine ⟨ho, fun v hv => ?_, h.le, Nat.le_trans h.sz hg.size⟩
 rcases List.mem_append.1 hv with hv | hv
 · exact (h.el v hv).grown hg hs hr
 · exact (hl v hv).grown hg hs hr
theorem Rk.other {A2 : Option Addr} {rb2 c2 : Nat} {l2 : List Vf} (h : Rk K w base rb A c l) (hg : w.grownBy w' (blk A2)) (h2 : OwnS Vf.cells 6 w rb2 43 A2 c2 l2) (hb2 : base ≤ rb2) (hne : ∀ q, blk A = some q → q < rb2) : Rk K w' base rb A c l := by
 have hs := Nat.le_trans h.le h.sz
 have hr := Rk.grown_at h2 hb2
 refine ⟨h.row.kept hg ?_, fun v hv => (h.el v hv).grown hg hs hr, h.le, Nat.le_trans h.sz hg.size⟩
 cases hA : blk A with
 | none => exact .inl rfl
 | some q =>
   refine .inr (fun e => ?_)
   have h1 := hne q hA
   have h3 := (h2.blk_ge q e.symm).1
   omega
theorem Rk.mono (h : Rk K w base rb A c l) (hb : rb' ≤ rb) (h2 : base ≤ rb') : Rk K w base rb' A c l := ⟨h.row.mono hb, h.el, h2, Nat.le_trans hb h.sz⟩
theorem Rk.nil (w : World) (base rb : Nat) (h1 : base ≤ rb) (h2 : rb ≤ w.heap.size) : Rk K w base rb none 0 [] := ⟨OwnS.nil _ _ _, (fun _ h => by cases h), h1, h2⟩
end
theorem Rk.three {K : Nat → Prop} {w : World} {base rb c g : Nat} {A : Option Addr} {l : List Vf} {cs : Array Value} {x y z : Value} (h : Rk K w base rb A c l) (hg : w.heap[g]? = some (.cells cs 24)) (h1 : g < rb) (h2 : base ≤ g) :
   Rk K (((w.setCell ⟨g, 0, none⟩ x).setCell ⟨g, 1, none⟩ y).setCell ⟨g, 2, none⟩ z) base base A c l := by
 obtain ⟨W, hW⟩ : ∃ W, W = ((w.setCell ⟨g, 0, none⟩ x).setCell ⟨g, 1, none⟩ y).setCell ⟨g, 2, none⟩ z := ⟨_, rfl⟩
 rw [← hW]
 have hz : W.heap.size = w.heap.size := by rw [hW]; simp [World.setCell]
 have hk : ∀ q, q ≠ g → W.heap[q]? = w.heap[q]? := fun q hq => by
   rw [hW, Below.heap_setCell _ _ _ _ hq, Below.heap_setCell _ _ _ _ hq, Below.heap_setCell _ _ _ _ hq]
 have hb : Below base w W := by
   rw [hW]
   exact (((Below.refl _ _).setCell (show base ≤ g from h2) _).setCell (show base ≤ g from h2) _).setCell (show base ≤ g from h2) _
 have ht : Sto.Tag w g 24 := ⟨_, _, hg⟩
 refine ⟨(h.row.keep (fun q e => hk q (by have := (h.row.blk_ge q e).1; omega))).mono h.le, fun v hv => ?_, Nat.le_refl _, by rw [hz]; exact Nat.le_trans h.le h.sz⟩
 rcases h.el v hv with h3 | h3
 · exact .inl ⟨h3.1.below hb (Nat.le_refl _), h3.2⟩
 · exact .inr (h3.keep (by omega) (fun q e => hk q ((h3.at_ e).2.ne ht (by decide))))
def SaysRk (K : Nat → Prop) (w : World) (p : Int × Ss) (r : Ending) (w' : World) : Prop := Below w.heap.size w w' ∧ ∃ A c l, r = .returned (.tuple #[.agg #[.slice A l.length c, .int .i64 p.2.log, .int .i64 p.2.next], .int .i64 p.1]) ∧ l.map Vf.fi = p.2.files ∧ Rk K w' w.heap.size w.heap.size A c l
set_option maxHeartbeats 4000000 in
set_option maxRecDepth 1000000 in
theorem rapply_keep (K : Nat → Prop) (sA : Option Addr) (sc : Nat) (sl : List Vf) (slog snext : Int) (e : Ev) (w : World) (hs : RdV w w.heap.size sA sl) (he : EvOk w w.heap.size e) (hsl : sl.length ≤ 1000000) (hal : e.add.length ≤ 1000000) (hdl : e.drop.length ≤ 1000000) (hK : ∀ v ∈ sl, ∀ q, (blk v.FA = some q ∨ blk v.LA = some q) → K q) :
   Calls Tryz.prog 12 #[.agg #[.slice sA sl.length sc, .int .i64 slog, .int .i64 snext], e.val] w (SaysRk K w (apply ⟨sl.map Vf.fi, slog, snext⟩ e.ed)) := by
 obtain ⟨p, hp⟩ : ∃ p, p = apply ⟨sl.map Vf.fi, slog, snext⟩ e.ed := ⟨_, rfl⟩
 rw [← hp]
 have HKK := Lib.hid hK
 clear hK
 obtain ⟨ev, hev⟩ : ∃ ev, ev = e := ⟨_, rfl⟩
 obtain ⟨W0, hW0⟩ : ∃ W0, W0 = ((w.alloc (.cells #[.slice sA sl.length sc, .int .i64 slog, .int .i64 snext] 24)).alloc e.obj).alloc (.cells #[.slice none 0 0, .int .i64 0, .int .i64 0] 24) := ⟨_, rfl⟩
 have hz0 : W0.heap.size = w.heap.size + 1 + 1 + 1 := by rw [hW0]; simp
 have hb0 : Below w.heap.size w W0 := by rw [hW0]; exact (((Below.refl _ _).alloc (Nat.le_refl _) _).alloc (by simp) _).alloc (by simp <;> omega) _
 have hx0 : W0.heap[w.heap.size]? = some (.cells #[.slice sA sl.length sc, .int .i64 slog, .int .i64 snext] 24) := by
   rw [hW0, Below.heap_alloc _ _ _ (by simp <;> omega), Below.heap_alloc _ _ _ (by simp)]
   exact heap_alloc_new w _
 have hx1 : W0.heap[w.heap.size + 1]? = some e.obj := by
   rw [hW0, Below.heap_alloc _ _ _ (by simp)]
   have := heap_alloc_new (w.alloc (.cells #[.slice sA sl.length sc, .int .i64 slog, .int .i64 snext] 24)) e.obj
   simpa using this
 have hx2 : W0.heap[w.heap.size + 1 + 1]? = some (.cells #[.slice none 0 0, .int .i64 0, .int .i64 0] 24) := by
   rw [hW0]
   have := heap_alloc_new ((w.alloc (.cells #[.slice sA sl.length sc, .int .i64 slog, .int .i64 snext] 24)).alloc e.obj) (.cells #[.slice none 0 0, .int .i64 0, .int .i64 0] 24)
   simpa using this
 have HS := Lib.hid (hs.keep hb0)
 have HSL := Lib.hid (hs.below hb0 (Nat.le_refl _))
 have HE0 := Lib.hid (he.keep hb0)
 have HB0 := Lib.hid hb0
 have HZ0 := Lib.hid hz0
 have HZ : Hid (∀ X, Below W0.heap.size W0 X → X.heap[w.heap.size + 1 + 1]? = some (.cells #[.slice none 0 0, .int .i64 0, .int .i64 0] 24)) := Lib.hid (fun X hX => (hX.block _ (by omega)).trans hx2)
 have HZF : Hid (∀ X, Below W0.heap.size W0 X → X.cell? ⟨w.heap.size + 1 + 1, 0, none⟩ = some (.slice none 0 0) ∧ X.cell? ⟨w.heap.size + 1 + 1, 1, none⟩ = some (.int .i64 0) ∧ X.cell? ⟨w.heap.size + 1 + 1, 2, none⟩ = some (.int .i64 0) ∧ X.frozen? ⟨w.heap.size + 1 + 1, 0, none⟩ = false ∧ X.frozen? ⟨w.heap.size + 1 + 1, 1, none⟩ = false ∧ X.frozen? ⟨w.heap.size + 1 + 1, 2, none⟩ = false) := Lib.hid (fun X hX => by
   have h := HZ.out X hX
   exact ⟨by rw [cell_of_row X _ 0 _ _ (0, 0) h]; rfl, by rw [cell_of_row X _ 1 _ _ (0, 0) h]; rfl, by rw [cell_of_row X _ 2 _ _ (0, 0) h]; rfl, frozen_of_row X _ 0 _ _ h, frozen_of_row X _ 1 _ _ h, frozen_of_row X _ 2 _ _ h⟩)
 have KR := Lib.hid (rright_any sA sc sl slog snext W0 (hs.keep hb0) hsl)
 have KE : Hid (∀ X, Below W0.heap.size W0 X → Calls Tryz.prog 44 #[e.val] X fun r w' => r = .returned (.bool (okE e.ed)) ∧ Below X.heap.size X w') := Lib.hid (fun X hX => rrightEdit_any e X (HE0.out.keep hX) hal hdl)
 have HP := Lib.hid hp
 obtain ⟨r1, hr1⟩ : ∃ r1, r1 = right ⟨sl.map Vf.fi, slog, snext⟩ := ⟨_, rfl⟩
 obtain ⟨r2, hr2⟩ : ∃ r2, r2 = okE e.ed := ⟨_, rfl⟩
 rw [← hr1] at KR
 rw [← hr2] at KE
 have HR1 := Lib.hid hr1
 have HR2 := Lib.hid hr2
 obtain ⟨EA, ec, add, DA, dc, drop, log, next⟩ := e
 have HYS : Hid (∀ X, Below W0.heap.size W0 X → (X.cell? ⟨w.heap.size, 0, none⟩ = some (.slice sA sl.length sc) ∧ X.cell? ⟨w.heap.size, 1, none⟩ = some (.int .i64 slog) ∧ X.cell? ⟨w.heap.size, 2, none⟩ = some (.int .i64 snext)) ∧ X.cell? ⟨w.heap.size + 1, 0, none⟩ = some (.slice EA add.length ec) ∧ X.cell? ⟨w.heap.size + 1, 1, none⟩ = some (.slice DA drop.length dc) ∧ X.cell? ⟨w.heap.size + 1, 2, none⟩ = some (.int .i64 log) ∧ X.cell? ⟨w.heap.size + 1, 3, none⟩ = some (.int .i64 next)) := Lib.hid (fun X hX => by
   have h := (hX.block _ (by omega)).trans hx0
   have h1 := (hX.block _ (by omega)).trans hx1
   unfold Ev.obj at h1
   exact ⟨⟨by rw [cell_of_row X _ 0 _ _ (0, 0) h]; rfl, by rw [cell_of_row X _ 1 _ _ (0, 0) h]; rfl, by rw [cell_of_row X _ 2 _ _ (0, 0) h]; rfl⟩, by rw [cell_of_row X _ 0 _ _ (0, 0) h1]; rfl, by rw [cell_of_row X _ 1 _ _ (0, 0) h1]; rfl, by rw [cell_of_row X _ 2 _ _ (0, 0) h1]; rfl, by rw [cell_of_row X _ 3 _ _ (0, 0) h1]; rfl⟩)
 have HEV := Lib.hid hev
 simp only [Ev.val, Ev.obj] at hW0 KE hal hdl ⊢
 rw [hW0] at KR
 have HW0 := Lib.hid hW0
 clear hp hs he hb0 hx0 hx1 hx2 hr1 hr2 hz0 hev hW0
 have hwW : w.heap.size ≤ W0.heap.size := HB0.out.size
 obtain ⟨B, hB⟩ : ∃ B, B = W0.heap.size := ⟨_, rfl⟩
 have HBB := Lib.hid hB
 go_enter Tryz.func12, Tryz.ntmps12
 go_wp2_with fail
 refine KR.out.mono ?_
 rw [← HW0.out]
 rintro r w1 ⟨rfl, hb1⟩
 obtain ⟨⟨s0, s1, s2⟩, e0, e1, e2, e3⟩ := HYS.out w1 hb1
 have HB1 := Lib.hid hb1
 have hwz : w.heap.size ≤ w.heap.size := Nat.le_refl _
 have K1 := Lib.hid (KE.out w1 HB1.out)
 clear KR hb1 hB
 go_wp2_with fail
 refine K1.out.mono ?_
 rintro r w2 ⟨rfl, hb2⟩
 have HB2 := Lib.hid (HB1.out.trans (hb2.mono HB1.out.size))
 clear hb2 K1 KE s0 s1 s2 e0 e1 e2 e3
 rcases r1 with _ | _
 · have HEQ : Hid (p = (1, none0)) := Lib.hid (by rw [HP.out]; unfold apply; rw [if_pos (.inl HR1.out.symm)])
   obtain ⟨z0, z1, z2, g0, g1, g2⟩ := HZF.out w2 HB2.out
   have HBX := Lib.hid (HB2.out)
   go_wp2_with fail
   refine bodyPost_ret (results_c2v rfl _ _ (w.heap.size + 1 + 1) 24 #[.slice none 0 0, .int .i64 0, .int .i64 0] (0, 0) _ rfl (heap3v (HZ.out _ HBX.out)) Tryz.underlying24 rfl state_size) rfl ?_
   rw [HEQ.out]
   exact ⟨(((HB0.out.trans (HBX.out.mono HB0.out.size)).setCell (show w.heap.size ≤ w.heap.size + 1 + 1 by omega) _).setCell (show w.heap.size ≤ w.heap.size + 1 + 1 by omega) _).setCell (show w.heap.size ≤ w.heap.size + 1 + 1 by omega) _, none, 0, [], rfl, rfl, Rk.nil _ _ _ (Nat.le_refl _) (by have := (HB0.out.trans (HBX.out.mono HB0.out.size)).size; simpa [World.setCell] using this)⟩
 rcases r2 with _ | _
 · have HEQ : Hid (p = (1, none0)) := Lib.hid (by rw [HP.out]; unfold apply; rw [if_pos (.inr HR2.out.symm)])
   obtain ⟨z0, z1, z2, g0, g1, g2⟩ := HZF.out w2 HB2.out
   have HBX := Lib.hid (HB2.out)
   go_wp2_with fail
   refine bodyPost_ret (results_c2v rfl _ _ (w.heap.size + 1 + 1) 24 #[.slice none 0 0, .int .i64 0, .int .i64 0] (0, 0) _ rfl (heap3v (HZ.out _ HBX.out)) Tryz.underlying24 rfl state_size) rfl ?_
   rw [HEQ.out]
   exact ⟨(((HB0.out.trans (HBX.out.mono HB0.out.size)).setCell (show w.heap.size ≤ w.heap.size + 1 + 1 by omega) _).setCell (show w.heap.size ≤ w.heap.size + 1 + 1 by omega) _).setCell (show w.heap.size ≤ w.heap.size + 1 + 1 by omega) _, none, 0, [], rfl, rfl, Rk.nil _ _ _ (Nat.le_refl _) (by have := (HB0.out.trans (HBX.out.mono HB0.out.size)).size; simpa [World.setCell] using this)⟩
 have hgd := right_good HR1.out.symm
 obtain ⟨⟨x1, x2, x3, x4, x5, x6⟩, x7, x8⟩ := okE_bd HR2.out.symm
 have HGD := Lib.hid hgd
 have hsl5 : sl.length ≤ 50 := by simpa using hgd.2.1
 have hal5 : add.length ≤ 50 := by simpa [Ev.ed] using x1
 have HAB : Hid (∀ v ∈ add, v.first.length ≤ 1000000 ∧ v.last.length ≤ 1000000) := Lib.hid (fun v hv => by
   have := okF_bd (x7 v.fi (List.mem_map_of_mem hv))
   have h1 : v.fi.first = v.first := rfl
   have h2 : v.fi.last = v.last := rfl
   rw [h1, h2] at this
   omega)
 have hbs2 : W0.heap.size ≤ w2.heap.size := HB2.out.size
 have HB2a : Hid (Below W0.heap.size W0 (w2.alloc (.cells #[] 43))) := Lib.hid (HB2.out.alloc hbs2 _)
 obtain ⟨⟨s0, s1, s2⟩, e0, e1, e2, e3⟩ := HYS.out (w2.alloc (.cells #[] 43)) HB2a.out
 have HOE := Lib.hid (own_files0 w2 W0.heap.size hbs2)
 have HSR := Lib.hid ((HS.out.below HB2.out (Nat.le_refl _)).row.alloc hbs2 (.cells #[] 43))
 clear hgd x1 x2 x3 x4 x5 x6 x7 x8
 go_wp2_with (at_builtin; (refine wpList_append_s _ rfl _ _ vfT rfl W0.heap.size (some ⟨w2.heap.size, 0, none⟩) 0 [] rfl HOE.out W0.heap.size sA sl.length sc sl rfl rfl HSR.out (by show (0 + sl.length) * 80 ≤ 140737488355328; omega) (by unfold maxLen; show 0 + sl.length ≤ 9223372036854775807; omega) (by show W0.heap.size ≤ (w2.alloc _).heap.size; simp; omega) ?_; intro A3 c3 L3 w3 hl3 ho3 hg3 hat3))
 have hl3 : L3 = sl := hl3
 subst hl3
 have HRW : Hid (Rk K w3 w.heap.size W0.heap.size A3 c3 L3) := Lib.hid (Rk.app (l := []) ⟨HOE.out, (fun _ h => by cases h), hwW, HB2a.out.size⟩ hg3 ho3 (fun v hv => .inl ⟨(HSL.out.ok v hv).below HB2a.out hwW, HKK.out v hv⟩))
 have HB3 : Hid (Below W0.heap.size W0 w3) := Lib.hid (below_grow HB2a.out hg3 (fun q hq => (HOE.out.blk_ge q hq).1) HB2a.out.size)
 clear ho3 hg3 hat3 HOE HSR s0 s1 s2 e0 e1 e2 e3
 go_wp2_with fail
 go_loopw [8, 9] (fun x y wr => ∃ (i c : Nat) (A : Option Addr) (l : List Vf), x = .slice A l.length c ∧ y = .int .i64 (i : Int) ∧ i ≤ drop.length ∧ l.length ≤ 50 ∧ Hid (Rk K wr w.heap.size W0.heap.size A c l) ∧ Hid (Below W0.heap.size W0 wr) ∧ Hid (Good snext (l.map Vf.fi)) ∧ Hid (dropAll drop (L3.map Vf.fi) = dropAll (drop.drop i) (l.map Vf.fi))) (fun _ y _ => drop.length - (intOf y).toNat)
 case atStart => exact ⟨0, c3, A3, L3, rfl, rfl, by omega, hsl5, HRW, HB3, Lib.hid HGD.out.1, Lib.hid rfl⟩
 case round =>
   clear HRW
   obtain ⟨i, c, A, l, rfl, rfl, hid, hl5, HRW, HBR, HGO, HDA⟩ := hrel
   obtain ⟨⟨s0, s1, s2⟩, e0, e1, e2, e3⟩ := HYS.out wr HBR.out
   by_cases hlt : i < drop.length
   · have hlt' : (i : Int) < (drop.length : Int) := by omega
     have hi0 : (0 : Int) ≤ (i : Int) := by omega
     obtain ⟨b, off, hA, hb, hc⟩ := RdS.row (f := Sto.I1) (n := 1) (fun _ => rfl) (by omega) HE0.out.drop (by show 0 < drop.length; omega)
     have c0 := hc i hlt 0 _ rfl
     rw [Nat.add_zero, Nat.mul_one] at c0
     have HDK : Hid (drop.drop i = drop[i] :: drop.drop (i + 1)) := Lib.hid (List.drop_eq_getElem_cons hlt)
     simp only at c0 hA
     obtain ⟨n, hn⟩ : ∃ n, n = drop[i] := ⟨_, rfl⟩
     rw [← hn] at c0 HDK
     have HC0 : Hid (∀ X, Below W0.heap.size W0 X → X.cell? ⟨b, off + i, none⟩ = some (.int .i64 n)) := Lib.hid (fun X hX => (hX.cell (p := ⟨b, off + i, none⟩) hb).trans c0)
     subst hA
     obtain ⟨rb, hrb⟩ : ∃ rb, rb = wr.heap.size := ⟨_, rfl⟩
     have HRB : Hid (W0.heap.size ≤ rb ∧ (∀ q, blk A = some q → q < rb) ∧ rb ≤ wr.heap.size) := Lib.hid ⟨by rw [hrb]; exact HBR.out.size, fun q e => by rw [hrb]; exact (HRW.out.row.blk_ge q e).2, by omega⟩
     clear hc hn hrb hb c0
     go_wp2_with fail
     go_loopw [10, 11] (fun x y wr => ∃ (k c2 : Nat) (A2 : Option Addr) (l2 : List Vf), x = .slice A2 l2.length c2 ∧ y = .int .i64 (k : Int) ∧ k ≤ l.length ∧ l2.length ≤ 50 ∧ Hid (l2 = (l.take k).filter (notN n)) ∧ Hid (Rk K wr w.heap.size rb A2 c2 l2) ∧ Hid (Rk K wr w.heap.size W0.heap.size A c l) ∧ Hid (Below W0.heap.size W0 wr)) (fun _ y _ => l.length - (intOf y).toNat)
     case atStart => exact ⟨0, 0, none, [], rfl, rfl, by omega, by simp, Lib.hid rfl, Lib.hid (Rk.nil wr _ _ (Nat.le_trans hwW HRB.out.1) HRB.out.2.2), HRW, HBR⟩
     case round =>
       clear HRW HBR s0 s1 s2 e0 e1 e2 e3
       obtain ⟨k, c2, A2, l2, rfl, rfl, hk, hl25, HL2, HRL, HRW, HBR⟩ := hrel
       by_cases hkl : k < l.length
       · have hkl' : (k : Int) < (l.length : Int) := by omega
         have hk0 : (0 : Int) ≤ (k : Int) := by omega
         obtain ⟨⟨s0, s1, s2⟩, e0, e1, e2, e3⟩ := HYS.out wr HBR.out
         have d0 := HC0.out wr HBR.out
         obtain ⟨fb, foff, hfA, hfb, hcell, _⟩ := HRW.out.rd.cell hkl
         have HTK : Hid (l.take (k + 1) = l.take k ++ [l[k]]) := Lib.hid (List.take_succ_eq_append_getElem hkl)
         have HEL := Lib.hid (HRW.out.el l[k] (List.getElem_mem hkl))
         obtain ⟨v, hv⟩ : ∃ v, v = l[k] := ⟨_, rfl⟩
         rw [← hv] at hcell HTK HEL
         obtain ⟨nu, lv, FA, fc, fi, LA, lc, la, lo, hi⟩ := v
         have g0 := hcell 0 _ rfl
         have g1 := hcell 1 _ rfl
         have g2 := hcell 2 _ rfl
         have g3 := hcell 3 _ rfl
         have g4 := hcell 4 _ rfl
         have g5 := hcell 5 _ rfl
         rw [Nat.add_zero] at g0
         simp only at g0 g1 g2 g3 g4 g5
         subst hfA
         clear hcell hv
         by_cases hne : nu = n
         · have q1 : (nu != n) = false := by simp [hne]
           have q2 : (nu == n) = true := by simp [hne]
           have HL3 : Hid (l2 = (l.take (k + 1)).filter (notN n)) := Lib.hid (by
             rw [HTK.out, List.filter_append, HL2.out, List.filter_cons_of_neg (by simp [notN, isN, hne])]
             simp)
           clear hne
           go_wp2_with fail
           go_quiet (fail)
           refine Sto.drewN_of (fun V hbV hVh => ?_)
           have HRL2 := Lib.hid (HRL.out.below hbV)
           have HRW2 := Lib.hid (HRW.out.below hbV)
           have HBR2 := Lib.hid (HBR.out.trans (hbV.mono HBR.out.size))
           clear hbV hVh s0 s1 s2 e0 e1 e2 e3 d0 g0 g1 g2 g3 g4 g5 q1 q2
           go_wp2_with fail
           exact ⟨⟨k + 1, c2, A2, l2, rfl, by simp, hkl, hl25, HL3, HRL2, HRW2, HBR2⟩, by simp only [intOf]; omega⟩
         · have q1 : (nu != n) = true := by simp [hne]
           have q2 : (nu == n) = false := by simp [hne]
           have HL3 : Hid (l2 ++ [⟨nu, lv, FA, fc, fi, LA, lc, la, lo, hi⟩] = (l.take (k + 1)).filter (notN n)) := Lib.hid (by
             rw [HTK.out, List.filter_append, HL2.out, List.filter_cons_of_pos (by simp [notN, isN, hne])]
             rfl)
           clear hne
           go_wp2_with fail
           go_quiet (fail)
           refine Sto.drewN_of (fun V hbV hVh => ?_)
           have HRLV := Lib.hid (HRL.out.below hbV)
           have HRWV := Lib.hid (HRW.out.below hbV)
           have HBRV := Lib.hid (HBR.out.trans (hbV.mono HBR.out.size))
           have HELV := Lib.hid (HEL.out.below hbV (Nat.le_trans hwW HBR.out.size))
           have k0 : V.cell? ⟨fb, foff + k * 6, none⟩ = some (.int .i64 nu) := (hbV.cell (p := ⟨fb, foff + k * 6, none⟩) hfb).trans g0
           have k1 : V.cell? ⟨fb, foff + k * 6 + 1, none⟩ = some (.int .i64 lv) := (hbV.cell (p := ⟨fb, foff + k * 6 + 1, none⟩) hfb).trans g1
           have k2 : V.cell? ⟨fb, foff + k * 6 + 2, none⟩ = some (.slice FA fi.length fc) := (hbV.cell (p := ⟨fb, foff + k * 6 + 2, none⟩) hfb).trans g2
           have k3 : V.cell? ⟨fb, foff + k * 6 + 3, none⟩ = some (.slice LA la.length lc) := (hbV.cell (p := ⟨fb, foff + k * 6 + 3, none⟩) hfb).trans g3
           have k4 : V.cell? ⟨fb, foff + k * 6 + 4, none⟩ = some (.int .i64 lo) := (hbV.cell (p := ⟨fb, foff + k * 6 + 4, none⟩) hfb).trans g4
           have k5 : V.cell? ⟨fb, foff + k * 6 + 5, none⟩ = some (.int .i64 hi) := (hbV.cell (p := ⟨fb, foff + k * 6 + 5, none⟩) hfb).trans g5
           clear hbV hVh s0 s1 s2 e0 e1 e2 e3 d0 g0 g1 g2 g3 g4 g5 q1 q2
           have hba : Below V.heap.size V (V.alloc (.cells #[.int .i64 nu, .int .i64 lv, .slice FA fi.length fc, .slice LA la.length lc, .int .i64 lo, .int .i64 hi] 43)) := (Below.refl _ _).alloc (Nat.le_refl _) _
           have HRA := Lib.hid (HRLV.out.below hba)
           have HRB2 := Lib.hid (HRWV.out.below hba)
           have HBA := Lib.hid (HBRV.out.trans (hba.mono HBRV.out.size))
           have HEA := Lib.hid (HELV.out.below hba (Nat.le_trans hwW HBRV.out.size))
           have hrbz : rb ≤ V.heap.size + 1 := by have := HRLV.out.sz; omega
           clear hba
           go_wp2_with (at_builtin; (refine wpList_append_s _ rfl _ _ vfT rfl rb A2 c2 l2 rfl HRA.out.row (V.heap.size + 1) (some ⟨V.heap.size, 0, none⟩) 1 1 [⟨nu, lv, FA, fc, fi, LA, lc, la, lo, hi⟩] rfl rfl (rd_vf_new V ⟨nu, lv, FA, fc, fi, LA, lc, la, lo, hi⟩) (by show (l2.length + 1) * 80 ≤ 140737488355328; omega) (by unfold maxLen; show l2.length + 1 ≤ 9223372036854775807; omega) (by simp; omega) ?_; intro A4 c4 L4 w8 hl4 ho4 hg4 hat4))
           have hl4 : L4 = l2 ++ [⟨nu, lv, FA, fc, fi, LA, lc, la, lo, hi⟩] := hl4
           subst hl4
           have HRL2 : Hid (Rk K w8 w.heap.size rb A4 c4 (l2 ++ [⟨nu, lv, FA, fc, fi, LA, lc, la, lo, hi⟩])) := Lib.hid (HRA.out.app hg4 ho4 (fun v hv => by
             rw [List.mem_singleton] at hv
             subst hv
             exact HEA.out))
           have HRW2 : Hid (Rk K w8 w.heap.size W0.heap.size (some ⟨fb, foff, none⟩) c l) := Lib.hid (HRB2.out.other hg4 HRA.out.row (Nat.le_trans hwW HRB.out.1) HRB.out.2.1)
           have HBR2 : Hid (Below W0.heap.size W0 w8) := Lib.hid (below_grow HBA.out hg4 (fun q hq => Nat.le_trans HRB.out.1 (HRA.out.row.blk_ge q hq).1) HBA.out.size)
           have hl26 : l2.length + 1 ≤ 50 := by
             have h1 := congrArg List.length HL3.out
             have h2 := List.length_filter_le (notN n) (l.take (k + 1))
             rw [List.length_append, List.length_take] at *
             simp only [List.length_cons, List.length_nil] at h1
             omega
           clear ho4 hg4 hat4 k0 k1 k2 k3 k4 k5
           simp only [Act.put, List.setIfInBounds_toArray, List.set_cons_succ, List.set_cons_zero]
           go_wp2_with fail
           exact ⟨⟨k + 1, c4, A4, l2 ++ [⟨nu, lv, FA, fc, fi, LA, lc, la, lo, hi⟩], by simp, by simp, hkl, by simpa using hl26, HL3, HRL2, HRW2, HBR2⟩, by simp only [intOf]; omega⟩
       · have hke : k = l.length := by omega
         have HLF : Hid (l2 = l.filter (notN n)) := Lib.hid (by
           have h1 := HL2.out
           rwa [List.take_of_length_le (by omega)] at h1)
         have hkl' : ¬ (k : Int) < (l.length : Int) := by omega
         have HD1 := Lib.hid (drop1_notN n l HGO.out.dif)
         obtain ⟨⟨s0, s1, s2⟩, e0, e1, e2, e3⟩ := HYS.out wr HBR.out
         by_cases hee : l2.length = l.length
         · have q1 : ((l2.length : Int) == (l.length : Int)) = true := by simp [hee]
           have HEQ : Hid (p = (4, none0)) := Lib.hid (by
             have h1 := HD1.out.1 (by rw [← HLF.out]; exact hee)
             rw [HP.out]
             unfold apply
             rw [if_neg (by rw [← HR1.out, ← HR2.out]; simp)]
             show (match dropAll drop (L3.map Vf.fi) with | none => _ | some l => _) = _
             rw [HDA.out, HDK.out]
             unfold dropAll
             rw [h1])
           clear hee s0 s1 s2 e0 e1 e2 e3
           obtain ⟨z0, z1, z2, g0, g1, g2⟩ := HZF.out wr HBR.out
           have HBX := Lib.hid (HBR.out)
           go_wp2_with fail
           refine bodyPost_ret (results_c2v rfl _ _ (w.heap.size + 1 + 1) 24 #[.slice none 0 0, .int .i64 0, .int .i64 0] (0, 0) _ rfl (heap3v (HZ.out _ HBX.out)) Tryz.underlying24 rfl state_size) rfl ?_
           rw [HEQ.out]
           exact ⟨(((HB0.out.trans (HBX.out.mono HB0.out.size)).setCell (show w.heap.size ≤ w.heap.size + 1 + 1 by omega) _).setCell (show w.heap.size ≤ w.heap.size + 1 + 1 by omega) _).setCell (show w.heap.size ≤ w.heap.size + 1 + 1 by omega) _, none, 0, [], rfl, rfl, Rk.nil _ _ _ (Nat.le_refl _) (by have := (HB0.out.trans (HBX.out.mono HB0.out.size)).size; simpa [World.setCell] using this)⟩
         · have q1 : ((l2.length : Int) == (l.length : Int)) = false := by
             have : ¬ (l2.length : Int) = (l.length : Int) := by omega
             simp [this]
           have HN1 : Hid (drop1 n (l.map Vf.fi) = some (l2.map Vf.fi)) := Lib.hid (by rw [HLF.out]; exact HD1.out.2 (by rw [← HLF.out]; exact hee))
           have HDA2 : Hid (dropAll drop (L3.map Vf.fi) = dropAll (drop.drop (i + 1)) (l2.map Vf.fi)) := Lib.hid (by
             rw [HDA.out, HDK.out]
             conv => lhs; unfold dropAll
             rw [HN1.out])
           have HGO2 : Hid (Good snext (l2.map Vf.fi)) := Lib.hid (dropAll_good [n] _ _ HGO.out (by unfold dropAll; rw [HN1.out]; rfl)).1
           have HRL2 := Lib.hid (HRL.out.mono HRB.out.1 hwW)
           clear hee
           go_wp2_with fail
           exact ⟨⟨i + 1, c2, A2, l2, rfl, by simp, hlt, hl25, HRL2, HBR, HGO2, HDA2⟩, by simp only [intOf]; omega⟩
   · have hlt' : ¬ (i : Int) < (drop.length : Int) := by omega
     have HDL : Hid (dropAll drop (L3.map Vf.fi) = some (l.map Vf.fi)) := Lib.hid (by
       rw [HDA.out, List.drop_eq_nil_of_le (by omega)]
       rfl)
     have HPL : Hid (p = if 50 < l.length + add.length then (2, none0) else if log < slog ∨ next < snext ∨ right ⟨insAll (l.map Vf.fi) (add.map Vf.fi), log, next⟩ = false then (10, none0) else (0, ⟨insAll (l.map Vf.fi) (add.map Vf.fi), log, next⟩)) := Lib.hid (by
       rw [HP.out]
       unfold apply
       rw [if_neg (by rw [← HR1.out, ← HR2.out]; simp)]
       show (match dropAll drop (L3.map Vf.fi) with | none => _ | some l => _) = _
       rw [HDL.out]
       simp only [Ev.ed, List.length_map]
       rfl)
     clear HDA
     by_cases hbig : 50 < l.length + add.length
     · have hbig' : (50 : Int) < (l.length : Int) + (add.length : Int) := by omega
       have HEQ : Hid (p = (2, none0)) := Lib.hid (by rw [HPL.out, if_pos hbig])
       obtain ⟨z0, z1, z2, g0, g1, g2⟩ := HZF.out wr HBR.out
       have HBX := Lib.hid (HBR.out)
       go_wp2_with fail
       refine bodyPost_ret (results_c2v rfl _ _ (w.heap.size + 1 + 1) 24 #[.slice none 0 0, .int .i64 0, .int .i64 0] (0, 0) _ rfl (heap3v (HZ.out _ HBX.out)) Tryz.underlying24 rfl state_size) rfl ?_
       rw [HEQ.out]
       exact ⟨(((HB0.out.trans (HBX.out.mono HB0.out.size)).setCell (show w.heap.size ≤ w.heap.size + 1 + 1 by omega) _).setCell (show w.heap.size ≤ w.heap.size + 1 + 1 by omega) _).setCell (show w.heap.size ≤ w.heap.size + 1 + 1 by omega) _, none, 0, [], rfl, rfl, Rk.nil _ _ _ (Nat.le_refl _) (by have := (HB0.out.trans (HBX.out.mono HB0.out.size)).size; simpa [World.setCell] using this)⟩
     · have hbig' : ¬ (50 : Int) < (l.length : Int) + (add.length : Int) := by omega
       have HHE : Hid (p = if log < slog ∨ next < snext ∨ right ⟨insAll (l.map Vf.fi) (add.map Vf.fi), log, next⟩ = false then (10, none0) else (0, ⟨insAll (l.map Vf.fi) (add.map Vf.fi), log, next⟩)) := Lib.hid (by rw [HPL.out, if_neg hbig])
       go_wp2_with fail
       clear hlt' hid
       go_loopw [8, 12] (fun x y wr => ∃ (i2 c2 : Nat) (A2 : Option Addr) (m : List Vf), x = .slice A2 m.length c2 ∧ y = .int .i64 (i2 : Int) ∧ i2 ≤ add.length ∧ m.length + add.length ≤ 50 + i2 ∧ Hid (m.map Vf.fi = insAll (l.map Vf.fi) ((add.take i2).map Vf.fi)) ∧ Hid (Rk K wr w.heap.size W0.heap.size A2 c2 m) ∧ Hid (Below W0.heap.size W0 wr)) (fun _ y _ => add.length - (intOf y).toNat)
       case atStart => exact ⟨0, c, A, l, rfl, rfl, by omega, by omega, Lib.hid rfl, HRW, HBR⟩
       case round =>
         clear HRW HBR s0 s1 s2 e0 e1 e2 e3 hbig hbig'
         obtain ⟨i2, c2, A2, m, rfl, rfl, hi2, hm5, HLM, HRW, HBR⟩ := hrel
         obtain ⟨⟨s0, s1, s2⟩, e0, e1, e2, e3⟩ := HYS.out wr HBR.out
         by_cases hlt2 : i2 < add.length
         · have hlt2' : (i2 : Int) < (add.length : Int) := by omega
           have hi20 : (0 : Int) ≤ (i2 : Int) := by omega
           have hmem := List.getElem_mem hlt2
           obtain ⟨eb, eoff, hEA, heb, hecell, _⟩ := HE0.out.add.cell hlt2
           have HTU : Hid (add.take (i2 + 1) = add.take i2 ++ [add[i2]]) := Lib.hid (List.take_succ_eq_append_getElem hlt2)
           simp only at hEA
           subst hEA
           obtain ⟨u, hu⟩ : ∃ u, u = add[i2] := ⟨_, rfl⟩
           rw [← hu] at hmem hecell HTU
           have HUC : Hid (∀ X, Below W0.heap.size W0 X → X.rangeAt eb (eoff + i2 * 6) u.cells) := Lib.hid (fun X hX j y hy => (hX.cell (p := ⟨eb, eoff + i2 * 6 + j, none⟩) heb).trans (hecell j y hy))
           have HUK : Hid (∀ X, Below W0.heap.size W0 X → VfOk X X.heap.size u) := Lib.hid (fun X hX => ((HE0.out.add.ok u hmem).below hX (Nat.le_refl _)).more hX.size)
           have HUB := Lib.hid (HAB.out u hmem)
           clear hu hmem hecell heb
           go_wp2_with fail
           go_loopw [13] (fun y wr => ∃ k : Nat, y = .int .i64 (k : Int) ∧ k ≤ m.length ∧ Hid (∀ x ∈ (m.map Vf.fi).take k, before u.fi x = false) ∧ Hid (Rk K wr w.heap.size W0.heap.size A2 c2 m) ∧ Hid (Below W0.heap.size W0 wr)) (fun y _ => m.length - (intOf y).toNat)
           case atStart => exact ⟨0, rfl, by omega, Lib.hid (by simp), HRW, HBR⟩
           case round =>
             clear HRW HBR s0 s1 s2 e0 e1 e2 e3
             obtain ⟨k, rfl, hk, HFA, HRW, HBR⟩ := hrel
             have hcap := HRW.out.row.cap
             by_cases hkm : k < m.length
             · have hkm' : (k : Int) < (m.length : Int) := by omega
               have hk0 : (0 : Int) ≤ (k : Int) := by omega
               obtain ⟨fb, foff, hfA, hfb, hcell, hokv⟩ := HRW.out.rd.cell hkm
               subst hfA
               obtain ⟨v, hv⟩ : ∃ v, v = m[k] := ⟨_, rfl⟩
               rw [← hv] at hcell hokv
               have HV := Lib.hid hv
               obtain ⟨bl, hbl⟩ : ∃ bl, bl = before u.fi v.fi := ⟨_, rfl⟩
               have HBL := Lib.hid hbl
               have HS3 : Hid (∀ X, Below wr.heap.size wr X → X.rangeAt eb (eoff + i2 * 6) u.cells ∧ X.rangeAt fb (foff + k * 6) v.cells ∧ X.cell? ⟨w.heap.size + 1, 0, none⟩ = some (.slice (some ⟨eb, eoff, none⟩) add.length ec)) := Lib.hid (fun X hX => by
                 have hX0 := HBR.out.trans (hX.mono HBR.out.size)
                 exact ⟨HUC.out X hX0, fun j y hy => (hX.cell (p := ⟨fb, foff + k * 6 + j, none⟩) hfb).trans (hcell j y hy), (HYS.out X hX0).2.1⟩)
               have KB : Hid (∀ X, Below wr.heap.size wr X → Calls Tryz.prog 45 #[.agg u.cells.toArray, .agg v.cells.toArray] X fun e w' => e = .returned (.bool bl) ∧ Below X.heap.size X w') := Lib.hid (fun X hX => by
                 rw [hbl]
                 exact rbefore_any u v X (HUK.out X (HBR.out.trans (hX.mono HBR.out.size))) ((hokv.below hX (Nat.le_refl _)).more hX.size))
               clear hcell hokv hv hbl hfb
               go_upto_region 24 with fail
               go_cut [101] from 85 to 103 (fun x wx => x = .bool (!bl) ∧ Hid (Below wr.heap.size wr wx))
               case first =>
                 obtain ⟨V, hV⟩ : ∃ V, V = wr.drew := ⟨_, rfl⟩
                 have hbV : Below wr.heap.size wr V := by rw [hV]; exact ⟨rfl, rfl, rfl, Nat.le_refl _, fun _ _ => rfl⟩
                 have hy := HS3.out V hbV
                 have KP := Lib.hid (KB.out V hbV)
                 have HRG : Hid (∀ X, Below V.heap.size V X → X.rangeAt eb (eoff + i2 * 6) u.cells ∧ X.rangeAt fb (foff + k * 6) v.cells ∧ X.cell? ⟨w.heap.size + 1, 0, none⟩ = some (.slice (some ⟨eb, eoff, none⟩) add.length ec)) := Lib.hid (fun X hX => HS3.out X (hbV.trans (hX.mono hbV.size)))
                 have HBV := Lib.hid hbV
                 have n1 : u.cells.length = 6 := rfl
                 have n2 : v.cells.length = 6 := rfl
                 clear KB HS3 hbV HBL HV HUC HUK HUB HFA HRW
                 generalize u.cells = cI at hy KP n1 HRG
                 generalize v.cells = cJ at hy KP n2 HRG
                 refine wp_region_E 16 (fun X => X.rangeAt eb (eoff + i2 * 6) cI ∧ X.rangeAt fb (foff + k * 6) cJ ∧ X.cell? ⟨w.heap.size + 1, 0, none⟩ = some (.slice (some ⟨eb, eoff, none⟩) add.length ec)) (by kernel_rfl) ?_
                 rw [← hV]
                 clear hV
                 refine wTs [4, 3] (i := 0) (v := .int .i64 (k : Int)) rfl (yields_of1 (.tmp 13) (.int .i64 (k : Int)) (by rfl) (by rfl) ?_) hy ?_
                 · intro E wy hSw hc q1
                   obtain ⟨hs1, hs2, hs3⟩ := hSw
                   go_simp
                 try simp only [Act.put, List.setIfInBounds_toArray]
                 simp only [List.getElem_toArray, List.getElem_cons_zero, List.set_cons_succ, List.set_cons_zero]
                 refine wTs [4, 3, 2] (i := 1) (v := .slice (some ⟨fb, foff, none⟩) m.length c2) rfl (yields_of1 (.tmp 8) (.slice (some ⟨fb, foff, none⟩) m.length c2) (by rfl) (by rfl) ?_) hy ?_
                 · intro E wy hSw hc q1
                   obtain ⟨hs1, hs2, hs3⟩ := hSw
                   go_simp
                 try simp only [Act.put, List.setIfInBounds_toArray]
                 simp only [List.getElem_toArray, List.getElem_cons_succ, List.getElem_cons_zero, List.set_cons_succ, List.set_cons_zero]
                 refine wTs [4, 3] (i := 2) (v := .int .i64 (m.length : Int)) rfl (yields_of1 (.tmp 86) (.slice (some ⟨fb, foff, none⟩) m.length c2) (by rfl) (by rfl) ?_) hy ?_
                 · intro E wy hSw hc q1
                   obtain ⟨hs1, hs2, hs3⟩ := hSw
                   go_simp
                 try simp only [Act.put, List.setIfInBounds_toArray]
                 simp only [List.getElem_toArray, List.getElem_cons_succ, List.getElem_cons_zero, List.set_cons_succ, List.set_cons_zero]
                 refine wTs [4] (i := 3) (v := .bool true) rfl (yields_of2 (.tmp 85) (.tmp 87) (.int .i64 (k : Int)) (.int .i64 (m.length : Int)) (by rfl) (by rfl) (by rfl) ?_) hy ?_
                 · intro E wy hSw hc q1 q2
                   obtain ⟨hs1, hs2, hs3⟩ := hSw
                   go_simp
                 try simp only [Act.put, List.setIfInBounds_toArray]
                 simp only [List.getElem_toArray, List.getElem_cons_succ, List.getElem_cons_zero, List.set_cons_succ, List.set_cons_zero]
                 refine wTs [] (i := 4) (v := .bool true) rfl (yields_of1 (.tmp 88) (.bool true) (by rfl) (by rfl) ?_) hy ?_
                 · intro E wy hSw hc q1
                   obtain ⟨hs1, hs2, hs3⟩ := hSw
                   go_simp
                 try simp only [Act.put, List.setIfInBounds_toArray]
                 simp only [List.getElem_toArray, List.getElem_cons_succ, List.getElem_cons_zero, List.set_cons_succ, List.set_cons_zero]
                 refine wTs [15, 14, 9, 8, 6] (i := 5) (v := .pointer (some ⟨w.heap.size + 1, 0, none⟩)) rfl (yields_of1 (.tmp 3) (.pointer (some ⟨w.heap.size + 1, 0, none⟩)) (by rfl) (by rfl) ?_) hy ?_
                 · intro E wy hSw hc q1
                   obtain ⟨hs1, hs2, hs3⟩ := hSw
                   go_simp
                 try simp only [Act.put, List.setIfInBounds_toArray]
                 simp only [List.getElem_toArray, List.getElem_cons_succ, List.getElem_cons_zero, List.set_cons_succ, List.set_cons_zero]
                 refine wTs [15, 14, 9, 8] (i := 6) (v := .slice (some ⟨eb, eoff, none⟩) add.length ec) rfl (yields_of1 (.tmp 90) (.pointer (some ⟨w.heap.size + 1, 0, none⟩)) (by rfl) (by rfl) ?_) hy ?_
                 · intro E wy hSw hc q1
                   obtain ⟨hs1, hs2, hs3⟩ := hSw
                   go_simp
                 try simp only [Act.put, List.setIfInBounds_toArray]
                 simp only [List.getElem_toArray, List.getElem_cons_succ, List.getElem_cons_zero, List.set_cons_succ, List.set_cons_zero]
                 refine wTs [15, 14, 9, 8] (i := 7) (v := .int .i64 (i2 : Int)) rfl (yields_of1 (.tmp 12) (.int .i64 (i2 : Int)) (by rfl) (by rfl) ?_) hy ?_
                 · intro E wy hSw hc q1
                   obtain ⟨hs1, hs2, hs3⟩ := hSw
                   go_simp
                 try simp only [Act.put, List.setIfInBounds_toArray]
                 simp only [List.getElem_toArray, List.getElem_cons_succ, List.getElem_cons_zero, List.set_cons_succ, List.set_cons_zero]
                 refine wTs [15, 14, 9] (i := 8) (v := .pointer (some ⟨eb, eoff + i2 * 6, none⟩)) rfl (yields_of2 (.tmp 91) (.tmp 92) (.slice (some ⟨eb, eoff, none⟩) add.length ec) (.int .i64 (i2 : Int)) (by rfl) (by rfl) (by rfl) ?_) hy ?_
                 · intro E wy hSw hc q1 q2
                   obtain ⟨hs1, hs2, hs3⟩ := hSw
                   go_simp
                 try simp only [Act.put, List.setIfInBounds_toArray]
                 simp only [List.getElem_toArray, List.getElem_cons_succ, List.getElem_cons_zero, List.set_cons_succ, List.set_cons_zero]
                 refine wpAnyE_takes [15, 14] (i := 9) rfl (by kernel_rfl) (by kernel_rfl) (by kernel_rfl) (by kernel_rfl) (by kernel_rfl) (fun _ _ _ h => h) (yieldsIf_load_mid (by rfl) 43 (.tmp 93) rfl eb (eoff + i2 * 6) (by rfl) cI _ (fun X hX => hX.1) Tryz.underlying43 rfl (by rw [show (Tryz.prog.info? 43).map (·.size) = some 6 from Sym.file_size]; exact congrArg some (Eq.symm (by assumption)))) hy ?_
                 try simp only [Act.put]
                 simp only [List.getElem_toArray, List.getElem_cons_succ, List.getElem_cons_zero, List.setIfInBounds_toArray, List.set_cons_succ, List.set_cons_zero]
                 refine wTs [15, 14, 13, 12] (i := 10) (v := .slice (some ⟨fb, foff, none⟩) m.length c2) rfl (yields_of1 (.tmp 8) (.slice (some ⟨fb, foff, none⟩) m.length c2) (by rfl) (by rfl) ?_) hy ?_
                 · intro E wy hSw hc q1
                   obtain ⟨hs1, hs2, hs3⟩ := hSw
                   go_simp
                 try simp only [Act.put, List.setIfInBounds_toArray]
                 simp only [List.getElem_toArray, List.getElem_cons_succ, List.getElem_cons_zero, List.set_cons_succ, List.set_cons_zero]
                 refine wTs [15, 14, 13, 12] (i := 11) (v := .int .i64 (k : Int)) rfl (yields_of1 (.tmp 13) (.int .i64 (k : Int)) (by rfl) (by rfl) ?_) hy ?_
                 · intro E wy hSw hc q1
                   obtain ⟨hs1, hs2, hs3⟩ := hSw
                   go_simp
                 try simp only [Act.put, List.setIfInBounds_toArray]
                 simp only [List.getElem_toArray, List.getElem_cons_succ, List.getElem_cons_zero, List.set_cons_succ, List.set_cons_zero]
                 refine wTs [15, 14, 13] (i := 12) (v := .pointer (some ⟨fb, foff + k * 6, none⟩)) rfl (yields_of2 (.tmp 95) (.tmp 96) (.slice (some ⟨fb, foff, none⟩) m.length c2) (.int .i64 (k : Int)) (by rfl) (by rfl) (by rfl) ?_) hy ?_
                 · intro E wy hSw hc q1 q2
                   obtain ⟨hs1, hs2, hs3⟩ := hSw
                   go_simp
                 try simp only [Act.put, List.setIfInBounds_toArray]
                 simp only [List.getElem_toArray, List.getElem_cons_succ, List.getElem_cons_zero, List.set_cons_succ, List.set_cons_zero]
                 refine wpAnyE_takes [15, 14] (i := 13) rfl (by kernel_rfl) (by kernel_rfl) (by kernel_rfl) (by kernel_rfl) (by kernel_rfl) (fun _ _ _ h => h) (yieldsIf_load_mid (by rfl) 43 (.tmp 97) rfl fb (foff + k * 6) (by rfl) cJ _ (fun X hX => hX.2.1) Tryz.underlying43 rfl (by rw [show (Tryz.prog.info? 43).map (·.size) = some 6 from Sym.file_size]; exact congrArg some (Eq.symm (by assumption)))) hy ?_
                 try simp only [Act.put]
                 simp only [List.getElem_toArray, List.getElem_cons_succ, List.getElem_cons_zero, List.setIfInBounds_toArray, List.set_cons_succ, List.set_cons_zero]
                 refine wpAnyE_one (i := 14) (by kernel_rfl) rfl (fun K hK => ?_)
                 refine Sym.step_callf2_dv (by rfl) (some 99) (by rfl) (.func 45) (.tmp 94) (.tmp 98) (by rfl) (by rfl) (.agg cI.toArray) (.agg cJ.toArray) rfl rfl (enters_of Tryz.func45 (by kernel_rfl) rfl) _ KP.out ?_
                 rintro e w5 ⟨rfl, hl⟩
                 have HL5 := Lib.hid (HBV.out.trans (hl.mono HBV.out.size))
                 have hy5 := HRG.out w5 hl
                 refine ⟨_, rfl, ?_⟩
                 refine hK _ _ hy5 ?_
                 clear hK K hl hy KP
                 simp only [Act.put, List.setIfInBounds_toArray, List.set_cons_succ, List.set_cons_zero]
                 refine wTs [] (i := 15) (v := .bool (!bl)) rfl (yields_of1 (.tmp 99) (.bool bl) (by rfl) (by rfl) ?_) hy5 ?_
                 · intro E wy hSw hc q1
                   obtain ⟨hs1, hs2, hs3⟩ := hSw
                   go_simp
                 try simp only [Act.put, List.setIfInBounds_toArray]
                 refine wpAnyE_last (by kernel_rfl) (by kernel_rfl) rfl (fun K hK => ?_)
                 refine step_of2 (.tmp 89) (.tmp 100) (.bool true) (.bool (!bl)) (.bool (!bl)) (by rfl) (by rfl) (by rfl) (fun E hc q1 q2 => ?_) ?_
                 · go_simp
                 refine hK _ _ ?_
                 clear hK
                 simp only [List.getElem_toArray, List.getElem_cons_succ, List.getElem_cons_zero, Act.put, List.setIfInBounds_toArray, List.set_cons_succ, List.set_cons_zero]
                 go_wp2_with fail
                 go_meet
                 exact ⟨rfl, HL5⟩
               case rest =>
                 obtain ⟨rfl, HBX⟩ := hcut
                 have HBY := Lib.hid (HBR.out.trans (HBX.out.mono HBR.out.size))
                 have HRY := Lib.hid (HRW.out.below HBX.out)
                 rcases bl with _ | _
                 · have HFA2 : Hid (∀ x ∈ (m.map Vf.fi).take (k + 1), before u.fi x = false) := Lib.hid (fun x hx => by
                     rw [List.take_succ_eq_append_getElem (by rw [List.length_map]; exact hkm), List.mem_append, List.mem_singleton] at hx
                     rcases hx with hx | hx
                     · exact HFA.out x hx
                     · rw [hx, List.getElem_map, ← HV.out]
                       exact HBL.out.symm)
                   go_wp2_with fail
                   exact ⟨⟨k + 1, by simp, hkm, HFA2, HRY, HBY⟩, by simp only [intOf]; omega⟩
                 · have HINS : Hid (ins u.fi (m.map Vf.fi) = (m.map Vf.fi).take k ++ u.fi :: (m.map Vf.fi).drop k) := Lib.hid (ins_at _ _ k (by rw [List.length_map]; exact hk) HFA.out (.inr ⟨by rw [List.length_map]; exact hkm, by rw [List.getElem_map, ← HV.out]; exact HBL.out.symm⟩))
                   clear HRW HBR
                   have HRW := HRY
                   have HBR := HBY
                   clear HRY HBY KB HS3 HBL HV HFA
                   have hszX : W0.heap.size ≤ wc.heap.size := HBR.out.size
                   have HOE := Lib.hid (own_files0 wc wc.heap.size (Nat.le_refl _))
                   have hba : Below wc.heap.size wc (wc.alloc (.cells #[] 43)) := (Below.refl _ _).alloc (Nat.le_refl _) _
                   have HR0 := Lib.hid (HRW.out.below hba)
                   have HBA := Lib.hid (HBR.out.trans (hba.mono HBR.out.size))
                   have HTL : Hid (k = (m.take k).length) := Lib.hid (by rw [List.length_take]; omega)
                   have hkI : (k : Int) ≤ (m.length : Int) := by omega
                   have hcapI : (m.length : Int) ≤ (c2 : Int) := by omega
                   have HBLK : Hid (∀ q, blk (some ⟨fb, foff, none⟩) = some q → q < wc.heap.size) := Lib.hid (fun q e => (HRW.out.row.blk_ge q e).2)
                   clear hba HRW HBR
                   go_wp2_with (at_builtin; (refine wpList_append_s _ rfl _ _ vfT rfl wc.heap.size (some ⟨wc.heap.size, 0, none⟩) 0 [] rfl HOE.out _ (some ⟨fb, foff, none⟩) k c2 (m.take k) rfl HTL.out (RdS.take (f := Vf.cells) (n := 6) (fun _ => rfl) HR0.out.rd.row hk) (by have h1 := HTL.out; show (0 + (m.take k).length) * 80 ≤ 140737488355328; omega) (by have h1 := HTL.out; unfold maxLen; show 0 + (m.take k).length ≤ 9223372036854775807; omega) (by simp) ?_; intro A5 c5 L5 w5 hl5a ho5 hg5 hat5))
                   have HL5 : Hid (L5 = m.take k) := Lib.hid hl5a
                   have HR5 : Hid (Rk K w5 w.heap.size wc.heap.size A5 c5 L5) := Lib.hid (by rw [hl5a] at ho5 ⊢; exact Rk.app (l := []) ⟨HOE.out, (fun _ h => by cases h), Nat.le_trans hwW hszX, (by simp)⟩ hg5 ho5 (fun v hv => HR0.out.el v (List.mem_of_mem_take hv)))
                   have HM5 : Hid (Rk K w5 w.heap.size W0.heap.size (some ⟨fb, foff, none⟩) c2 m) := Lib.hid (HR0.out.other hg5 HOE.out (Nat.le_trans hwW hszX) HBLK.out)
                   have HB5 : Hid (Below W0.heap.size W0 w5) := Lib.hid (below_grow HBA.out hg5 (fun q hq => Nat.le_trans hszX (HOE.out.blk_ge q hq).1) HBA.out.size)
                   clear hl5a ho5 hg5 hat5 HOE HR0 HBA
                   obtain ⟨⟨s0, s1, s2⟩, e0, e1, e2, e3⟩ := HYS.out w5 HB5.out
                   have j0 := HUC.out w5 HB5.out 0 _ rfl
                   have j1 := HUC.out w5 HB5.out 1 _ rfl
                   have j2 := HUC.out w5 HB5.out 2 _ rfl
                   have j3 := HUC.out w5 HB5.out 3 _ rfl
                   have j4 := HUC.out w5 HB5.out 4 _ rfl
                   have j5 := HUC.out w5 HB5.out 5 _ rfl
                   rw [Nat.add_zero] at j0
                   have kc := rcopy_any u w5 (HUK.out w5 HB5.out) HUB.out.1 HUB.out.2
                   simp only [Vf.val] at kc
                   have KC := Lib.hid kc
                   clear kc
                   simp only [Act.put, List.setIfInBounds_toArray, List.set_cons_succ, List.set_cons_zero]
                   go_wp2_with fail
                   refine KC.out.mono ?_
                   rintro r w6 ⟨v9, rfl, hfi, hown, hb6⟩
                   obtain ⟨nu, lv, FA, fc, fi, LA, lc, la, lo, hi⟩ := v9
                   simp only [Vf.val]
                   have HFI := Lib.hid hfi
                   have HB6 := Lib.hid (HB5.out.trans (hb6.mono HB5.out.size))
                   have HR6 := Lib.hid (HR5.out.below hb6)
                   have HM6 := Lib.hid (HM5.out.below hb6)
                   have HVO : Hid (VfOwn w6 w.heap.size ⟨nu, lv, FA, fc, fi, LA, lc, la, lo, hi⟩) := Lib.hid (hown.mono (Nat.le_trans hwW HB5.out.size))
                   clear hfi hown hb6 KC s0 s1 s2 e0 e1 e2 e3 j0 j1 j2 j3 j4 j5
                   have hba6 : Below w6.heap.size w6 (w6.alloc (.cells #[.int .i64 nu, .int .i64 lv, .slice FA fi.length fc, .slice LA la.length lc, .int .i64 lo, .int .i64 hi] 43)) := (Below.refl _ _).alloc (Nat.le_refl _) _
                   have HR7 := Lib.hid (HR6.out.below hba6)
                   have HM7 := Lib.hid (HM6.out.below hba6)
                   have HB7 := Lib.hid (HB6.out.trans (hba6.mono HB6.out.size))
                   have HVO7 := Lib.hid (HVO.out.below hba6)
                   have hxz : wc.heap.size ≤ w6.heap.size + 1 := by have := HR6.out.sz; omega
                   have HL5L : Hid (L5.length = k) := Lib.hid (by rw [HL5.out]; exact HTL.out.symm)
                   clear hba6
                   go_wp2_with (at_builtin; (refine wpList_append_s _ rfl _ _ vfT rfl wc.heap.size A5 c5 L5 rfl HR7.out.row (w6.heap.size + 1) (some ⟨w6.heap.size, 0, none⟩) 1 1 [⟨nu, lv, FA, fc, fi, LA, lc, la, lo, hi⟩] rfl rfl (rd_vf_new w6 ⟨nu, lv, FA, fc, fi, LA, lc, la, lo, hi⟩) (by have h1 := HL5L.out; show (L5.length + 1) * 80 ≤ 140737488355328; omega) (by have h1 := HL5L.out; unfold maxLen; show L5.length + 1 ≤ 9223372036854775807; omega) (by simp; omega) ?_; intro A6 c6 L6 w7 hl6a ho6 hg6 hat6))
                   have HL6 : Hid (L6 = L5 ++ [⟨nu, lv, FA, fc, fi, LA, lc, la, lo, hi⟩]) := Lib.hid hl6a
                   have HR8 : Hid (Rk K w7 w.heap.size wc.heap.size A6 c6 L6) := Lib.hid (by
                     rw [hl6a] at ho6 ⊢
                     exact HR7.out.app hg6 ho6 (fun v hv => by
                       rw [List.mem_singleton] at hv
                       subst hv
                       exact .inr HVO7.out))
                   have HM8 : Hid (Rk K w7 w.heap.size W0.heap.size (some ⟨fb, foff, none⟩) c2 m) := Lib.hid (HM7.out.other hg6 HR7.out.row (Nat.le_trans hwW hszX) HBLK.out)
                   have HB8 : Hid (Below W0.heap.size W0 w7) := Lib.hid (below_grow HB7.out hg6 (fun q hq => Nat.le_trans hszX (HR7.out.row.blk_ge q hq).1) HB7.out.size)
                   have HL6L : Hid (L6.length = k + 1) := Lib.hid (by rw [HL6.out, List.length_append, HL5L.out]; rfl)
                   have HDLN : Hid (m.length - k = (m.drop k).length) := Lib.hid (List.length_drop ..).symm
                   have HDR := Lib.hid (RdS.drop (f := Vf.cells) (n := 6) (fun _ => rfl) HM8.out.rd.row (k := k) (cap := c2) hk hcap)
                   have hx7 : wc.heap.size ≤ w7.heap.size := HR8.out.sz
                   clear hl6a ho6 hg6 hat6 HR7 HM7 HB7 HVO7 HR6 HM6 HB6 HVO HR5 HM5 HB5
                   have hne : ¬ c2 = k := by omega
                   rw [if_neg hne, show (some (⟨fb, foff, none⟩ : Addr)).map (fun x => x.add (k * 6)) = some ⟨fb, foff + k * 6, none⟩ from congrArg some (Addr.add_lit fb foff (k * 6))] at HDR
                   simp only [Act.put, List.setIfInBounds_toArray, List.set_cons_succ, List.set_cons_zero]
                   go_wp2_with (at_builtin; (refine wpList_append_s _ rfl _ _ vfT rfl wc.heap.size A6 c6 L6 rfl HR8.out.row _ _ _ _ (m.drop k) rfl (by have h1 := HDLN.out; omega) HDR.out (by have h1 := HL6L.out; have h2 := HDLN.out; omega) (by have h1 := HL6L.out; have h2 := HDLN.out; unfold maxLen; omega) hx7 ?_; intro A7 c7 L7 w8 hl7a ho7 hg7 hat7))
                   have HL7 : Hid (L7 = L6 ++ m.drop k) := Lib.hid hl7a
                   have HR9 : Hid (Rk K w8 w.heap.size W0.heap.size A7 c7 L7) := Lib.hid (by
                     rw [hl7a] at ho7 ⊢
                     exact (HR8.out.app hg7 ho7 (fun v hv => HM8.out.el v (List.mem_of_mem_drop hv))).mono hszX hwW)
                   have HB9 : Hid (Below W0.heap.size W0 w8) := Lib.hid (below_grow HB8.out hg7 (fun q hq => Nat.le_trans hszX (HR8.out.row.blk_ge q hq).1) HB8.out.size)
                   have HLM2 : Hid (L7.map Vf.fi = insAll (l.map Vf.fi) ((add.take (i2 + 1)).map Vf.fi)) := Lib.hid (by
                     have h1 : insAll (l.map Vf.fi) ((add.take (i2 + 1)).map Vf.fi) = ins u.fi (insAll (l.map Vf.fi) ((add.take i2).map Vf.fi)) := by
                       rw [HTU.out, List.map_append]
                       unfold insAll
                       rw [List.foldl_append]
                       rfl
                     rw [h1, ← HLM.out, HINS.out, HL7.out, HL6.out, HL5.out, List.map_append, List.map_append, List.map_take, List.map_drop, List.append_assoc, ← HFI.out]
                     rfl)
                   have h79 : L7.length + add.length ≤ 50 + (i2 + 1) := by
                     have h1 := congrArg List.length HL7.out
                     have h2 := HL6L.out
                     have h3 := HDLN.out
                     rw [List.length_append] at h1
                     omega
                   clear hl7a ho7 hg7 hat7
                   simp only [Act.put, List.setIfInBounds_toArray, List.set_cons_succ, List.set_cons_zero]
                   go_wp2_with fail
                   exact ⟨⟨i2 + 1, c7, A7, L7, rfl, by simp, hlt2, h79, HLM2, HR9, HB9⟩, by simp only [intOf]; omega⟩
             · have hke : k = m.length := by omega
               have hkm' : ¬ (k : Int) < (m.length : Int) := by omega
               have hk0 : (0 : Int) ≤ (k : Int) := by omega
               have HINS : Hid (ins u.fi (m.map Vf.fi) = (m.map Vf.fi).take k ++ u.fi :: (m.map Vf.fi).drop k) := Lib.hid (ins_at _ _ k (by rw [List.length_map]; exact hk) HFA.out (.inl (by rw [List.length_map]; exact hke)))
               have HKE := Lib.hid hke
               clear hke
               go_wp2_with fail
               go_quiet (fail)
               refine Sto.drewN_of (fun V hbV hVh => ?_)
               have HRWV := Lib.hid (HRW.out.below hbV)
               have HBRV := Lib.hid (HBR.out.trans (hbV.mono HBR.out.size))
               clear hbV hVh HRW HBR HFA
               obtain ⟨wr, hwr⟩ : ∃ wr, wr = V := ⟨_, rfl⟩
               rw [← hwr] at HRWV HBRV ⊢
               have HRW := HRWV
               have HBR := HBRV
               clear hwr HRWV HBRV hkm'
               have hszX : W0.heap.size ≤ wr.heap.size := HBR.out.size
               have HOE := Lib.hid (own_files0 wr wr.heap.size (Nat.le_refl _))
               have hba : Below wr.heap.size wr (wr.alloc (.cells #[] 43)) := (Below.refl _ _).alloc (Nat.le_refl _) _
               have HR0 := Lib.hid (HRW.out.below hba)
               have HBA := Lib.hid (HBR.out.trans (hba.mono HBR.out.size))
               have HTL : Hid (k = (m.take k).length) := Lib.hid (by rw [List.length_take]; omega)
               have hkI : (k : Int) ≤ (m.length : Int) := by omega
               have hcapI : (m.length : Int) ≤ (c2 : Int) := by omega
               have HBLK : Hid (∀ q, blk A2 = some q → q < wr.heap.size) := Lib.hid (fun q e => (HRW.out.row.blk_ge q e).2)
               clear hba HRW HBR
               go_wp2_with (at_builtin; (refine wpList_append_s _ rfl _ _ vfT rfl wr.heap.size (some ⟨wr.heap.size, 0, none⟩) 0 [] rfl HOE.out _ A2 k c2 (m.take k) rfl HTL.out (RdS.take (f := Vf.cells) (n := 6) (fun _ => rfl) HR0.out.rd.row hk) (by have h1 := HTL.out; show (0 + (m.take k).length) * 80 ≤ 140737488355328; omega) (by have h1 := HTL.out; unfold maxLen; show 0 + (m.take k).length ≤ 9223372036854775807; omega) (by simp) ?_; intro A5 c5 L5 w5 hl5a ho5 hg5 hat5))
               have HL5 : Hid (L5 = m.take k) := Lib.hid hl5a
               have HR5 : Hid (Rk K w5 w.heap.size wr.heap.size A5 c5 L5) := Lib.hid (by rw [hl5a] at ho5 ⊢; exact Rk.app (l := []) ⟨HOE.out, (fun _ h => by cases h), Nat.le_trans hwW hszX, (by simp)⟩ hg5 ho5 (fun v hv => HR0.out.el v (List.mem_of_mem_take hv)))
               have HM5 : Hid (Rk K w5 w.heap.size W0.heap.size A2 c2 m) := Lib.hid (HR0.out.other hg5 HOE.out (Nat.le_trans hwW hszX) HBLK.out)
               have HB5 : Hid (Below W0.heap.size W0 w5) := Lib.hid (below_grow HBA.out hg5 (fun q hq => Nat.le_trans hszX (HOE.out.blk_ge q hq).1) HBA.out.size)
               clear hl5a ho5 hg5 hat5 HOE HR0 HBA
               obtain ⟨⟨s0, s1, s2⟩, e0, e1, e2, e3⟩ := HYS.out w5 HB5.out
               have j0 := HUC.out w5 HB5.out 0 _ rfl
               have j1 := HUC.out w5 HB5.out 1 _ rfl
               have j2 := HUC.out w5 HB5.out 2 _ rfl
               have j3 := HUC.out w5 HB5.out 3 _ rfl
               have j4 := HUC.out w5 HB5.out 4 _ rfl
               have j5 := HUC.out w5 HB5.out 5 _ rfl
               rw [Nat.add_zero] at j0
               have kc := rcopy_any u w5 (HUK.out w5 HB5.out) HUB.out.1 HUB.out.2
               simp only [Vf.val] at kc
               have KC := Lib.hid kc
               clear kc
               simp only [Act.put, List.setIfInBounds_toArray, List.set_cons_succ, List.set_cons_zero]
               go_wp2_with fail
               refine KC.out.mono ?_
               rintro r w6 ⟨v9, rfl, hfi, hown, hb6⟩
               obtain ⟨nu, lv, FA, fc, fi, LA, lc, la, lo, hi⟩ := v9
               simp only [Vf.val]
               have HFI := Lib.hid hfi
               have HB6 := Lib.hid (HB5.out.trans (hb6.mono HB5.out.size))
               have HR6 := Lib.hid (HR5.out.below hb6)
               have HM6 := Lib.hid (HM5.out.below hb6)
               have HVO : Hid (VfOwn w6 w.heap.size ⟨nu, lv, FA, fc, fi, LA, lc, la, lo, hi⟩) := Lib.hid (hown.mono (Nat.le_trans hwW HB5.out.size))
               clear hfi hown hb6 KC s0 s1 s2 e0 e1 e2 e3 j0 j1 j2 j3 j4 j5
               have hba6 : Below w6.heap.size w6 (w6.alloc (.cells #[.int .i64 nu, .int .i64 lv, .slice FA fi.length fc, .slice LA la.length lc, .int .i64 lo, .int .i64 hi] 43)) := (Below.refl _ _).alloc (Nat.le_refl _) _
               have HR7 := Lib.hid (HR6.out.below hba6)
               have HM7 := Lib.hid (HM6.out.below hba6)
               have HB7 := Lib.hid (HB6.out.trans (hba6.mono HB6.out.size))
               have HVO7 := Lib.hid (HVO.out.below hba6)
               have hxz : wr.heap.size ≤ w6.heap.size + 1 := by have := HR6.out.sz; omega
               have HL5L : Hid (L5.length = k) := Lib.hid (by rw [HL5.out]; exact HTL.out.symm)
               clear hba6
               go_wp2_with (at_builtin; (refine wpList_append_s _ rfl _ _ vfT rfl wr.heap.size A5 c5 L5 rfl HR7.out.row (w6.heap.size + 1) (some ⟨w6.heap.size, 0, none⟩) 1 1 [⟨nu, lv, FA, fc, fi, LA, lc, la, lo, hi⟩] rfl rfl (rd_vf_new w6 ⟨nu, lv, FA, fc, fi, LA, lc, la, lo, hi⟩) (by have h1 := HL5L.out; show (L5.length + 1) * 80 ≤ 140737488355328; omega) (by have h1 := HL5L.out; unfold maxLen; show L5.length + 1 ≤ 9223372036854775807; omega) (by simp; omega) ?_; intro A6 c6 L6 w7 hl6a ho6 hg6 hat6))
               have HL6 : Hid (L6 = L5 ++ [⟨nu, lv, FA, fc, fi, LA, lc, la, lo, hi⟩]) := Lib.hid hl6a
               have HR8 : Hid (Rk K w7 w.heap.size wr.heap.size A6 c6 L6) := Lib.hid (by
                 rw [hl6a] at ho6 ⊢
                 exact HR7.out.app hg6 ho6 (fun v hv => by
                   rw [List.mem_singleton] at hv
                   subst hv
                   exact .inr HVO7.out))
               have HM8 : Hid (Rk K w7 w.heap.size W0.heap.size A2 c2 m) := Lib.hid (HM7.out.other hg6 HR7.out.row (Nat.le_trans hwW hszX) HBLK.out)
               have HB8 : Hid (Below W0.heap.size W0 w7) := Lib.hid (below_grow HB7.out hg6 (fun q hq => Nat.le_trans hszX (HR7.out.row.blk_ge q hq).1) HB7.out.size)
               have HL6L : Hid (L6.length = k + 1) := Lib.hid (by rw [HL6.out, List.length_append, HL5L.out]; rfl)
               have HDLN : Hid (m.length - k = (m.drop k).length) := Lib.hid (List.length_drop ..).symm
               have HDR := Lib.hid (RdS.drop (f := Vf.cells) (n := 6) (fun _ => rfl) HM8.out.rd.row (k := k) (cap := c2) hk hcap)
               have hx7 : wr.heap.size ≤ w7.heap.size := HR8.out.sz
               clear hl6a ho6 hg6 hat6 HR7 HM7 HB7 HVO7 HR6 HM6 HB6 HVO HR5 HM5 HB5
               by_cases hne : c2 = k
               · rw [if_pos hne] at HDR
                 simp only [Act.put, List.setIfInBounds_toArray, List.set_cons_succ, List.set_cons_zero]
                 go_wp2_with (at_builtin; (refine wpList_append_s _ rfl _ _ vfT rfl wr.heap.size A6 c6 L6 rfl HR8.out.row _ _ _ _ (m.drop k) rfl (by have h1 := HDLN.out; omega) HDR.out (by have h1 := HL6L.out; have h2 := HDLN.out; omega) (by have h1 := HL6L.out; have h2 := HDLN.out; unfold maxLen; omega) hx7 ?_; intro A7 c7 L7 w8 hl7a ho7 hg7 hat7))
                 have HL7 : Hid (L7 = L6 ++ m.drop k) := Lib.hid hl7a
                 have HR9 : Hid (Rk K w8 w.heap.size W0.heap.size A7 c7 L7) := Lib.hid (by
                   rw [hl7a] at ho7 ⊢
                   exact (HR8.out.app hg7 ho7 (fun v hv => HM8.out.el v (List.mem_of_mem_drop hv))).mono hszX hwW)
                 have HB9 : Hid (Below W0.heap.size W0 w8) := Lib.hid (below_grow HB8.out hg7 (fun q hq => Nat.le_trans hszX (HR8.out.row.blk_ge q hq).1) HB8.out.size)
                 have HLM2 : Hid (L7.map Vf.fi = insAll (l.map Vf.fi) ((add.take (i2 + 1)).map Vf.fi)) := Lib.hid (by
                   have h1 : insAll (l.map Vf.fi) ((add.take (i2 + 1)).map Vf.fi) = ins u.fi (insAll (l.map Vf.fi) ((add.take i2).map Vf.fi)) := by
                     rw [HTU.out, List.map_append]
                     unfold insAll
                     rw [List.foldl_append]
                     rfl
                   rw [h1, ← HLM.out, HINS.out, HL7.out, HL6.out, HL5.out, List.map_append, List.map_append, List.map_take, List.map_drop, List.append_assoc, ← HFI.out]
                   rfl)
                 have h79 : L7.length + add.length ≤ 50 + (i2 + 1) := by
                   have h1 := congrArg List.length HL7.out
                   have h2 := HL6L.out
                   have h3 := HDLN.out
                   rw [List.length_append] at h1
                   omega
                 clear hl7a ho7 hg7 hat7
                 simp only [Act.put, List.setIfInBounds_toArray, List.set_cons_succ, List.set_cons_zero]
                 go_wp2_with fail
                 exact ⟨⟨i2 + 1, c7, A7, L7, rfl, by simp, hlt2, h79, HLM2, HR9, HB9⟩, by simp only [intOf]; omega⟩
               · rw [if_neg hne] at HDR
                 simp only [Act.put, List.setIfInBounds_toArray, List.set_cons_succ, List.set_cons_zero]
                 go_wp2_with (at_builtin; (refine wpList_append_s _ rfl _ _ vfT rfl wr.heap.size A6 c6 L6 rfl HR8.out.row _ _ _ _ (m.drop k) rfl (by have h1 := HDLN.out; omega) HDR.out (by have h1 := HL6L.out; have h2 := HDLN.out; omega) (by have h1 := HL6L.out; have h2 := HDLN.out; unfold maxLen; omega) hx7 ?_; intro A7 c7 L7 w8 hl7a ho7 hg7 hat7))
                 have HL7 : Hid (L7 = L6 ++ m.drop k) := Lib.hid hl7a
                 have HR9 : Hid (Rk K w8 w.heap.size W0.heap.size A7 c7 L7) := Lib.hid (by
                   rw [hl7a] at ho7 ⊢
                   exact (HR8.out.app hg7 ho7 (fun v hv => HM8.out.el v (List.mem_of_mem_drop hv))).mono hszX hwW)
                 have HB9 : Hid (Below W0.heap.size W0 w8) := Lib.hid (below_grow HB8.out hg7 (fun q hq => Nat.le_trans hszX (HR8.out.row.blk_ge q hq).1) HB8.out.size)
                 have HLM2 : Hid (L7.map Vf.fi = insAll (l.map Vf.fi) ((add.take (i2 + 1)).map Vf.fi)) := Lib.hid (by
                   have h1 : insAll (l.map Vf.fi) ((add.take (i2 + 1)).map Vf.fi) = ins u.fi (insAll (l.map Vf.fi) ((add.take i2).map Vf.fi)) := by
                     rw [HTU.out, List.map_append]
                     unfold insAll
                     rw [List.foldl_append]
                     rfl
                   rw [h1, ← HLM.out, HINS.out, HL7.out, HL6.out, HL5.out, List.map_append, List.map_append, List.map_take, List.map_drop, List.append_assoc, ← HFI.out]
                   rfl)
                 have h79 : L7.length + add.length ≤ 50 + (i2 + 1) := by
                   have h1 := congrArg List.length HL7.out
                   have h2 := HL6L.out
                   have h3 := HDLN.out
                   rw [List.length_append] at h1
                   omega
                 clear hl7a ho7 hg7 hat7
                 simp only [Act.put, List.setIfInBounds_toArray, List.set_cons_succ, List.set_cons_zero]
                 go_wp2_with fail
                 exact ⟨⟨i2 + 1, c7, A7, L7, rfl, by simp, hlt2, h79, HLM2, HR9, HB9⟩, by simp only [intOf]; omega⟩
         · have hlt2' : ¬ (i2 : Int) < (add.length : Int) := by omega
           have HLE : Hid (m.map Vf.fi = insAll (l.map Vf.fi) (add.map Vf.fi)) := Lib.hid (by rw [HLM.out, List.take_of_length_le (by omega)])
           have hml : m.length ≤ 1000000 := by omega
           obtain ⟨w10, hw10⟩ : ∃ w10, w10 = wr.alloc (.cells #[.slice A2 m.length c2, .int .i64 log, .int .i64 next] 24) := ⟨_, rfl⟩
           have hb10 : Below wr.heap.size wr w10 := by rw [hw10]; exact (Below.refl _ _).alloc (Nat.le_refl _) _
           have hx10 : w10.heap[wr.heap.size]? = some (.cells #[.slice A2 m.length c2, .int .i64 log, .int .i64 next] 24) := by rw [hw10]; exact heap_alloc_new wr _
           have HB10 := Lib.hid (HBR.out.trans (hb10.mono HBR.out.size))
           have HR10 := Lib.hid (HRW.out.below hb10)
           have kr := rright_any A2 c2 m log next w10 HR10.out.rd hml
           obtain ⟨r3, hr3⟩ : ∃ r3, r3 = right ⟨m.map Vf.fi, log, next⟩ := ⟨_, rfl⟩
           rw [← hr3, hw10] at kr
           have KR3 := Lib.hid kr
           have HR3 := Lib.hid hr3
           have HX10 := Lib.hid hx10
           have HW10 := Lib.hid hw10
           clear hw10 hb10 hx10 kr hr3
           go_wp2_with fail
           refine KR3.out.mono ?_
           rw [← HW10.out]
           rintro r w11 ⟨rfl, hb11⟩
           dsimp only
           have HB11 := Lib.hid (HB10.out.trans (hb11.mono HB10.out.size))
           have HR11 := Lib.hid (HR10.out.below hb11)
           have HX11 := Lib.hid ((hb11.block _ (Array.getElem?_eq_some_iff.1 HX10.out).1).trans HX10.out)
           clear s0 s1 s2 e0 e1 e2 e3 hb11 KR3
           obtain ⟨⟨s0, s1, s2⟩, e0, e1, e2, e3⟩ := HYS.out w11 HB11.out
           by_cases h1 : log < slog
           · have HEQ : Hid (p = (10, none0)) := Lib.hid (by rw [HHE.out, if_pos (.inl h1)])
             have h1' : decide (log < slog) = true := decide_eq_true h1
             obtain ⟨z0, z1, z2, g0, g1, g2⟩ := HZF.out w11 HB11.out
             have HBX := Lib.hid (HB11.out)
             go_wp2_with fail
             refine bodyPost_ret (results_c2v rfl _ _ (w.heap.size + 1 + 1) 24 #[.slice none 0 0, .int .i64 0, .int .i64 0] (0, 0) _ rfl (heap3v (HZ.out _ HBX.out)) Tryz.underlying24 rfl state_size) rfl ?_
             rw [HEQ.out]
             exact ⟨(((HB0.out.trans (HBX.out.mono HB0.out.size)).setCell (show w.heap.size ≤ w.heap.size + 1 + 1 by omega) _).setCell (show w.heap.size ≤ w.heap.size + 1 + 1 by omega) _).setCell (show w.heap.size ≤ w.heap.size + 1 + 1 by omega) _, none, 0, [], rfl, rfl, Rk.nil _ _ _ (Nat.le_refl _) (by have := (HB0.out.trans (HBX.out.mono HB0.out.size)).size; simpa [World.setCell] using this)⟩
           · have h1' : decide (log < slog) = false := decide_eq_false h1
             by_cases h2 : next < snext
             · have HEQ : Hid (p = (10, none0)) := Lib.hid (by rw [HHE.out, if_pos (.inr (.inl h2))])
               have h2' : decide (next < snext) = true := decide_eq_true h2
               obtain ⟨z0, z1, z2, g0, g1, g2⟩ := HZF.out w11 HB11.out
               have HBX := Lib.hid (HB11.out)
               go_wp2_with fail
               refine bodyPost_ret (results_c2v rfl _ _ (w.heap.size + 1 + 1) 24 #[.slice none 0 0, .int .i64 0, .int .i64 0] (0, 0) _ rfl (heap3v (HZ.out _ HBX.out)) Tryz.underlying24 rfl state_size) rfl ?_
               rw [HEQ.out]
               exact ⟨(((HB0.out.trans (HBX.out.mono HB0.out.size)).setCell (show w.heap.size ≤ w.heap.size + 1 + 1 by omega) _).setCell (show w.heap.size ≤ w.heap.size + 1 + 1 by omega) _).setCell (show w.heap.size ≤ w.heap.size + 1 + 1 by omega) _, none, 0, [], rfl, rfl, Rk.nil _ _ _ (Nat.le_refl _) (by have := (HB0.out.trans (HBX.out.mono HB0.out.size)).size; simpa [World.setCell] using this)⟩
             · have h2' : decide (next < snext) = false := decide_eq_false h2
               rcases r3 with _ | _
               · have HEQ : Hid (p = (10, none0)) := Lib.hid (by rw [HHE.out, if_pos (.inr (.inr (by rw [← HLE.out]; exact HR3.out.symm)))])
                 obtain ⟨z0, z1, z2, g0, g1, g2⟩ := HZF.out w11 HB11.out
                 have HBX := Lib.hid (HB11.out)
                 go_wp2_with fail
                 refine bodyPost_ret (results_c2v rfl _ _ (w.heap.size + 1 + 1) 24 #[.slice none 0 0, .int .i64 0, .int .i64 0] (0, 0) _ rfl (heap3v (HZ.out _ HBX.out)) Tryz.underlying24 rfl state_size) rfl ?_
                 rw [HEQ.out]
                 exact ⟨(((HB0.out.trans (HBX.out.mono HB0.out.size)).setCell (show w.heap.size ≤ w.heap.size + 1 + 1 by omega) _).setCell (show w.heap.size ≤ w.heap.size + 1 + 1 by omega) _).setCell (show w.heap.size ≤ w.heap.size + 1 + 1 by omega) _, none, 0, [], rfl, rfl, Rk.nil _ _ _ (Nat.le_refl _) (by have := (HB0.out.trans (HBX.out.mono HB0.out.size)).size; simpa [World.setCell] using this)⟩
               · have HEQ : Hid (p = (0, ⟨m.map Vf.fi, log, next⟩)) := Lib.hid (by rw [HHE.out, if_neg (by rw [← HLE.out, ← HR3.out]; simp [h1, h2]), HLE.out])
                 obtain ⟨q0, q1, q2⟩ : w11.cell? ⟨wr.heap.size, 0, none⟩ = some (.slice A2 m.length c2) ∧ w11.cell? ⟨wr.heap.size, 1, none⟩ = some (.int .i64 log) ∧ w11.cell? ⟨wr.heap.size, 2, none⟩ = some (.int .i64 next) := ⟨by rw [cell_of_row w11 _ 0 _ _ (0, 0) HX11.out]; rfl, by rw [cell_of_row w11 _ 1 _ _ (0, 0) HX11.out]; rfl, by rw [cell_of_row w11 _ 2 _ _ (0, 0) HX11.out]; rfl⟩
                 obtain ⟨z0, z1, z2, g0, g1, g2⟩ := HZF.out w11 HB11.out
                 go_wp2_with fail
                 refine bodyPost_ret (results_c2v rfl _ _ (w.heap.size + 1 + 1) 24 #[.slice A2 m.length c2, .int .i64 log, .int .i64 next] (0, 0) _ rfl (heap3v (HZ.out _ HB11.out)) Tryz.underlying24 rfl state_size) rfl ?_
                 rw [HEQ.out]
                 refine ⟨(((HB0.out.trans (HB11.out.mono HB0.out.size)).setCell (show w.heap.size ≤ w.heap.size + 1 + 1 by omega) _).setCell (show w.heap.size ≤ w.heap.size + 1 + 1 by omega) _).setCell (show w.heap.size ≤ w.heap.size + 1 + 1 by omega) _, A2, c2, m, rfl, rfl, ?_⟩
                 exact HR11.out.three (HZ.out _ HB11.out) (by have := HZ0.out; omega) (by omega)
end Ver
end Go.Proofs.YtgmnhdkdicgkcaaGreatDoor
