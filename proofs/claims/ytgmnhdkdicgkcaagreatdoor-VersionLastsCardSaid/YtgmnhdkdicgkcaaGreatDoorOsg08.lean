/- Parts of the proof, one behind the other: Contract: version.Apply.; The reference's Apply: rows of files whose bytes are the input's or one's own; dropping and putting in, plainly.; Contract: the reference's Apply.; Contract: the reference's SameFile.; Contract: the reference's SameFiles.; Contract: the reference's SameState.; The law VersionApplies, walked. -/
import Derived.Test.YtgmnhdkdicgkcaaGreatDoorOsg07
import Derived.Test.YtgmnhdkdicgkcaaGreatDoorOrg38
namespace Go.Proofs.YtgmnhdkdicgkcaaGreatDoor
open Go.RowKit Go.Maps
open Lib (hid)
namespace Ver
theorem heap3v {w : World} {g : Nat} {x y z a b c : Value} {T : TypeId} (h : w.heap[g]? = some (.cells #[x, y, z] T)) : (((w.setCell ⟨g, 0, none⟩ a).setCell ⟨g, 1, none⟩ b).setCell ⟨g, 2, none⟩ c).heap[g]? = some (.cells #[a, b, c] T) := by
 have h1 := heap_setCell_same w g 0 _ T a h
 have h2 := heap_setCell_same _ g 1 _ T b h1
 have h3 := heap_setCell_same _ g 2 _ T c h2
 simpa using h3
def isN (n : Int) (v : Vf) : Bool := decide (v.number = n)
theorem drop1_idx (n : Int) (l : List Vf) : (idx (isN n) l < 0 → drop1 n (l.map Vf.fi) = none) ∧ (∀ i : Nat, idx (isN n) l = (i : Int) → i < l.length ∧ drop1 n (l.map Vf.fi) = some ((l.take i ++ l.drop (i + 1)).map Vf.fi)) := by
 have ha : (l.map Vf.fi).any (fun f => f.number == n) = l.any (isN n) := by rw [List.any_map]; rfl
 have he : (l.map Vf.fi).eraseP (fun f => f.number == n) = (l.eraseP (isN n)).map Vf.fi := by rw [List.eraseP_map]; rfl
 have h9 := idx_any (isN n) l
 refine ⟨fun h => ?_, fun i h => ?_⟩
 · unfold drop1
   rw [ha, ← h9, decide_eq_false (by omega)]
   rfl
 · have hb := (idx_bd (isN n) l).2
   refine ⟨by omega, ?_⟩
   unfold drop1
   rw [ha, ← h9, decide_eq_true (by omega), if_pos rfl, he, List.eraseP_eq_eraseIdx]
   unfold idx at h
   cases hf : l.findIdx? (isN n) with
   | none => rw [hf] at h; simp only at h; omega
   | some j =>
     rw [hf] at h
     simp only at h
     have hji : j = i := by omega
     subst hji
     simp only
     rw [List.eraseIdx_eq_take_drop_succ]
set_option maxHeartbeats 1000000 in
set_option maxRecDepth 100000 in
theorem apply1_any (v : Vf) (W : World) (b : Nat) (n : Int) (hb : W.heap[b]? = some (.cells #[.int .i64 n] 3)) :
   Calls Tryz.prog 40 #[v.val, .pointer (some ⟨b, 0, none⟩)] W fun e W' => e = .returned (.bool (isN n v)) ∧ Below W.heap.size W W' := by
 obtain ⟨nu, lv, FA, fc, fi, LA, lc, la, lo, hi⟩ := v
 simp only [Vf.val]
 have hlt := (Array.getElem?_eq_some_iff.1 hb).1
 have hy : ∀ O, (W.alloc O).cell? ⟨b, 0, none⟩ = some (.int .i64 n) := fun O => by
   rw [((Below.refl W.heap.size W).alloc (o := O) (Nat.le_refl _)).cell (p := ⟨b, 0, none⟩) hlt]
   exact box_cell hb
 clear hb
 go_enter Tryz.func40, Tryz.ntmps40
 go_wp2_with fail
 go_ret
 exact ⟨rfl, (Below.refl _ _).alloc (Nat.le_refl _) _⟩
def SaysAp (w : World) (p : Int × Ss) (r : Ending) (w' : World) : Prop := Below w.heap.size w w' ∧ ∃ A c l, r = .returned (.tuple #[.agg #[.slice A l.length c, .int .i64 p.2.log, .int .i64 p.2.next], .int .i64 p.1]) ∧ l.map Vf.fi = p.2.files ∧ OwV w' w.heap.size A c l
set_option maxHeartbeats 4000000 in
set_option maxRecDepth 100000 in
theorem apply_any (sA : Option Addr) (sc : Nat) (sl : List Vf) (slog snext : Int) (e : Ev) (w : World) (hs : RdV w w.heap.size sA sl) (he : EvOk w w.heap.size e) (hsl : sl.length ≤ 1000000) (hal : e.add.length ≤ 1000000) (hdl : e.drop.length ≤ 1000000) :
   Calls Tryz.prog 11 #[.agg #[.slice sA sl.length sc, .int .i64 slog, .int .i64 snext], e.val] w (SaysAp w (apply ⟨sl.map Vf.fi, slog, snext⟩ e.ed)) := by
 obtain ⟨p, hp⟩ : ∃ p, p = apply ⟨sl.map Vf.fi, slog, snext⟩ e.ed := ⟨_, rfl⟩
 rw [← hp]
 obtain ⟨ev, hev⟩ : ∃ ev, ev = e := ⟨_, rfl⟩
 obtain ⟨W0, hW0⟩ : ∃ W0, W0 = ((w.alloc (.cells #[.slice sA sl.length sc, .int .i64 slog, .int .i64 snext] 24)).alloc e.obj).alloc (.cells #[.slice none 0 0, .int .i64 0, .int .i64 0] 24) := ⟨_, rfl⟩
 have hz0 : W0.heap.size = w.heap.size + 1 + 1 + 1 := by rw [hW0]; simp
 have hb0 : Below w.heap.size w W0 := by rw [hW0]; exact (((Below.refl _ _).alloc (Nat.le_refl _) _).alloc (by simp) _).alloc (by simp <;> omega) _
 have hx0 : W0.heap[w.heap.size]? = some (.cells #[.slice sA sl.length sc, .int .i64 slog, .int .i64 snext] 24) := by
   rw [hW0, Below.heap_alloc _ _ _ (by simp <;> omega), Below.heap_alloc _ _ _ (by simp)]
   exact heap_alloc_new w _
 have hx1 : W0.heap[w.heap.size + 1]? = some e.obj := by
   rw [hW0, Below.heap_alloc _ _ _ (by simp)]
   have := heap_alloc_new (w.alloc (.cells #[.slice sA sl.length sc, .int .i64 slog, .int .i64 snext] 24)) e.obj
   simpa using this
 have hx2 : W0.heap[w.heap.size + 1 + 1]? = some (.cells #[.slice none 0 0, .int .i64 0, .int .i64 0] 24) := by
   rw [hW0]
   have := heap_alloc_new ((w.alloc (.cells #[.slice sA sl.length sc, .int .i64 slog, .int .i64 snext] 24)).alloc e.obj) (.cells #[.slice none 0 0, .int .i64 0, .int .i64 0] 24)
   simpa using this
 have HS := hid (hs.keep hb0)
 have HE0 := hid (he.keep hb0)
 have HB0 := hid hb0
 have HZ0 := hid hz0
 have HZ : Hid (∀ X, Below W0.heap.size W0 X → X.heap[w.heap.size + 1 + 1]? = some (.cells #[.slice none 0 0, .int .i64 0, .int .i64 0] 24)) := hid (fun X hX => (hX.block _ (by omega)).trans hx2)
 have HZF : Hid (∀ X, Below W0.heap.size W0 X → X.cell? ⟨w.heap.size + 1 + 1, 0, none⟩ = some (.slice none 0 0) ∧ X.cell? ⟨w.heap.size + 1 + 1, 1, none⟩ = some (.int .i64 0) ∧ X.cell? ⟨w.heap.size + 1 + 1, 2, none⟩ = some (.int .i64 0) ∧ X.frozen? ⟨w.heap.size + 1 + 1, 0, none⟩ = false ∧ X.frozen? ⟨w.heap.size + 1 + 1, 1, none⟩ = false ∧ X.frozen? ⟨w.heap.size + 1 + 1, 2, none⟩ = false) := hid (fun X hX => by
   have h := HZ.out X hX
   exact ⟨by rw [cell_of_row X _ 0 _ _ (0, 0) h]; rfl, by rw [cell_of_row X _ 1 _ _ (0, 0) h]; rfl, by rw [cell_of_row X _ 2 _ _ (0, 0) h]; rfl, frozen_of_row X _ 0 _ _ h, frozen_of_row X _ 1 _ _ h, frozen_of_row X _ 2 _ _ h⟩)
 have KR := hid (right_any sA sc sl slog snext W0 (hs.keep hb0) hsl)
 have KE : Hid (∀ X, Below W0.heap.size W0 X → Calls Tryz.prog 37 #[e.val] X fun r w' => r = .returned (.bool (okE e.ed)) ∧ Below X.heap.size X w') := hid (fun X hX => rightEdit_any e X (HE0.out.keep hX) hal hdl)
 have HP := hid hp
 obtain ⟨r1, hr1⟩ : ∃ r1, r1 = right ⟨sl.map Vf.fi, slog, snext⟩ := ⟨_, rfl⟩
 obtain ⟨r2, hr2⟩ : ∃ r2, r2 = okE e.ed := ⟨_, rfl⟩
 rw [← hr1] at KR
 rw [← hr2] at KE
 have HR1 := hid hr1
 have HR2 := hid hr2
 obtain ⟨EA, ec, add, DA, dc, drop, log, next⟩ := e
 have HYS : Hid (∀ X, Below W0.heap.size W0 X → (X.cell? ⟨w.heap.size, 0, none⟩ = some (.slice sA sl.length sc) ∧ X.cell? ⟨w.heap.size, 1, none⟩ = some (.int .i64 slog) ∧ X.cell? ⟨w.heap.size, 2, none⟩ = some (.int .i64 snext)) ∧ X.cell? ⟨w.heap.size + 1, 0, none⟩ = some (.slice EA add.length ec) ∧ X.cell? ⟨w.heap.size + 1, 1, none⟩ = some (.slice DA drop.length dc) ∧ X.cell? ⟨w.heap.size + 1, 2, none⟩ = some (.int .i64 log) ∧ X.cell? ⟨w.heap.size + 1, 3, none⟩ = some (.int .i64 next)) := hid (fun X hX => by
   have h := (hX.block _ (by omega)).trans hx0
   have h1 := (hX.block _ (by omega)).trans hx1
   unfold Ev.obj at h1
   exact ⟨⟨by rw [cell_of_row X _ 0 _ _ (0, 0) h]; rfl, by rw [cell_of_row X _ 1 _ _ (0, 0) h]; rfl, by rw [cell_of_row X _ 2 _ _ (0, 0) h]; rfl⟩, by rw [cell_of_row X _ 0 _ _ (0, 0) h1]; rfl, by rw [cell_of_row X _ 1 _ _ (0, 0) h1]; rfl, by rw [cell_of_row X _ 2 _ _ (0, 0) h1]; rfl, by rw [cell_of_row X _ 3 _ _ (0, 0) h1]; rfl⟩)
 have HEV := hid hev
 simp only [Ev.val, Ev.obj] at hW0 KE hal hdl ⊢
 rw [hW0] at KR
 have HW0 := hid hW0
 clear hp hs he hb0 hx0 hx1 hx2 hr1 hr2 hz0 hev hW0
 go_enter Tryz.func11, Tryz.ntmps11
 go_wp2_with fail
 refine KR.out.mono ?_
 rw [← HW0.out]
 rintro r w1 ⟨rfl, hb1⟩
 obtain ⟨⟨s0, s1, s2⟩, e0, e1, e2, e3⟩ := HYS.out w1 hb1
 have HB1 := hid hb1
 have hwz : w.heap.size ≤ w.heap.size := Nat.le_refl _
 clear KR hb1
 rcases r1 with _ | _
 · have HEQ : Hid (p = (1, none0)) := hid (by rw [HP.out]; unfold apply; rw [if_pos (.inl HR1.out.symm)])
   obtain ⟨z0, z1, z2, g0, g1, g2⟩ := HZF.out w1 HB1.out
   have HBX := hid (HB1.out)
   go_wp2_with fail
   refine bodyPost_ret (results_c2v rfl _ _ (w.heap.size + 1 + 1) 24 #[.slice none 0 0, .int .i64 0, .int .i64 0] (0, 0) _ rfl (heap3v (HZ.out _ HBX.out)) Tryz.underlying24 rfl state_size) rfl ?_
   rw [HEQ.out]
   exact ⟨(((HB0.out.trans (HBX.out.mono HB0.out.size)).setCell (show w.heap.size ≤ w.heap.size + 1 + 1 by omega) _).setCell (show w.heap.size ≤ w.heap.size + 1 + 1 by omega) _).setCell (show w.heap.size ≤ w.heap.size + 1 + 1 by omega) _, none, 0, [], rfl, rfl, OwV.nil _ _⟩
 have K1 := hid (KE.out w1 HB1.out)
 go_wp2_with fail
 refine K1.out.mono ?_
 rintro r w2 ⟨rfl, hb2⟩
 have HB2 := hid (HB1.out.trans (hb2.mono HB1.out.size))
 clear hb2 K1 KE s0 s1 s2 e0 e1 e2 e3
 rcases r2 with _ | _
 · have HEQ : Hid (p = (1, none0)) := hid (by rw [HP.out]; unfold apply; rw [if_pos (.inr HR2.out.symm)])
   obtain ⟨z0, z1, z2, g0, g1, g2⟩ := HZF.out w2 HB2.out
   have HBX := hid (HB2.out)
   go_wp2_with fail
   refine bodyPost_ret (results_c2v rfl _ _ (w.heap.size + 1 + 1) 24 #[.slice none 0 0, .int .i64 0, .int .i64 0] (0, 0) _ rfl (heap3v (HZ.out _ HBX.out)) Tryz.underlying24 rfl state_size) rfl ?_
   rw [HEQ.out]
   exact ⟨(((HB0.out.trans (HBX.out.mono HB0.out.size)).setCell (show w.heap.size ≤ w.heap.size + 1 + 1 by omega) _).setCell (show w.heap.size ≤ w.heap.size + 1 + 1 by omega) _).setCell (show w.heap.size ≤ w.heap.size + 1 + 1 by omega) _, none, 0, [], rfl, rfl, OwV.nil _ _⟩
 have hgd := right_good HR1.out.symm
 obtain ⟨⟨x1, x2, x3, x4, x5, x6⟩, x7, x8⟩ := okE_bd HR2.out.symm
 have HGD := hid hgd
 have hsl5 : sl.length ≤ 50 := by simpa using hgd.2.1
 have hal5 : add.length ≤ 50 := by simpa [Ev.ed] using x1
 have KC := hid (vcopied_any sl sA sc w2 ((HS.out.below HB2.out (Nat.le_refl _)).more HB2.out.size) hsl (fun v hv => by
   have := okF_bd (hgd.1.ok v.fi (List.mem_map_of_mem hv)).1
   have h1 : v.fi.first = v.first := rfl
   have h2 : v.fi.last = v.last := rfl
   rw [h1, h2] at this
   omega))
 have HAB : Hid (∀ v ∈ add, v.first.length ≤ 1000000 ∧ v.last.length ≤ 1000000) := hid (fun v hv => by
   have := okF_bd (x7 v.fi (List.mem_map_of_mem hv))
   have h1 : v.fi.first = v.first := rfl
   have h2 : v.fi.last = v.last := rfl
   rw [h1, h2] at this
   omega)
 have HDB := hid x8
 obtain ⟨⟨s0, s1, s2⟩, e0, e1, e2, e3⟩ := HYS.out w2 HB2.out
 clear hgd x1 x2 x3 x4 x5 x6 x7 x8
 go_wp2_with fail
 refine KC.out.mono ?_
 rintro r w3 ⟨A, c, l, rfl, hlf, how, hb3⟩
 have HB3 := hid (HB2.out.trans (hb3.mono HB2.out.size))
 have HOW := hid (how.mono HB2.out.size)
 have HLF : Hid (l.map Vf.fi = sl.map Vf.fi) := hid hlf
 have HLL : Hid (l.length = sl.length) := hid (by have := congrArg List.length hlf; simpa using this)
 clear how hb3 KC hlf s0 s1 s2 e0 e1 e2 e3
 obtain ⟨⟨s0, s1, s2⟩, e0, e1, e2, e3⟩ := HYS.out w3 HB3.out
 go_wp2_with fail
 go_loopw [6, 26] (fun x y wr => ∃ (k c : Nat) (A : Option Addr) (l : List Vf), x = .slice A l.length c ∧ y = .int .i64 (k : Int) ∧ k ≤ drop.length ∧ l.length ≤ 50 ∧ Hid (OwV wr W0.heap.size A c l) ∧ Hid (Below W0.heap.size W0 wr) ∧ Hid (dropAll drop (sl.map Vf.fi) = dropAll (drop.drop k) (l.map Vf.fi))) (fun _ y _ => drop.length - (intOf y).toNat)
 case atStart => exact ⟨0, c, A, l, rfl, rfl, by omega, by have := HLL.out; omega, HOW, HB3, hid (by rw [HLF.out]; rfl)⟩
 case round =>
   clear HOW HLF HLL s0 s1 s2 e0 e1 e2 e3
   obtain ⟨k, c, A, l, rfl, rfl, hk, hl5, HOW, HBR, HDA⟩ := hrel
   by_cases hlt : k < drop.length
   · have hlt' : (k : Int) < (drop.length : Int) := by omega
     have hk0 : (0 : Int) ≤ (k : Int) := by omega
     obtain ⟨b, off, hA, hb, hc⟩ := RdS.row (f := Sto.I1) (n := 1) (fun _ => rfl) (by omega) ((HE0.out.drop.below HBR.out (Nat.le_refl _)).more HBR.out.size) (by show 0 < drop.length; omega)
     have c0 := hc k hlt 0 _ rfl
     rw [Nat.add_zero, Nat.mul_one] at c0
     have HDK : Hid (drop.drop k = drop[k] :: drop.drop (k + 1)) := hid (List.drop_eq_getElem_cons hlt)
     simp only at c0 hA
     obtain ⟨n, hn⟩ : ∃ n, n = drop[k] := ⟨_, rfl⟩
     rw [← hn] at c0 HDK
     subst hA
     obtain ⟨x3, hx3⟩ : ∃ x3, x3 = wr.alloc (.cells #[.int .i64 n] 3) := ⟨_, rfl⟩
     have hbx : Below wr.heap.size wr x3 := by rw [hx3]; exact (Below.refl _ _).alloc (Nat.le_refl _) _
     have hxn : x3.heap[wr.heap.size]? = some (.cells #[.int .i64 n] 3) := by rw [hx3]; exact heap_alloc_new wr _
     have KI := hid (index_any 40 [.pointer (some ⟨wr.heap.size, 0, none⟩)] (isN n) A c l x3 (HOW.out.below hbx).rd (by omega) (fun v _ W hW => apply1_any v W wr.heap.size n ((hW.block _ (Array.getElem?_eq_some_iff.1 hxn).1).trans hxn)) (fun _ _ => rfl))
     have HBX3 := hid (HBR.out.trans (hbx.mono HBR.out.size))
     have HOX := hid (HOW.out.below hbx)
     rw [hx3] at KI
     have HX3 := hid hx3
     clear hc hn hbx hxn hx3
     go_wp2_with fail
     refine KI.out.mono ?_
     rw [← HX3.out]
     rintro r w4 ⟨rfl, hb4⟩
     have HB4 := hid (HBX3.out.trans (hb4.mono HBX3.out.size))
     have HO4 := hid (HOX.out.below hb4)
     have hbd := idx_bd (isN n) l
     have HID := hid (drop1_idx n l)
     obtain ⟨ix, hix⟩ : ∃ ix, ix = idx (isN n) l := ⟨_, rfl⟩
     rw [← hix] at hbd HID ⊢
     clear hb4 hix KI HX3 HOX
     by_cases hneg : ix < 0
     · have HEQ : Hid (p = (4, none0)) := hid (by
         have h1 := HID.out.1 hneg
         rw [HP.out]
         unfold apply
         rw [if_neg (by rw [← HR1.out, ← HR2.out]; simp)]
         show (match dropAll drop (sl.map Vf.fi) with | none => _ | some l => _) = _
         rw [HDA.out, HDK.out]
         unfold dropAll
         rw [h1])
       obtain ⟨z0, z1, z2, g0, g1, g2⟩ := HZF.out w4 HB4.out
       have HBX := hid (HB4.out)
       go_wp2_with fail
       refine bodyPost_ret (results_c2v rfl _ _ (w.heap.size + 1 + 1) 24 #[.slice none 0 0, .int .i64 0, .int .i64 0] (0, 0) _ rfl (heap3v (HZ.out _ HBX.out)) Tryz.underlying24 rfl state_size) rfl ?_
       rw [HEQ.out]
       exact ⟨(((HB0.out.trans (HBX.out.mono HB0.out.size)).setCell (show w.heap.size ≤ w.heap.size + 1 + 1 by omega) _).setCell (show w.heap.size ≤ w.heap.size + 1 + 1 by omega) _).setCell (show w.heap.size ≤ w.heap.size + 1 + 1 by omega) _, none, 0, [], rfl, rfl, OwV.nil _ _⟩
     · obtain ⟨i, rfl⟩ := Int.eq_ofNat_of_zero_le (show 0 ≤ ix by omega)
       obtain ⟨h1, h2⟩ := HID.out.2 i rfl
       obtain ⟨N, hN⟩ : ∃ N, l.length = N + 1 := ⟨l.length - 1, by omega⟩
       obtain ⟨g, cur, hA, _, _, _⟩ := HO4.out.row.form (by omega)
       subst hA
       have KD := hid (Sym.delete_any w4 W0.heap.size g c l i N HO4.out hN (by omega) (by omega) HB4.out.size)
       have HLN : Hid ((l.take i ++ l.drop (i + 1)).length = N) := hid (by rw [List.length_append, List.length_take, List.length_drop, hN]; omega)
       have HDA2 : Hid (dropAll drop (sl.map Vf.fi) = dropAll (drop.drop (k + 1)) ((l.take i ++ l.drop (i + 1)).map Vf.fi)) := hid (by
         rw [HDA.out, HDK.out]
         conv => lhs; unfold dropAll
         rw [h2])
       have hnn : ¬ (i : Int) < 0 := by omega
       have hN5 : N ≤ 50 := by omega
       rw [hN]
       clear hN h1 h2 hneg
       go_wp2_with fail
       refine KD.out.mono ?_
       rintro r w5 ⟨rfl, ho5, hb5⟩
       have HO5 := hid ho5
       have HB5 := hid (HB4.out.trans hb5)
       clear ho5 hb5 KD
       go_wp2_with fail
       exact ⟨⟨k + 1, c, _, l.take i ++ l.drop (i + 1), by rw [HLN.out], by simp, hlt, by rw [HLN.out]; exact hN5, HO5, HB5, HDA2⟩, by simp only [intOf]; omega⟩
   · have hlt' : ¬ (k : Int) < (drop.length : Int) := by omega
     have HDL : Hid (dropAll drop (sl.map Vf.fi) = some (l.map Vf.fi)) := hid (by
       rw [HDA.out, List.drop_eq_nil_of_le (by omega)]
       rfl)
     obtain ⟨⟨s0, s1, s2⟩, e0, e1, e2, e3⟩ := HYS.out wr HBR.out
     have HPL : Hid (p = if 50 < l.length + add.length then (2, none0) else if log < slog ∨ next < snext ∨ right ⟨insAll (l.map Vf.fi) (add.map Vf.fi), log, next⟩ = false then (10, none0) else (0, ⟨insAll (l.map Vf.fi) (add.map Vf.fi), log, next⟩)) := hid (by
       rw [HP.out]
       unfold apply
       rw [if_neg (by rw [← HR1.out, ← HR2.out]; simp)]
       show (match dropAll drop (sl.map Vf.fi) with | none => _ | some l => _) = _
       rw [HDL.out]
       simp only [Ev.ed, List.length_map]
       rfl)
     have HSRD : Hid (Srd (l.map Vf.fi)) := hid (dropAll_good drop _ _ HGD.out.1 HDL.out).1.sto.srd
     clear HDA
     by_cases hbig : 50 < l.length + add.length
     · have hbig' : (50 : Int) < (l.length : Int) + (add.length : Int) := by omega
       have HEQ : Hid (p = (2, none0)) := hid (by rw [HPL.out, if_pos hbig])
       clear s0 s1 s2 e0 e1 e2 e3
       obtain ⟨⟨s0, s1, s2⟩, e0, e1, e2, e3⟩ := HYS.out wr HBR.out
       obtain ⟨z0, z1, z2, g0, g1, g2⟩ := HZF.out wr HBR.out
       have HBX := hid (HBR.out)
       go_wp2_with fail
       refine bodyPost_ret (results_c2v rfl _ _ (w.heap.size + 1 + 1) 24 #[.slice none 0 0, .int .i64 0, .int .i64 0] (0, 0) _ rfl (heap3v (HZ.out _ HBX.out)) Tryz.underlying24 rfl state_size) rfl ?_
       rw [HEQ.out]
       exact ⟨(((HB0.out.trans (HBX.out.mono HB0.out.size)).setCell (show w.heap.size ≤ w.heap.size + 1 + 1 by omega) _).setCell (show w.heap.size ≤ w.heap.size + 1 + 1 by omega) _).setCell (show w.heap.size ≤ w.heap.size + 1 + 1 by omega) _, none, 0, [], rfl, rfl, OwV.nil _ _⟩
     · have hbig' : ¬ (50 : Int) < (l.length : Int) + (add.length : Int) := by omega
       have KC2 := hid (vcopied_any add EA ec wr ((HE0.out.add.below HBR.out (Nat.le_refl _)).more HBR.out.size) (by show add.length ≤ 1000000; omega) HAB.out)
       go_wp2_with fail
       refine KC2.out.mono ?_
       rintro r w6 ⟨A2, c2, l2, rfl, hlf2, how2, hb6⟩
       have HB6 := hid (HBR.out.trans (hb6.mono HBR.out.size))
       have HO6 := hid (HOW.out.below hb6)
       have HO2 := hid (how2.mono HBR.out.size)
       have HL2 : Hid (l2.map Vf.fi = add.map Vf.fi) := hid hlf2
       have hl2 : l2.length ≤ 50 := by
         have h9 := congrArg List.length hlf2
         rw [List.length_map, List.length_map] at h9
         omega
       have hbs6 : W0.heap.size ≤ w6.heap.size := HB6.out.size
       clear hb6 how2 hlf2 KC2 s0 s1 s2 e0 e1 e2 e3
       go_wp2_with (at_builtin; (refine wpList_append_s _ rfl _ _ vfT rfl W0.heap.size A c l rfl HO6.out.row w6.heap.size A2 l2.length c2 l2 rfl rfl HO2.out.row.rd (by omega) (by unfold maxLen; omega) hbs6 ?_; intro A3 c3 L3 w8 hl3 ho3 hg3 hat3))
       have hl3 : L3 = l ++ l2 := hl3
       subst hl3
       have HO8 : Hid (OwV w8 W0.heap.size A3 c3 (l ++ l2)) := hid (HO6.out.app hg3 ho3 (fun v hv => HO2.out.own v hv))
       have HB8 : Hid (Below W0.heap.size W0 w8) := hid (below_grow HB6.out hg3 (fun q hq => (HO6.out.row.blk_ge q hq).1) hbs6)
       have hll8 : (l ++ l2).length ≤ 1000000 := by rw [List.length_append]; omega
       have KS := hid (Sym.sortStable_any w8 W0.heap.size A3 c3 (l ++ l2) HO8.out hll8 HB8.out.size)
       have HPM : Hid ((insAll (l.map Vf.fi) (add.map Vf.fi)).Perm ((l ++ l2).map Vf.fi) ∧ Srd (insAll (l.map Vf.fi) (add.map Vf.fi))) := hid ⟨by rw [List.map_append, HL2.out]; exact insAll_perm _ _, insAll_srd _ _ HSRD.out⟩
       obtain ⟨L8, hL8⟩ : ∃ L8, L8 = l ++ l2 := ⟨_, rfl⟩
       have hla : l.length + l2.length = (l ++ l2).length := (List.length_append ..).symm
       rw [hla, ← hL8]
       rw [← hL8] at KS HPM hll8
       unfold Sym.plF at KS
       clear ho3 hg3 hat3 hL8 HO8 hla
       refine KS.out.mono ?_
       rintro r w9 ⟨rfl, l3, hn3, ho9, hpm, hsd, _, hb9⟩
       have HB9 := hid (HB8.out.trans hb9)
       have HO9 := hid ho9
       have HRT := hid (right_perm (X := l3.map Vf.fi) (Y := insAll (l.map Vf.fi) (add.map Vf.fi)) (log := log) (next := next) hsd HPM.out.2 (hpm.trans HPM.out.1.symm))
       have hl39 : l3.length ≤ 1000000 := by omega
       rw [← hn3]
       have HHE : Hid (p = if log < slog ∨ next < snext ∨ right ⟨insAll (l.map Vf.fi) (add.map Vf.fi), log, next⟩ = false then (10, none0) else (0, ⟨insAll (l.map Vf.fi) (add.map Vf.fi), log, next⟩)) := hid (by rw [HPL.out, if_neg hbig])
       clear hb9 ho9 hpm hsd hn3 KS hbig hbig'
       obtain ⟨w10, hw10⟩ : ∃ w10, w10 = w9.alloc (.cells #[.slice A3 l3.length c3, .int .i64 log, .int .i64 next] 24) := ⟨_, rfl⟩
       have hb10 : Below w9.heap.size w9 w10 := by rw [hw10]; exact (Below.refl _ _).alloc (Nat.le_refl _) _
       have hx10 : w10.heap[w9.heap.size]? = some (.cells #[.slice A3 l3.length c3, .int .i64 log, .int .i64 next] 24) := by rw [hw10]; exact heap_alloc_new w9 _
       have HB10 := hid (HB9.out.trans (hb10.mono HB9.out.size))
       have HO10 := hid (HO9.out.below hb10)
       have KR3 := hid (right_any A3 c3 l3 log next w10 HO10.out.rd hl39)
       have HX10 := hid hx10
       obtain ⟨⟨s0, s1, s2⟩, e0, e1, e2, e3⟩ := HYS.out w9 HB9.out
       obtain ⟨⟨t0, t1, t2⟩, i0, i1, i2, i3⟩ := HYS.out w10 HB10.out
       obtain ⟨z0, z1, z2, g0, g1, g2⟩ := HZF.out w10 HB10.out
       have HW10 := hid hw10
       rw [hw10] at t0 t1 t2 i0 i1 i2 i3 z0 z1 z2 g0 g1 g2 KR3
       clear hw10 hb10 hx10
       by_cases h1 : log < slog
       · have HEQ : Hid (p = (10, none0)) := hid (by rw [HHE.out, if_pos (.inl h1)])
         have h1' : decide (log < slog) = true := decide_eq_true h1
         have HBX := HB10
         go_wp2_with fail
         rw [← HW10.out]
         refine bodyPost_ret (results_c2v rfl _ _ (w.heap.size + 1 + 1) 24 #[.slice none 0 0, .int .i64 0, .int .i64 0] (0, 0) _ rfl (heap3v (HZ.out _ HBX.out)) Tryz.underlying24 rfl state_size) rfl ?_
         rw [HEQ.out]
         exact ⟨(((HB0.out.trans (HBX.out.mono HB0.out.size)).setCell (show w.heap.size ≤ w.heap.size + 1 + 1 by omega) _).setCell (show w.heap.size ≤ w.heap.size + 1 + 1 by omega) _).setCell (show w.heap.size ≤ w.heap.size + 1 + 1 by omega) _, none, 0, [], rfl, rfl, OwV.nil _ _⟩
       · have h1' : decide (log < slog) = false := decide_eq_false h1
         by_cases h2 : next < snext
         · have HEQ : Hid (p = (10, none0)) := hid (by rw [HHE.out, if_pos (.inr (.inl h2))])
           have h2' : decide (next < snext) = true := decide_eq_true h2
           have HBX := HB10
           go_wp2_with fail
           rw [← HW10.out]
           refine bodyPost_ret (results_c2v rfl _ _ (w.heap.size + 1 + 1) 24 #[.slice none 0 0, .int .i64 0, .int .i64 0] (0, 0) _ rfl (heap3v (HZ.out _ HBX.out)) Tryz.underlying24 rfl state_size) rfl ?_
           rw [HEQ.out]
           exact ⟨(((HB0.out.trans (HBX.out.mono HB0.out.size)).setCell (show w.heap.size ≤ w.heap.size + 1 + 1 by omega) _).setCell (show w.heap.size ≤ w.heap.size + 1 + 1 by omega) _).setCell (show w.heap.size ≤ w.heap.size + 1 + 1 by omega) _, none, 0, [], rfl, rfl, OwV.nil _ _⟩
         · have h2' : decide (next < snext) = false := decide_eq_false h2
           obtain ⟨r3, hr3⟩ : ∃ r3, r3 = right ⟨l3.map Vf.fi, log, next⟩ := ⟨_, rfl⟩
           rw [← hr3] at KR3
           have HR3 := hid hr3
           clear hr3
           go_wp2_with fail
           refine KR3.out.mono ?_
           rw [← HW10.out]
           rintro r w11 ⟨rfl, hb11⟩
           have HB11 := hid (HB10.out.trans (hb11.mono HB10.out.size))
           have HO11 := hid (HO10.out.below hb11)
           have hx11 := (hb11.block _ (Array.getElem?_eq_some_iff.1 HX10.out).1).trans HX10.out
           clear t0 t1 t2 i0 i1 i2 i3 z0 z1 z2 g0 g1 g2 s0 s1 s2 e0 e1 e2 e3 hb11 KR3
           rcases r3 with _ | _
           · have HEQ : Hid (p = (10, none0)) := hid (by rw [HHE.out, if_pos (.inr (.inr (by rw [← HRT.out.1]; exact HR3.out.symm)))])
             clear hx11
             obtain ⟨z0, z1, z2, g0, g1, g2⟩ := HZF.out w11 HB11.out
             have HBX := hid (HB11.out)
             go_wp2_with fail
             refine bodyPost_ret (results_c2v rfl _ _ (w.heap.size + 1 + 1) 24 #[.slice none 0 0, .int .i64 0, .int .i64 0] (0, 0) _ rfl (heap3v (HZ.out _ HBX.out)) Tryz.underlying24 rfl state_size) rfl ?_
             rw [HEQ.out]
             exact ⟨(((HB0.out.trans (HBX.out.mono HB0.out.size)).setCell (show w.heap.size ≤ w.heap.size + 1 + 1 by omega) _).setCell (show w.heap.size ≤ w.heap.size + 1 + 1 by omega) _).setCell (show w.heap.size ≤ w.heap.size + 1 + 1 by omega) _, none, 0, [], rfl, rfl, OwV.nil _ _⟩
           · have HLE : Hid (l3.map Vf.fi = insAll (l.map Vf.fi) (add.map Vf.fi)) := hid (HRT.out.2 HR3.out.symm)
             have HEQ : Hid (p = (0, ⟨l3.map Vf.fi, log, next⟩)) := hid (by rw [HHE.out, if_neg (by rw [← HRT.out.1, ← HR3.out]; simp [h1, h2]), HLE.out])
             obtain ⟨q0, q1, q2⟩ : w11.cell? ⟨w9.heap.size, 0, none⟩ = some (.slice A3 l3.length c3) ∧ w11.cell? ⟨w9.heap.size, 1, none⟩ = some (.int .i64 log) ∧ w11.cell? ⟨w9.heap.size, 2, none⟩ = some (.int .i64 next) := ⟨by rw [cell_of_row w11 _ 0 _ _ (0, 0) hx11]; rfl, by rw [cell_of_row w11 _ 1 _ _ (0, 0) hx11]; rfl, by rw [cell_of_row w11 _ 2 _ _ (0, 0) hx11]; rfl⟩
             clear hx11
             obtain ⟨z0, z1, z2, g0, g1, g2⟩ := HZF.out w11 HB11.out
             go_wp2_with fail
             refine bodyPost_ret (results_c2v rfl _ _ (w.heap.size + 1 + 1) 24 #[.slice A3 l3.length c3, .int .i64 log, .int .i64 next] (0, 0) _ rfl (heap3v (HZ.out _ HB11.out)) Tryz.underlying24 rfl state_size) rfl ?_
             rw [HEQ.out]
             refine ⟨(((HB0.out.trans (HB11.out.mono HB0.out.size)).setCell (show w.heap.size ≤ w.heap.size + 1 + 1 by omega) _).setCell (show w.heap.size ≤ w.heap.size + 1 + 1 by omega) _).setCell (show w.heap.size ≤ w.heap.size + 1 + 1 by omega) _, A3, c3, l3, rfl, rfl, ?_⟩
             have hz := HZ0.out
             refine (HO11.out.keep (by simp [World.setCell]) (fun q e => ?_)).mono (by omega)
             have hq := (owV_lt HO11.out e).1
             have n1 : q ≠ w.heap.size + 1 + 1 := by omega
             rw [Below.heap_setCell _ _ _ _ n1, Below.heap_setCell _ _ _ _ n1, Below.heap_setCell _ _ _ _ n1]
end Ver
namespace Ver
def VfR (w : World) (base : Nat) (v : Vf) : Prop := VfOk w base v ∨ VfOwn w base v
structure Rw (w : World) (base rb : Nat) (A : Option Addr) (c : Nat) (l : List Vf) : Prop where
 row : OwnS Vf.cells 6 w rb 43 A c l
 el : ∀ v ∈ l, VfR w base v
 le : base ≤ rb
 sz : rb ≤ w.heap.size
section
variable {w w' : World} {base rb rb' c c' : Nat} {A A' : Option Addr} {l l' : List Vf} {v : Vf}
theorem VfR.rd (h : VfR w base v) (hb : base ≤ w.heap.size) : VfOk w w.heap.size v := h.elim (fun h => h.more hb) (fun h => h.rd)
theorem VfR.below (h : VfR w base v) (hb : Below w.heap.size w w') (hs : base ≤ w.heap.size) : VfR w' base v := h.elim (fun h => .inl (h.below hb hs)) (fun h => .inr (h.below hb))
theorem Rw.rd (h : Rw w base rb A c l) : RdV w w.heap.size A l := ⟨h.row.rd, fun v hv => (h.el v hv).rd (Nat.le_trans h.le h.sz)⟩
theorem Rw.below (h : Rw w base rb A c l) (hb : Below w.heap.size w w') : Rw w' base rb A c l := ⟨h.row.below hb, fun v hv => (h.el v hv).below hb (Nat.le_trans h.le h.sz), h.le, Nat.le_trans h.sz hb.size⟩
theorem VfR.grown {g : Option Nat} (h : VfR w base v) (hg : w.grownBy w' g) (hs : base ≤ w.heap.size) (hr : ∀ q, g = some q → base ≤ q ∧ Sto.Tag w q 43) : VfR w' base v := by
 rcases h with h | h
 · refine .inl (h.below (D := base) ?_ (Nat.le_refl _))
   exact (Below.refl base w).grown hg hs (fun q hq => (hr q hq).1)
 · refine .inr (h.keep hg.size (fun q e => hg.block q (h.at_ e).2.lt (fun e2 => ?_)))
   exact ((h.at_ e).2.ne (hr q e2.symm).2 (by decide)) rfl
theorem Rw.grown_at (h : OwnS Vf.cells 6 w rb 43 A c l) (hb : base ≤ rb) : ∀ q, blk A = some q → base ≤ q ∧ Sto.Tag w q 43 := fun q e => ⟨Nat.le_trans hb (h.blk_ge q e).1, Sto.ownTagS h e⟩
theorem Rw.app (h : Rw w base rb A c l) (hg : w.grownBy w' (blk A)) (ho : OwnS Vf.cells 6 w' rb 43 A' c' (l ++ l')) (hl : ∀ v ∈ l', VfR w base v) : Rw w' base rb A' c' (l ++ l') := by
 have hs := Nat.le_trans h.le h.sz
 have hr := Rw.grown_at h.row h.le
 refine ⟨ho, fun v hv => ?_, h.le, Nat.le_trans h.sz hg.size⟩
 rcases List.mem_append.1 hv with hv | hv
 · exact (h.el v hv).grown hg hs hr
 · exact (hl v hv).grown hg hs hr
theorem Rw.other {A2 : Option Addr} {rb2 c2 : Nat} {l2 : List Vf} (h : Rw w base rb A c l) (hg : w.grownBy w' (blk A2)) (h2 : OwnS Vf.cells 6 w rb2 43 A2 c2 l2) (hb2 : base ≤ rb2) (hne : ∀ q, blk A = some q → q < rb2) : Rw w' base rb A c l := by
 have hs := Nat.le_trans h.le h.sz
 have hr := Rw.grown_at h2 hb2
 refine ⟨h.row.kept hg ?_, fun v hv => (h.el v hv).grown hg hs hr, h.le, Nat.le_trans h.sz hg.size⟩
 cases hA : blk A with
 | none => exact .inl rfl
 | some q =>
   refine .inr (fun e => ?_)
   have h1 := hne q hA
   have h3 := (h2.blk_ge q e.symm).1
   omega
theorem Rw.mono (h : Rw w base rb A c l) (hb : rb' ≤ rb) (h2 : base ≤ rb') : Rw w base rb' A c l := ⟨h.row.mono hb, h.el, h2, Nat.le_trans hb h.sz⟩
theorem Rw.nil (w : World) (base rb : Nat) (h1 : base ≤ rb) (h2 : rb ≤ w.heap.size) : Rw w base rb none 0 [] := ⟨OwnS.nil _ _ _, (fun _ h => by cases h), h1, h2⟩
end
theorem own_files0 (w : World) (rb : Nat) (h : rb ≤ w.heap.size) : OwnS Vf.cells 6 (w.alloc (.cells #[] 43)) rb 43 (some ⟨w.heap.size, 0, none⟩) 0 [] := World.ownsRow_lit (e := 43) (size := 6) w #[] 0 h (by unfold maxLen; omega) rfl
def notN (n : Int) (v : Vf) : Bool := !(isN n v)
theorem erase_filter2 (n : Int) : ∀ l : List Fi, l.Pairwise (fun a b => a.number ≠ b.number) → l.eraseP (fun f => f.number == n) = l.filter (fun f => !(f.number == n))
 | [], _ => rfl
 | f :: r, h => by
   obtain ⟨h1, h2⟩ := List.pairwise_cons.1 h
   cases hf : (f.number == n) with
   | true =>
     rw [List.eraseP_cons_of_pos (by simpa using hf), List.filter_cons_of_neg (by simp [hf])]
     symm
     rw [List.filter_eq_self]
     intro a ha
     have hn : f.number = n := by simpa using hf
     have := h1 a ha
     simp
     intro e
     exact this (by rw [hn, e])
   | false =>
     rw [List.eraseP_cons_of_neg (by simp [hf]), List.filter_cons_of_pos (by simp [hf]), erase_filter2 n r h2]
theorem drop1_notN (n : Int) (l : List Vf) (h : (l.map Vf.fi).Pairwise (fun a b => a.number ≠ b.number)) : ((l.filter (notN n)).length = l.length → drop1 n (l.map Vf.fi) = none) ∧ ((l.filter (notN n)).length ≠ l.length → drop1 n (l.map Vf.fi) = some ((l.filter (notN n)).map Vf.fi)) := by
 have ha : (l.map Vf.fi).any (fun f => f.number == n) = l.any (isN n) := by rw [List.any_map]; rfl
 have hf : (l.map Vf.fi).filter (fun f => !(f.number == n)) = (l.filter (notN n)).map Vf.fi := by rw [List.filter_map]; rfl
 unfold drop1
 rw [ha, erase_filter2 n _ h, hf]
 refine ⟨fun he => ?_, fun he => ?_⟩
 · have h1 := List.filter_eq_self.1 (List.Sublist.eq_of_length (List.filter_sublist (p := notN n) (l := l)) he)
   rw [if_neg]
   rw [Bool.not_eq_true, List.any_eq_false]
   intro x hx
   have := h1 x hx
   unfold notN at this
   simpa using this
 · rw [if_pos]
   cases hc : l.any (isN n) with
   | true => rfl
   | false =>
     exfalso
     apply he
     rw [List.filter_eq_self.2]
     intro x hx
     have := List.any_eq_false.1 hc x hx
     unfold notN
     simpa using this
theorem ins_at (f : Fi) : ∀ (l : List Fi) (k : Nat), k ≤ l.length → (∀ x ∈ l.take k, before f x = false) → (k = l.length ∨ ∃ h : k < l.length, before f l[k] = true) → ins f l = l.take k ++ f :: l.drop k
 | [], k, hk, _, _ => by
   have : k = 0 := by simpa using hk
   subst this
   rfl
 | g :: r, 0, _, _, h2 => by
   rcases h2 with h2 | ⟨_, h2⟩
   · simp at h2
   · unfold ins
     rw [if_pos (by simpa using h2)]
     rfl
 | g :: r, k + 1, hk, h1, h2 => by
   have hg : before f g = false := h1 g (by simp)
   unfold ins
   rw [if_neg (by rw [hg]; simp), ins_at f r k (by simpa using hk) (fun x hx => h1 x (by simp [hx])) (h2.elim (fun h => .inl (by simpa using h)) (fun ⟨h, h3⟩ => .inr ⟨by simpa using h, by simpa using h3⟩))]
   rfl
end Ver
namespace Ver
section
variable {P : Program} {ops : Array Oper} {S : World → Prop} {o : Oper} {a : Act} {v : Value}
theorem yields_of1 (x : Operand) (vx : Value) (hw : Region.wanted o (yielded ops a.tmps) = true) (hx : a.eval x = vx)
   (h : ∀ (E : Operand → Value) (w : World), S w → (∀ c, E (.const c) = c) → E x = vx → (execOp E o).run P w = .ok (.value v) w) : YieldsIf P ops S o v a :=
 .inl ⟨hw, fun w hs => h a.eval w hs (fun _ => rfl) hx⟩
theorem yields_of2 (x y : Operand) (vx vy : Value) (hw : Region.wanted o (yielded ops a.tmps) = true) (hx : a.eval x = vx) (hy : a.eval y = vy)
   (h : ∀ (E : Operand → Value) (w : World), S w → (∀ c, E (.const c) = c) → E x = vx → E y = vy → (execOp E o).run P w = .ok (.value v) w) : YieldsIf P ops S o v a :=
 .inl ⟨hw, fun w hs => h a.eval w hs (fun _ => rfl) hx hy⟩
theorem step_of2 {K : Act → World → Prop} {Q : Exit → Act → World → Prop} {w : World} {E : Prop} (x y : Operand) (vx vy v : Value) (hw : Region.wanted o (yielded ops a.tmps) = true) (hx : a.eval x = vx) (hy : a.eval y = vy)
   (h : ∀ E : Operand → Value, (∀ c, E (.const c) = c) → E x = vx → E y = vy → (execOp E o).run P w = .ok (.value v) w) (hk : K (a.put o.dst v) w) : if Region.wanted o (yielded ops a.tmps) = true then Oper.wp P o a w K Q else E := by
 rw [if_pos hw]
 unfold Oper.wp
 rw [h a.eval (fun _ => rfl) hx hy]
 exact hk
end
theorem Rw.three {w : World} {base rb c g : Nat} {A : Option Addr} {l : List Vf} {cs : Array Value} {x y z : Value} (h : Rw w base rb A c l) (hg : w.heap[g]? = some (.cells cs 24)) (h1 : g < rb) (h2 : base ≤ g) :
   RdV (((w.setCell ⟨g, 0, none⟩ x).setCell ⟨g, 1, none⟩ y).setCell ⟨g, 2, none⟩ z) (((w.setCell ⟨g, 0, none⟩ x).setCell ⟨g, 1, none⟩ y).setCell ⟨g, 2, none⟩ z).heap.size A l := by
 obtain ⟨W, hW⟩ : ∃ W, W = ((w.setCell ⟨g, 0, none⟩ x).setCell ⟨g, 1, none⟩ y).setCell ⟨g, 2, none⟩ z := ⟨_, rfl⟩
 rw [← hW]
 have hz : W.heap.size = w.heap.size := by rw [hW]; simp [World.setCell]
 have hk : ∀ q, q ≠ g → W.heap[q]? = w.heap[q]? := fun q hq => by
   rw [hW, Below.heap_setCell _ _ _ _ hq, Below.heap_setCell _ _ _ _ hq, Below.heap_setCell _ _ _ _ hq]
 have hb : Below base w W := by
   rw [hW]
   exact (((Below.refl _ _).setCell (show base ≤ g from h2) _).setCell (show base ≤ g from h2) _).setCell (show base ≤ g from h2) _
 have ht : Sto.Tag w g 24 := ⟨_, _, hg⟩
 refine ⟨(h.row.keep (fun q e => hk q (by have := (h.row.blk_ge q e).1; omega))).rd, fun v hv => ?_⟩
 rcases h.el v hv with h3 | h3
 · exact (h3.below hb (Nat.le_refl _)).more (by rw [hz]; exact Nat.le_trans h.le h.sz)
 · exact (h3.keep (by omega) (fun q e => hk q ((h3.at_ e).2.ne ht (by decide)))).rd
end Ver
namespace Ver
def fiE (a b : Fi) : Bool := a.number == b.number && (a.level == b.level && (a.first == b.first && (a.last == b.last && (a.low == b.low && a.high == b.high))))
theorem fiE_iff {a b : Fi} : fiE a b = true ↔ a = b := by
 obtain ⟨a1, a2, a3, a4, a5, a6⟩ := a
 obtain ⟨b1, b2, b3, b4, b5, b6⟩ := b
 simp [fiE]
theorem fiE_refl (a : Fi) : fiE a a = true := fiE_iff.2 rfl
def fisE : List Fi → List Fi → Bool
 | [], [] => true
 | a :: l, b :: m => fiE a b && fisE l m
 | _, _ => false
theorem fisE_refl : ∀ l : List Fi, fisE l l = true
 | [] => rfl
 | a :: l => by unfold fisE; rw [fiE_refl, fisE_refl l]; rfl
theorem fisE_len : ∀ l m : List Fi, l.length ≠ m.length → fisE l m = false
 | [], [], h => absurd rfl h
 | [], _ :: _, _ => rfl
 | _ :: _, [], _ => rfl
 | a :: l, b :: m, h => by unfold fisE; rw [fisE_len l m (by simpa using h)]; simp
theorem fisE_step {l m : List Fi} {k : Nat} (hl : k < l.length) (hm : k < m.length) : fisE (l.drop k) (m.drop k) = (fiE l[k] m[k] && fisE (l.drop (k + 1)) (m.drop (k + 1))) := by
 rw [List.drop_eq_getElem_cons hl, List.drop_eq_getElem_cons hm]
 rfl
theorem fi_ne {a b : Fi} (h : a.number ≠ b.number ∨ a.level ≠ b.level ∨ a.first ≠ b.first ∨ a.last ≠ b.last ∨ a.low ≠ b.low ∨ a.high ≠ b.high) : fiE a b = false := by
 cases hq : fiE a b with
 | false => rfl
 | true =>
   have e := fiE_iff.1 hq
   subst e
   simp at h
theorem fi_eq {n1 n2 v1 v2 lo1 lo2 hi1 hi2 : Int} {f1 f2 l1 l2 : List UInt8} (h1 : n1 = n2) (h2 : v1 = v2) (h3 : f1 = f2) (h4 : l1 = l2) (h5 : lo1 = lo2) (h6 : hi1 = hi2) : fiE ⟨n1, v1, f1, l1, lo1, hi1⟩ ⟨n2, v2, f2, l2, lo2, hi2⟩ = true := by
 rw [h1, h2, h3, h4, h5, h6]
 exact fiE_refl _
set_option maxHeartbeats 4000000 in
set_option maxRecDepth 100000 in
theorem rsameFile_any (u v : Vf) (w : World) (hu : VfOk w w.heap.size u) (hv : VfOk w w.heap.size v) : Calls Tryz.prog 59 #[u.val, v.val] w fun e w' => e = .returned (.bool (fiE u.fi v.fi)) ∧ Below w.heap.size w w' := by
 obtain ⟨n1, v1, FA1, fc1, f1, LA1, lc1, l1, lo1, hi1⟩ := u
 obtain ⟨n2, v2, FA2, fc2, f2, LA2, lc2, l2, lo2, hi2⟩ := v
 unfold Vf.val Vf.fi
 obtain ⟨q, hq⟩ : ∃ q, q = fiE ⟨n1, v1, f1, l1, lo1, hi1⟩ ⟨n2, v2, f2, l2, lo2, hi2⟩ := ⟨_, rfl⟩
 simp only
 rw [← hq]
 obtain ⟨O, hO⟩ : ∃ O : Obj, Obj.cells #[.int .i64 n1, .int .i64 v1, .slice FA1 f1.length fc1, .slice LA1 l1.length lc1, .int .i64 lo1, .int .i64 hi1] 43 = O := ⟨_, rfl⟩
 obtain ⟨U, hU⟩ : ∃ U : Obj, Obj.cells #[.int .i64 n2, .int .i64 v2, .slice FA2 f2.length fc2, .slice LA2 l2.length lc2, .int .i64 lo2, .int .i64 hi2] 43 = U := ⟨_, rfl⟩
 have hb : Below w.heap.size w ((w.alloc O).alloc U) := ((Below.refl _ _).alloc (Nat.le_refl _) O).alloc (by simp) U
 obtain ⟨X, hX⟩ : ∃ X : ByteArray, (⟨f1.toArray⟩ : ByteArray) = X := ⟨_, rfl⟩
 obtain ⟨Y, hY⟩ : ∃ Y : ByteArray, (⟨f2.toArray⟩ : ByteArray) = Y := ⟨_, rfl⟩
 obtain ⟨X2, hX2⟩ : ∃ X : ByteArray, (⟨l1.toArray⟩ : ByteArray) = X := ⟨_, rfl⟩
 obtain ⟨Y2, hY2⟩ : ∃ Y : ByteArray, (⟨l2.toArray⟩ : ByteArray) = Y := ⟨_, rfl⟩
 have c1 := strB_to (c := fc1) ((hu.below hb (Nat.le_refl _)).f) hX
 have c2 := strB_to (c := fc2) ((hv.below hb (Nat.le_refl _)).f) hY
 have c3 := strB_to (c := lc1) ((hu.below hb (Nat.le_refl _)).l) hX2
 have c4 := strB_to (c := lc2) ((hv.below hb (Nat.le_refl _)).l) hY2
 have HE1 := hid (less_to hX hY).2
 have HE2 := hid (less_to hX2 hY2).2
 have HB := hid hb
 rw [← hO, ← hU] at HB c1 c2 c3 c4
 have HQ := hid hq
 clear hO hU hb hX hY hX2 hY2 hu hv hq
 go_enter Tryz.func59, Tryz.ntmps59
 by_cases x1 : n1 = n2
 rotate_left
 · have y1 : (n1 == n2) = false := by simpa using x1
   have HE : Hid (q = false) := hid (by rw [HQ.out]; exact fi_ne (.inl x1))
   clear x1
   go_wp2_with fail
   go_ret
   exact ⟨ret_q HE.out.symm, HB.out⟩
 have y1 : (n1 == n2) = true := by simpa using x1
 have H1 := hid x1
 clear x1
 by_cases x2 : v1 = v2
 rotate_left
 · have y2 : (v1 == v2) = false := by simpa using x2
   have HE : Hid (q = false) := hid (by rw [HQ.out]; exact fi_ne (.inr (.inl x2)))
   clear x2
   go_wp2_with fail
   go_ret
   exact ⟨ret_q HE.out.symm, HB.out⟩
 have y2 : (v1 == v2) = true := by simpa using x2
 have H2 := hid x2
 clear x2
 cases y3 : (X.toList == Y.toList) with
 | false =>
   have HE : Hid (q = false) := hid (by rw [HQ.out]; exact fi_ne (.inr (.inr (.inl (by have h := HE1.out; rw [y3] at h; simpa using h.symm)))))
   go_wp2_with fail
   go_ret
   exact ⟨ret_q HE.out.symm, HB.out⟩
 | true =>
   have H3 : Hid (f1 = f2) := hid (by have h := HE1.out; rw [y3] at h; simpa using h.symm)
   cases y4 : (X2.toList == Y2.toList) with
   | false =>
     have HE : Hid (q = false) := hid (by rw [HQ.out]; exact fi_ne (.inr (.inr (.inr (.inl (by have h := HE2.out; rw [y4] at h; simpa using h.symm))))))
     go_wp2_with fail
     go_ret
     exact ⟨ret_q HE.out.symm, HB.out⟩
   | true =>
     have H4 : Hid (l1 = l2) := hid (by have h := HE2.out; rw [y4] at h; simpa using h.symm)
     by_cases x5 : lo1 = lo2
     rotate_left
     · have y5 : (lo1 == lo2) = false := by simpa using x5
       have HE : Hid (q = false) := hid (by rw [HQ.out]; exact fi_ne (.inr (.inr (.inr (.inr (.inl x5))))))
       clear x5
       go_wp2_with fail
       go_ret
       exact ⟨ret_q HE.out.symm, HB.out⟩
     have y5 : (lo1 == lo2) = true := by simpa using x5
     have H5 := hid x5
     clear x5
     by_cases x6 : hi1 = hi2
     · have y6 : (hi1 == hi2) = true := by simpa using x6
       have HE : Hid (q = true) := hid (by rw [HQ.out]; exact fi_eq H1.out H2.out H3.out H4.out H5.out x6)
       clear x6
       go_wp2_with fail
       go_ret
       exact ⟨ret_q HE.out.symm, HB.out⟩
     · have y6 : (hi1 == hi2) = false := by simpa using x6
       have HE : Hid (q = false) := hid (by rw [HQ.out]; exact fi_ne (.inr (.inr (.inr (.inr (.inr x6))))))
       clear x6
       go_wp2_with fail
       go_ret
       exact ⟨ret_q HE.out.symm, HB.out⟩
end Ver
namespace Ver
set_option maxHeartbeats 4000000 in
set_option maxRecDepth 400000 in
theorem rsameFiles_any (A B : Option Addr) (c d : Nat) (l m : List Vf) (w : World) (hl : RdV w w.heap.size A l) (hm : RdV w w.heap.size B m) (hll : l.length ≤ 1000000) :
   Calls Tryz.prog 18 #[.slice A l.length c, .slice B m.length d] w fun e w' => e = .returned (.bool (fisE (l.map Vf.fi) (m.map Vf.fi))) ∧ Below w.heap.size w w' := by
 have HL := hid hl
 have HM := hid hm
 obtain ⟨q, hq⟩ : ∃ q, q = fisE (l.map Vf.fi) (m.map Vf.fi) := ⟨_, rfl⟩
 rw [← hq]
 have HQ := hid hq
 clear hl hm hq
 go_enter Tryz.func18, Tryz.ntmps18
 by_cases hlm : l.length = m.length
 rotate_left
 · have y1 : ((l.length : Int) != (m.length : Int)) = true := by simp; omega
   have HE : Hid (q = false) := hid (by rw [HQ.out]; exact fisE_len _ _ (by simpa using hlm))
   clear hlm
   go_wp2_with fail
   go_ret
   exact ⟨ret_q HE.out.symm, Below.refl _ _⟩
 have y1 : ((l.length : Int) != (m.length : Int)) = false := by simp; omega
 have HLN := hid hlm
 clear hlm
 go_wp2_with fail
 clear y1
 go_loopw [5] (fun x wr => ∃ k : Nat, x = .int .i64 (k : Int) ∧ k ≤ l.length ∧ Hid (Below w.heap.size w wr) ∧ Hid (q = fisE ((l.map Vf.fi).drop k) ((m.map Vf.fi).drop k))) (fun x _ => l.length - (intOf x).toNat)
 case atStart => exact ⟨0, rfl, by omega, hid (Below.refl _ _), hid HQ.out⟩
 case round =>
   obtain ⟨k, rfl, hk, HBR, HQK⟩ := hrel
   by_cases hkl : k < l.length
   · have hkm : k < m.length := by have := HLN.out; omega
     have hkl' : (k : Int) < (l.length : Int) := by omega
     have hkm' : (k : Int) < (m.length : Int) := by omega
     have hk0 : (0 : Int) ≤ (k : Int) := by omega
     obtain ⟨eb, eoff, hA, heb, hecell, hoku⟩ := HL.out.cell hkl
     obtain ⟨fb, foff, hB, hfb, hfcell, hokv⟩ := HM.out.cell hkm
     subst hA hB
     have HST : Hid (q = (fiE l[k].fi m[k].fi && fisE ((l.map Vf.fi).drop (k + 1)) ((m.map Vf.fi).drop (k + 1)))) := hid (by
       rw [HQK.out, fisE_step (by simpa using hkl) (by simpa using hkm), List.getElem_map, List.getElem_map])
     obtain ⟨u, hu⟩ : ∃ u, u = l[k] := ⟨_, rfl⟩
     obtain ⟨v, hv⟩ : ∃ v, v = m[k] := ⟨_, rfl⟩
     rw [← hu] at hecell hoku HST
     rw [← hv] at hfcell hokv HST
     obtain ⟨bl, hbl⟩ : ∃ bl, bl = fiE u.fi v.fi := ⟨_, rfl⟩
     rw [← hbl] at HST
     have HBL := hid hbl
     have HS3 : Hid (∀ X, Below wr.heap.size wr X → X.rangeAt eb (eoff + k * 6) u.cells ∧ X.rangeAt fb (foff + k * 6) v.cells) := hid (fun X hX => by
       have hX0 := HBR.out.trans (hX.mono HBR.out.size)
       exact ⟨fun j y hy => (hX0.cell (p := ⟨eb, eoff + k * 6 + j, none⟩) heb).trans (hecell j y hy), fun j y hy => (hX0.cell (p := ⟨fb, foff + k * 6 + j, none⟩) hfb).trans (hfcell j y hy)⟩)
     have KB : Hid (∀ X, Below wr.heap.size wr X → Calls Tryz.prog 59 #[.agg u.cells.toArray, .agg v.cells.toArray] X fun e w' => e = .returned (.bool bl) ∧ Below X.heap.size X w') := hid (fun X hX => by
       have hX0 := HBR.out.trans (hX.mono HBR.out.size)
       rw [hbl]
       exact rsameFile_any u v X ((hoku.below hX0 (Nat.le_refl _)).more hX0.size) ((hokv.below hX0 (Nat.le_refl _)).more hX0.size))
     clear hecell hoku hfcell hokv hu hv hbl heb hfb
     go_upto_region 6 with fail
     go_cut [6] from 12 to 28 (fun x wx => x = .bool bl ∧ Hid (Below wr.heap.size wr wx))
     case first =>
       obtain ⟨V, hV⟩ : ∃ V, V = wr.drew := ⟨_, rfl⟩
       have hbV : Below wr.heap.size wr V := by rw [hV]; exact ⟨rfl, rfl, rfl, Nat.le_refl _, fun _ _ => rfl⟩
       have hy := HS3.out V hbV
       have KP := hid (KB.out V hbV)
       have HRG : Hid (∀ X, Below V.heap.size V X → X.rangeAt eb (eoff + k * 6) u.cells ∧ X.rangeAt fb (foff + k * 6) v.cells) := hid (fun X hX => HS3.out X (hbV.trans (hX.mono hbV.size)))
       have HBV := hid hbV
       have n1 : u.cells.length = 6 := rfl
       have n2 : v.cells.length = 6 := rfl
       clear KB HS3 hbV HBL
       generalize u.cells = cI at hy KP n1 HRG
       generalize v.cells = cJ at hy KP n2 HRG
       refine wp_region_E 9 (fun X => X.rangeAt eb (eoff + k * 6) cI ∧ X.rangeAt fb (foff + k * 6) cJ) (by kernel_rfl) ?_
       rw [← hV]
       clear hV
       refine wTs [] (i := 0) (v := .slice (some ⟨eb, eoff, none⟩) l.length c) rfl (yields_of1 (.tmp 0) (.slice (some ⟨eb, eoff, none⟩) l.length c) (by rfl) (by rfl) ?_) hy ?_
       · intro E wy hSw hc q1
         go_simp
       try simp only [List.getElem_toArray, List.getElem_cons_zero, Act.put, List.setIfInBounds_toArray, List.set_cons_succ, List.set_cons_zero]
       refine wTs [] (i := 1) (v := .int .i64 (k : Int)) rfl (yields_of1 (.tmp 5) (.int .i64 (k : Int)) (by rfl) (by rfl) ?_) hy ?_
       · intro E wy hSw hc q1
         go_simp
       try simp only [List.getElem_toArray, List.getElem_cons_succ, List.getElem_cons_zero, Act.put, List.setIfInBounds_toArray, List.set_cons_succ, List.set_cons_zero]
       refine wTs [] (i := 2) (v := .pointer (some ⟨eb, eoff + k * 6, none⟩)) rfl (yields_of2 (.tmp 18) (.tmp 19) (.slice (some ⟨eb, eoff, none⟩) l.length c) (.int .i64 (k : Int)) (by rfl) (by rfl) (by rfl) ?_) hy ?_
       · intro E wy hSw hc q1 q2
         go_simp
       try simp only [List.getElem_toArray, List.getElem_cons_succ, List.getElem_cons_zero, Act.put, List.setIfInBounds_toArray, List.set_cons_succ, List.set_cons_zero]
       refine wpAnyE_takes [] (i := 3) rfl (by kernel_rfl) (by kernel_rfl) (by kernel_rfl) (by kernel_rfl) (by kernel_rfl) (fun _ _ _ h => h) (yieldsIf_load_mid (by rfl) 43 (.tmp 20) rfl eb (eoff + k * 6) (by rfl) cI _ (fun X hX => hX.1) Tryz.underlying43 rfl (by rw [show (Tryz.prog.info? 43).map (·.size) = some 6 from Sym.file_size]; exact congrArg some (Eq.symm (by assumption)))) hy ?_
       try simp only [List.getElem_toArray, List.getElem_cons_succ, List.getElem_cons_zero, Act.put, List.setIfInBounds_toArray, List.set_cons_succ, List.set_cons_zero]
       refine wTs [] (i := 4) (v := .slice (some ⟨fb, foff, none⟩) m.length d) rfl (yields_of1 (.tmp 1) (.slice (some ⟨fb, foff, none⟩) m.length d) (by rfl) (by rfl) ?_) hy ?_
       · intro E wy hSw hc q1
         go_simp
       try simp only [List.getElem_toArray, List.getElem_cons_succ, List.getElem_cons_zero, Act.put, List.setIfInBounds_toArray, List.set_cons_succ, List.set_cons_zero]
       refine wTs [] (i := 5) (v := .int .i64 (k : Int)) rfl (yields_of1 (.tmp 5) (.int .i64 (k : Int)) (by rfl) (by rfl) ?_) hy ?_
       · intro E wy hSw hc q1
         go_simp
       try simp only [List.getElem_toArray, List.getElem_cons_succ, List.getElem_cons_zero, Act.put, List.setIfInBounds_toArray, List.set_cons_succ, List.set_cons_zero]
       refine wTs [] (i := 6) (v := .pointer (some ⟨fb, foff + k * 6, none⟩)) rfl (yields_of2 (.tmp 22) (.tmp 23) (.slice (some ⟨fb, foff, none⟩) m.length d) (.int .i64 (k : Int)) (by rfl) (by rfl) (by rfl) ?_) hy ?_
       · intro E wy hSw hc q1 q2
         go_simp
       try simp only [List.getElem_toArray, List.getElem_cons_succ, List.getElem_cons_zero, Act.put, List.setIfInBounds_toArray, List.set_cons_succ, List.set_cons_zero]
       refine wpAnyE_takes [] (i := 7) rfl (by kernel_rfl) (by kernel_rfl) (by kernel_rfl) (by kernel_rfl) (by kernel_rfl) (fun _ _ _ h => h) (yieldsIf_load_mid (by rfl) 43 (.tmp 24) rfl fb (foff + k * 6) (by rfl) cJ _ (fun X hX => hX.2) Tryz.underlying43 rfl (by rw [show (Tryz.prog.info? 43).map (·.size) = some 6 from Sym.file_size]; exact congrArg some (Eq.symm (by assumption)))) hy ?_
       try simp only [List.getElem_toArray, List.getElem_cons_succ, List.getElem_cons_zero, Act.put, List.setIfInBounds_toArray, List.set_cons_succ, List.set_cons_zero]
       refine wpAnyE_one (i := 8) (by kernel_rfl) rfl (fun K hK => ?_)
       refine Sym.step_callf2_dv (by rfl) (some 26) (by rfl) (.func 59) (.tmp 21) (.tmp 25) (by rfl) (by rfl) (.agg cI.toArray) (.agg cJ.toArray) rfl rfl (enters_of Tryz.func59 (by kernel_rfl) rfl) _ KP.out ?_
       rintro e w5 ⟨rfl, hl⟩
       have HL5 := hid (HBV.out.trans (hl.mono HBV.out.size))
       have hy5 := HRG.out w5 hl
       refine ⟨_, rfl, ?_⟩
       refine hK _ _ hy5 ?_
       clear hK K hl hy KP
       refine wpAnyE_last (by kernel_rfl) (by kernel_rfl) rfl (fun K hK => ?_)
       go_simp
       refine hK _ _ ?_
       clear hK
       go_wp2_with fail
       go_meet
       exact ⟨rfl, HL5⟩
     case rest =>
       obtain ⟨rfl, HBX⟩ := hcut
       have HBY := hid (HBR.out.trans (HBX.out.mono HBR.out.size))
       rcases bl with _ | _
       · have HE : Hid (q = false) := hid (by rw [HST.out]; rfl)
         go_wp2_with fail
         go_ret
         exact ⟨ret_q HE.out.symm, HBY.out⟩
       · have HE : Hid (q = fisE ((l.map Vf.fi).drop (k + 1)) ((m.map Vf.fi).drop (k + 1))) := hid (by rw [HST.out]; rfl)
         go_wp2_with fail
         exact ⟨⟨k + 1, by simp, hkl, HBY, HE⟩, by simp only [intOf]; omega⟩
   · have hkl' : ¬ (k : Int) < (l.length : Int) := by omega
     have HE : Hid (q = true) := hid (by
       have h1 := HLN.out
       rw [HQK.out, List.drop_eq_nil_of_le (by rw [List.length_map]; omega), List.drop_eq_nil_of_le (by rw [List.length_map]; omega)]
       rfl)
     go_wp2_with fail
     go_ret
     exact ⟨ret_q HE.out.symm, HBR.out⟩
end Ver
namespace Ver
def ssE (a b : Ss) : Bool := fisE a.files b.files && (a.log == b.log && a.next == b.next)
theorem ssE_refl (a : Ss) : ssE a a = true := by unfold ssE; rw [fisE_refl]; simp
set_option maxHeartbeats 4000000 in
set_option maxRecDepth 400000 in
theorem rsameState_any (A B : Option Addr) (c d : Nat) (l m : List Vf) (g1 g2 n1 n2 : Int) (w : World) (hl : RdV w w.heap.size A l) (hm : RdV w w.heap.size B m) (hll : l.length ≤ 1000000) :
   Calls Tryz.prog 13 #[.agg #[.slice A l.length c, .int .i64 g1, .int .i64 n1], .agg #[.slice B m.length d, .int .i64 g2, .int .i64 n2]] w fun e w' => e = .returned (.bool (ssE ⟨l.map Vf.fi, g1, n1⟩ ⟨m.map Vf.fi, g2, n2⟩)) ∧ Below w.heap.size w w' := by
 obtain ⟨W, hW⟩ : ∃ W, W = (w.alloc (.cells #[.slice A l.length c, .int .i64 g1, .int .i64 n1] 24)).alloc (.cells #[.slice B m.length d, .int .i64 g2, .int .i64 n2] 24) := ⟨_, rfl⟩
 have hb : Below w.heap.size w W := by rw [hW]; exact ((Below.refl _ _).alloc (Nat.le_refl _) _).alloc (by simp) _
 have hx0 : W.heap[w.heap.size]? = some (.cells #[.slice A l.length c, .int .i64 g1, .int .i64 n1] 24) := by
   rw [hW, Below.heap_alloc _ _ _ (by simp)]
   exact heap_alloc_new w _
 have hx1 : W.heap[w.heap.size + 1]? = some (.cells #[.slice B m.length d, .int .i64 g2, .int .i64 n2] 24) := by
   rw [hW]
   have := heap_alloc_new (w.alloc (.cells #[.slice A l.length c, .int .i64 g1, .int .i64 n1] 24)) (.cells #[.slice B m.length d, .int .i64 g2, .int .i64 n2] 24)
   simpa using this
 have HX : Hid (∀ X, Below W.heap.size W X → (X.cell? ⟨w.heap.size, 0, none⟩ = some (.slice A l.length c) ∧ X.cell? ⟨w.heap.size, 1, none⟩ = some (.int .i64 g1) ∧ X.cell? ⟨w.heap.size, 2, none⟩ = some (.int .i64 n1)) ∧ X.cell? ⟨w.heap.size + 1, 0, none⟩ = some (.slice B m.length d) ∧ X.cell? ⟨w.heap.size + 1, 1, none⟩ = some (.int .i64 g2) ∧ X.cell? ⟨w.heap.size + 1, 2, none⟩ = some (.int .i64 n2)) := hid (fun X hX => by
   have h0 := (hX.block _ (Array.getElem?_eq_some_iff.1 hx0).1).trans hx0
   have h1 := (hX.block _ (Array.getElem?_eq_some_iff.1 hx1).1).trans hx1
   exact ⟨⟨by rw [cell_of_row X _ 0 _ _ (0, 0) h0]; rfl, by rw [cell_of_row X _ 1 _ _ (0, 0) h0]; rfl, by rw [cell_of_row X _ 2 _ _ (0, 0) h0]; rfl⟩, by rw [cell_of_row X _ 0 _ _ (0, 0) h1]; rfl, by rw [cell_of_row X _ 1 _ _ (0, 0) h1]; rfl, by rw [cell_of_row X _ 2 _ _ (0, 0) h1]; rfl⟩)
 have KS := hid (rsameFiles_any A B c d l m W (hl.keep hb) (hm.keep hb) hll)
 obtain ⟨q, hq⟩ : ∃ q, q = fisE (l.map Vf.fi) (m.map Vf.fi) := ⟨_, rfl⟩
 obtain ⟨r, hr⟩ : ∃ r, r = ssE ⟨l.map Vf.fi, g1, n1⟩ ⟨m.map Vf.fi, g2, n2⟩ := ⟨_, rfl⟩
 rw [← hr]
 unfold ssE at hr
 simp only at hr
 rw [← hq] at KS hr
 have HR := hid hr
 have HB := hid hb
 have HW := hid hW
 rw [hW] at KS
 obtain ⟨⟨a0, a1, a2⟩, b0, b1, b2⟩ := HX.out W (Below.refl _ _)
 rw [hW] at a0 a1 a2 b0 b1 b2
 clear hl hm hll hb hx0 hx1 hq hr hW
 go_enter Tryz.func13, Tryz.ntmps13
 go_wp2_with fail
 refine KS.out.mono ?_
 rw [← HW.out]
 rintro e w1 ⟨rfl, hb1⟩
 dsimp only
 have HB1 := hid (HB.out.trans (hb1.mono HB.out.size))
 clear a0 a1 a2 b0 b1 b2
 obtain ⟨⟨a0, a1, a2⟩, b0, b1, b2⟩ := HX.out w1 hb1
 clear hb1 KS
 rcases q with _ | _
 · have HE : Hid (r = false) := hid (by rw [HR.out]; rfl)
   go_wp2_with fail
   go_ret
   exact ⟨ret_q HE.out.symm, HB1.out⟩
 by_cases x1 : g1 = g2
 rotate_left
 · have y1 : (g1 == g2) = false := by simpa using x1
   have HE : Hid (r = false) := hid (by rw [HR.out, y1]; rfl)
   clear x1
   go_wp2_with fail
   go_ret
   exact ⟨ret_q HE.out.symm, HB1.out⟩
 have y1 : (g1 == g2) = true := by simpa using x1
 clear x1
 by_cases x2 : n1 = n2
 · have y2 : (n1 == n2) = true := by simpa using x2
   have HE : Hid (r = true) := hid (by rw [HR.out, y1, y2]; rfl)
   clear x2
   go_wp2_with fail
   go_ret
   exact ⟨ret_q HE.out.symm, HB1.out⟩
 · have y2 : (n1 == n2) = false := by simpa using x2
   have HE : Hid (r = false) := hid (by rw [HR.out, y1, y2]; rfl)
   clear x2
   go_wp2_with fail
   go_ret
   exact ⟨ret_q HE.out.symm, HB1.out⟩
end Ver
namespace Ver
theorem apply_len (s : Ss) (e : Ed) : (apply s e).2.files.length ≤ 1000000 := by
 unfold apply
 split
 · exact Nat.zero_le _
 · split
   · exact Nat.zero_le _
   · rename_i l _
     split
     · exact Nat.zero_le _
     · rename_i h
       split
       · exact Nat.zero_le _
       · have h1 := (insAll_perm e.add l).length_eq
         rw [List.length_append] at h1
         show (insAll l e.add).length ≤ 1000000
         omega
theorem fewV_len {l : List Vf} (h : fewV l = true) : l.length ≤ 100 := by
 unfold fewV at h
 rw [Bool.and_eq_true] at h
 exact of_decide_eq_true h.1
end Ver
end Go.Proofs.YtgmnhdkdicgkcaaGreatDoor
