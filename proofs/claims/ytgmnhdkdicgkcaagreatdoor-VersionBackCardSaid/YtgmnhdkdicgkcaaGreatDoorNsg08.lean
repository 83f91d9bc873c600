/- Parts of the proof, one behind the other: Contract: version.Apply.; The reference's Apply: rows of files whose bytes are the input's or one's own; dropping and putting in, plainly.; Contract: the reference's Apply.; Contract: the reference's SameFile.; Contract: the reference's SameFiles.; Contract: the reference's SameState.; The law VersionApplies, walked. -/
import Derived.Test.YtgmnhdkdicgkcaaGreatDoorNsg07
import Derived.Test.YtgmnhdkdicgkcaaGreatDoorNrg38
import Derived.Test.YtgmnhdkdicgkcaaGreatDoorNrg30
import Derived.Test.YtgmnhdkdicgkcaaGreatDoorNsg04
import Derived.Test.YtgmnhdkdicgkcaaGreatDoorNrg24
namespace Go.Proofs.YtgmnhdkdicgkcaaGreatDoor
open Go.RowKit Go.Maps

namespace Ver
theorem heap3v {w : World} {g : Nat} {x y z a b c : Value} {T : TypeId} (h : w.heap[g]? = some (.cells #[x, y, z] T)) : (((w.setCell ⟨g, 0, none⟩ a).setCell ⟨g, 1, none⟩ b).setCell ⟨g, 2, none⟩ c).heap[g]? = some (.cells #[a, b, c] T) := by
  have h1 := heap_setCell_same w g 0 _ T a h
  have h2 := heap_setCell_same _ g 1 _ T b h1
  have h3 := heap_setCell_same _ g 2 _ T c h2
  simpa using h3
def isN (n : Int) (v : Vf) : Bool := decide (v.number = n)
theorem drop1_idx (n : Int) (l : List Vf) : (idx (isN n) l < 0 → drop1 n (l.map Vf.fi) = none) ∧ (∀ i : Nat, idx (isN n) l = (i : Int) → i < l.length ∧ drop1 n (l.map Vf.fi) = some ((l.take i ++ l.drop (i + 1)).map Vf.fi)) := by
  have ha : (l.map Vf.fi).any (fun f => f.number == n) = l.any (isN n) := by rw [List.any_map]; rfl
  have he : (l.map Vf.fi).eraseP (fun f => f.number == n) = (l.eraseP (isN n)).map Vf.fi := by rw [List.eraseP_map]; rfl
  have h9 := idx_any (isN n) l
  refine ⟨fun h => ?_, fun i h => ?_⟩
  · unfold drop1
    rw [ha, ← h9, decide_eq_false (by omega)]
    rfl
  · have hb := (idx_bd (isN n) l).2
    refine ⟨by omega, ?_⟩
    unfold drop1
    rw [ha, ← h9, decide_eq_true (by omega), if_pos rfl, he, List.eraseP_eq_eraseIdx]
    unfold idx at h
    cases hf : l.findIdx? (isN n) with
    | none => rw [hf] at h; simp only at h; omega
    | some j =>
      rw [hf] at h
      simp only at h
      have hji : j = i := by omega
      subst hji
      simp only
      rw [List.eraseIdx_eq_take_drop_succ]
set_option maxHeartbeats 1000000 in
set_option maxRecDepth 100000 in
theorem apply1_any (v : Vf) (W : World) (b : Nat) (n : Int) (hb : W.heap[b]? = some (.cells #[.int .i64 n] 3)) :
    Calls Tryz.prog 40 #[v.val, .pointer (some ⟨b, 0, none⟩)] W fun e W' => e = .returned (.bool (isN n v)) ∧ Below W.heap.size W W' := by
  obtain ⟨nu, lv, FA, fc, fi, LA, lc, la, lo, hi⟩ := v
  simp only [Vf.val]
  have hlt := (Array.getElem?_eq_some_iff.1 hb).1
  have hy : ∀ O, (W.alloc O).cell? ⟨b, 0, none⟩ = some (.int .i64 n) := fun O => by
    rw [((Below.refl W.heap.size W).alloc (o := O) (Nat.le_refl _)).cell (p := ⟨b, 0, none⟩) hlt]
    exact box_cell hb
  clear hb
  go_enter Tryz.func40, Tryz.ntmps40
  go_wp2_with fail
  go_ret
  exact ⟨rfl, (Below.refl _ _).alloc (Nat.le_refl _) _⟩
/-- What Apply says. -/
def SaysAp (w : World) (p : Int × Ss) (r : Ending) (w' : World) : Prop := Below w.heap.size w w' ∧ ∃ A c l, r = .returned (.tuple #[.agg #[.slice A l.length c, .int .i64 p.2.log, .int .i64 p.2.next], .int .i64 p.1]) ∧ l.map Vf.fi = p.2.files ∧ OwV w' w.heap.size A c l
set_option maxHeartbeats 4000000 in
set_option maxRecDepth 100000 in
theorem apply_any (sA : Option Addr) (sc : Nat) (sl : List Vf) (slog snext : Int) (e : Ev) (w : World) (hs : RdV w w.heap.size sA sl) (he : EvOk w w.heap.size e) (hsl : sl.length ≤ 1000000) (hal : e.add.length ≤ 1000000) (hdl : e.drop.length ≤ 1000000) :
    Calls Tryz.prog 11 #[.agg #[.slice sA sl.length sc, .int .i64 slog, .int .i64 snext], e.val] w (SaysAp w (apply ⟨sl.map Vf.fi, slog, snext⟩ e.ed)) := by
  obtain ⟨p, hp⟩ : ∃ p, p = apply ⟨sl.map Vf.fi, slog, snext⟩ e.ed := ⟨_, rfl⟩
  rw [← hp]
  obtain ⟨ev, hev⟩ : ∃ ev, ev = e := ⟨_, rfl⟩
  obtain ⟨W0, hW0⟩ : ∃ W0, W0 = ((w.alloc (.cells #[.slice sA sl.length sc, .int .i64 slog, .int .i64 snext] 24)).alloc e.obj).alloc (.cells #[.slice none 0 0, .int .i64 0, .int .i64 0] 24) := ⟨_, rfl⟩
  have hz0 : W0.heap.size = w.heap.size + 1 + 1 + 1 := by rw [hW0]; simp
  have hb0 : Below w.heap.size w W0 := by rw [hW0]; exact (((Below.refl _ _).alloc (Nat.le_refl _) _).alloc (by simp) _).alloc (by simp <;> omega) _
  have hx0 : W0.heap[w.heap.size]? = some (.cells #[.slice sA sl.length sc, .int .i64 slog, .int .i64 snext] 24) := by
    rw [hW0, Below.heap_alloc _ _ _ (by simp <;> omega), Below.heap_alloc _ _ _ (by simp)]
    exact heap_alloc_new w _
  have hx1 : W0.heap[w.heap.size + 1]? = some e.obj := by
    rw [hW0, Below.heap_alloc _ _ _ (by simp)]
    have := heap_alloc_new (w.alloc (.cells #[.slice sA sl.length sc, .int .i64 slog, .int .i64 snext] 24)) e.obj
    simpa using this
  have hx2 : W0.heap[w.heap.size + 1 + 1]? = some (.cells #[.slice none 0 0, .int .i64 0, .int .i64 0] 24) := by
    rw [hW0]
    have := heap_alloc_new ((w.alloc (.cells #[.slice sA sl.length sc, .int .i64 slog, .int .i64 snext] 24)).alloc e.obj) (.cells #[.slice none 0 0, .int .i64 0, .int .i64 0] 24)
    simpa using this
  have HS := Lib.hid (hs.keep hb0)
  have HE0 := Lib.hid (he.keep hb0)
  have HB0 := Lib.hid hb0
  have HZ0 := Lib.hid hz0
  have HZ : Hid (∀ X, Below W0.heap.size W0 X → X.heap[w.heap.size + 1 + 1]? = some (.cells #[.slice none 0 0, .int .i64 0, .int .i64 0] 24)) := Lib.hid (fun X hX => (hX.block _ (by omega)).trans hx2)
  have HZF : Hid (∀ X, Below W0.heap.size W0 X → X.cell? ⟨w.heap.size + 1 + 1, 0, none⟩ = some (.slice none 0 0) ∧ X.cell? ⟨w.heap.size + 1 + 1, 1, none⟩ = some (.int .i64 0) ∧ X.cell? ⟨w.heap.size + 1 + 1, 2, none⟩ = some (.int .i64 0) ∧ X.frozen? ⟨w.heap.size + 1 + 1, 0, none⟩ = false ∧ X.frozen? ⟨w.heap.size + 1 + 1, 1, none⟩ = false ∧ X.frozen? ⟨w.heap.size + 1 + 1, 2, none⟩ = false) := Lib.hid (fun X hX => by
    have h := HZ.out X hX
    exact ⟨by rw [cell_of_row X _ 0 _ _ (0, 0) h]; rfl, by rw [cell_of_row X _ 1 _ _ (0, 0) h]; rfl, by rw [cell_of_row X _ 2 _ _ (0, 0) h]; rfl, frozen_of_row X _ 0 _ _ h, frozen_of_row X _ 1 _ _ h, frozen_of_row X _ 2 _ _ h⟩)
  have KR := Lib.hid (right_any sA sc sl slog snext W0 (hs.keep hb0) hsl)
  have KE : Hid (∀ X, Below W0.heap.size W0 X → Calls Tryz.prog 37 #[e.val] X fun r w' => r = .returned (.bool (okE e.ed)) ∧ Below X.heap.size X w') := Lib.hid (fun X hX => rightEdit_any e X (HE0.out.keep hX) hal hdl)
  have HP := Lib.hid hp
  obtain ⟨r1, hr1⟩ : ∃ r1, r1 = right ⟨sl.map Vf.fi, slog, snext⟩ := ⟨_, rfl⟩
  obtain ⟨r2, hr2⟩ : ∃ r2, r2 = okE e.ed := ⟨_, rfl⟩
  rw [← hr1] at KR
  rw [← hr2] at KE
  have HR1 := Lib.hid hr1
  have HR2 := Lib.hid hr2
  obtain ⟨EA, ec, add, DA, dc, drop, log, next⟩ := e
  have HYS : Hid (∀ X, Below W0.heap.size W0 X → (X.cell? ⟨w.heap.size, 0, none⟩ = some (.slice sA sl.length sc) ∧ X.cell? ⟨w.heap.size, 1, none⟩ = some (.int .i64 slog) ∧ X.cell? ⟨w.heap.size, 2, none⟩ = some (.int .i64 snext)) ∧ X.cell? ⟨w.heap.size + 1, 0, none⟩ = some (.slice EA add.length ec) ∧ X.cell? ⟨w.heap.size + 1, 1, none⟩ = some (.slice DA drop.length dc) ∧ X.cell? ⟨w.heap.size + 1, 2, none⟩ = some (.int .i64 log) ∧ X.cell? ⟨w.heap.size + 1, 3, none⟩ = some (.int .i64 next)) := Lib.hid (fun X hX => by
    have h := (hX.block _ (by omega)).trans hx0
    have h1 := (hX.block _ (by omega)).trans hx1
    unfold Ev.obj at h1
    exact ⟨⟨by rw [cell_of_row X _ 0 _ _ (0, 0) h]; rfl, by rw [cell_of_row X _ 1 _ _ (0, 0) h]; rfl, by rw [cell_of_row X _ 2 _ _ (0, 0) h]; rfl⟩, by rw [cell_of_row X _ 0 _ _ (0, 0) h1]; rfl, by rw [cell_of_row X _ 1 _ _ (0, 0) h1]; rfl, by rw [cell_of_row X _ 2 _ _ (0, 0) h1]; rfl, by rw [cell_of_row X _ 3 _ _ (0, 0) h1]; rfl⟩)
  have HEV := Lib.hid hev
  simp only [Ev.val, Ev.obj] at hW0 KE hal hdl ⊢
  rw [hW0] at KR
  have HW0 := Lib.hid hW0
  clear hp hs he hb0 hx0 hx1 hx2 hr1 hr2 hz0 hev hW0
  go_enter Tryz.func11, Tryz.ntmps11
  go_wp2_with fail
  refine KR.out.mono ?_
  rw [← HW0.out]
  rintro r w1 ⟨rfl, hb1⟩
  obtain ⟨⟨s0, s1, s2⟩, e0, e1, e2, e3⟩ := HYS.out w1 hb1
  have HB1 := Lib.hid hb1
  have hwz : w.heap.size ≤ w.heap.size := Nat.le_refl _
  clear KR hb1
  rcases r1 with _ | _
  · have HEQ : Hid (p = (1, none0)) := Lib.hid (by rw [HP.out]; unfold apply; rw [if_pos (.inl HR1.out.symm)])
    obtain ⟨z0, z1, z2, g0, g1, g2⟩ := HZF.out w1 HB1.out
    have HBX := Lib.hid (HB1.out)
    go_wp2_with fail
    refine bodyPost_ret (results_c2v rfl _ _ (w.heap.size + 1 + 1) 24 #[.slice none 0 0, .int .i64 0, .int .i64 0] (0, 0) _ rfl (heap3v (HZ.out _ HBX.out)) Tryz.underlying24 rfl state_size) rfl ?_
    rw [HEQ.out]
    exact ⟨(((HB0.out.trans (HBX.out.mono HB0.out.size)).setCell (show w.heap.size ≤ w.heap.size + 1 + 1 by omega) _).setCell (show w.heap.size ≤ w.heap.size + 1 + 1 by omega) _).setCell (show w.heap.size ≤ w.heap.size + 1 + 1 by omega) _, none, 0, [], rfl, rfl, OwV.nil _ _⟩
  have K1 := Lib.hid (KE.out w1 HB1.out)
  go_wp2_with fail
  refine K1.out.mono ?_
  rintro r w2 ⟨rfl, hb2⟩
  have HB2 := Lib.hid (HB1.out.trans (hb2.mono HB1.out.size))
  clear hb2 K1 KE s0 s1 s2 e0 e1 e2 e3
  rcases r2 with _ | _
  · have HEQ : Hid (p = (1, none0)) := Lib.hid (by rw [HP.out]; unfold apply; rw [if_pos (.inr HR2.out.symm)])
    obtain ⟨z0, z1, z2, g0, g1, g2⟩ := HZF.out w2 HB2.out
    have HBX := Lib.hid (HB2.out)
    go_wp2_with fail
    refine bodyPost_ret (results_c2v rfl _ _ (w.heap.size + 1 + 1) 24 #[.slice none 0 0, .int .i64 0, .int .i64 0] (0, 0) _ rfl (heap3v (HZ.out _ HBX.out)) Tryz.underlying24 rfl state_size) rfl ?_
    rw [HEQ.out]
    exact ⟨(((HB0.out.trans (HBX.out.mono HB0.out.size)).setCell (show w.heap.size ≤ w.heap.size + 1 + 1 by omega) _).setCell (show w.heap.size ≤ w.heap.size + 1 + 1 by omega) _).setCell (show w.heap.size ≤ w.heap.size + 1 + 1 by omega) _, none, 0, [], rfl, rfl, OwV.nil _ _⟩
  have hgd := right_good HR1.out.symm
  obtain ⟨⟨x1, x2, x3, x4, x5, x6⟩, x7, x8⟩ := okE_bd HR2.out.symm
  have HGD := Lib.hid hgd
  have hsl5 : sl.length ≤ 50 := by simpa using hgd.2.1
  have hal5 : add.length ≤ 50 := by simpa [Ev.ed] using x1
  have KC := Lib.hid (vcopied_any sl sA sc w2 ((HS.out.below HB2.out (Nat.le_refl _)).more HB2.out.size) hsl (fun v hv => by
    have := okF_bd (hgd.1.ok v.fi (List.mem_map_of_mem hv)).1
    have h1 : v.fi.first = v.first := rfl
    have h2 : v.fi.last = v.last := rfl
    rw [h1, h2] at this
    omega))
  have HAB : Hid (∀ v ∈ add, v.first.length ≤ 1000000 ∧ v.last.length ≤ 1000000) := Lib.hid (fun v hv => by
    have := okF_bd (x7 v.fi (List.mem_map_of_mem hv))
    have h1 : v.fi.first = v.first := rfl
    have h2 : v.fi.last = v.last := rfl
    rw [h1, h2] at this
    omega)
  have HDB := Lib.hid x8
  obtain ⟨⟨s0, s1, s2⟩, e0, e1, e2, e3⟩ := HYS.out w2 HB2.out
  clear hgd x1 x2 x3 x4 x5 x6 x7 x8
  go_wp2_with fail
  refine KC.out.mono ?_
  rintro r w3 ⟨A, c, l, rfl, hlf, how, hb3⟩
  have HB3 := Lib.hid (HB2.out.trans (hb3.mono HB2.out.size))
  have HOW := Lib.hid (how.mono HB2.out.size)
  have HLF : Hid (l.map Vf.fi = sl.map Vf.fi) := Lib.hid hlf
  have HLL : Hid (l.length = sl.length) := Lib.hid (by have := congrArg List.length hlf; simpa using this)
  clear how hb3 KC hlf s0 s1 s2 e0 e1 e2 e3
  obtain ⟨⟨s0, s1, s2⟩, e0, e1, e2, e3⟩ := HYS.out w3 HB3.out
  go_wp2_with fail
  go_loopw [6, 26] (fun x y wr => ∃ (k c : Nat) (A : Option Addr) (l : List Vf), x = .slice A l.length c ∧ y = .int .i64 (k : Int) ∧ k ≤ drop.length ∧ l.length ≤ 50 ∧ Hid (OwV wr W0.heap.size A c l) ∧ Hid (Below W0.heap.size W0 wr) ∧ Hid (dropAll drop (sl.map Vf.fi) = dropAll (drop.drop k) (l.map Vf.fi))) (fun _ y _ => drop.length - (intOf y).toNat)
  case atStart => exact ⟨0, c, A, l, rfl, rfl, by omega, by have := HLL.out; omega, HOW, HB3, Lib.hid (by rw [HLF.out]; rfl)⟩
  case round =>
    clear HOW HLF HLL s0 s1 s2 e0 e1 e2 e3
    obtain ⟨k, c, A, l, rfl, rfl, hk, hl5, HOW, HBR, HDA⟩ := hrel
    by_cases hlt : k < drop.length
    · have hlt' : (k : Int) < (drop.length : Int) := by omega
      have hk0 : (0 : Int) ≤ (k : Int) := by omega
      obtain ⟨b, off, hA, hb, hc⟩ := RdS.row (f := Sto.I1) (n := 1) (fun _ => rfl) (by omega) ((HE0.out.drop.below HBR.out (Nat.le_refl _)).more HBR.out.size) (by show 0 < drop.length; omega)
      have c0 := hc k hlt 0 _ rfl
      rw [Nat.add_zero, Nat.mul_one] at c0
      have HDK : Hid (drop.drop k = drop[k] :: drop.drop (k + 1)) := Lib.hid (List.drop_eq_getElem_cons hlt)
      simp only at c0 hA
      obtain ⟨n, hn⟩ : ∃ n, n = drop[k] := ⟨_, rfl⟩
      rw [← hn] at c0 HDK
      subst hA
      obtain ⟨x3, hx3⟩ : ∃ x3, x3 = wr.alloc (.cells #[.int .i64 n] 3) := ⟨_, rfl⟩
      have hbx : Below wr.heap.size wr x3 := by rw [hx3]; exact (Below.refl _ _).alloc (Nat.le_refl _) _
      have hxn : x3.heap[wr.heap.size]? = some (.cells #[.int .i64 n] 3) := by rw [hx3]; exact heap_alloc_new wr _
      have KI := Lib.hid (index_any 40 [.pointer (some ⟨wr.heap.size, 0, none⟩)] (isN n) A c l x3 (HOW.out.below hbx).rd (by omega) (fun v _ W hW => apply1_any v W wr.heap.size n ((hW.block _ (Array.getElem?_eq_some_iff.1 hxn).1).trans hxn)) (fun _ _ => rfl))
      have HBX3 := Lib.hid (HBR.out.trans (hbx.mono HBR.out.size))
      have HOX := Lib.hid (HOW.out.below hbx)
      rw [hx3] at KI
      have HX3 := Lib.hid hx3
      clear hc hn hbx hxn hx3
      go_wp2_with fail
      refine KI.out.mono ?_
      rw [← HX3.out]
      rintro r w4 ⟨rfl, hb4⟩
      have HB4 := Lib.hid (HBX3.out.trans (hb4.mono HBX3.out.size))
      have HO4 := Lib.hid (HOX.out.below hb4)
      have hbd := idx_bd (isN n) l
      have HID := Lib.hid (drop1_idx n l)
      obtain ⟨ix, hix⟩ : ∃ ix, ix = idx (isN n) l := ⟨_, rfl⟩
      rw [← hix] at hbd HID ⊢
      clear hb4 hix KI HX3 HOX
      by_cases hneg : ix < 0
      · have HEQ : Hid (p = (4, none0)) := Lib.hid (by
          have h1 := HID.out.1 hneg
          rw [HP.out]
          unfold apply
          rw [if_neg (by rw [← HR1.out, ← HR2.out]; simp)]
          show (match dropAll drop (sl.map Vf.fi) with | none => _ | some l => _) = _
          rw [HDA.out, HDK.out]
          unfold dropAll
          rw [h1])
        obtain ⟨z0, z1, z2, g0, g1, g2⟩ := HZF.out w4 HB4.out
        have HBX := Lib.hid (HB4.out)
        go_wp2_with fail
        refine bodyPost_ret (results_c2v rfl _ _ (w.heap.size + 1 + 1) 24 #[.slice none 0 0, .int .i64 0, .int .i64 0] (0, 0) _ rfl (heap3v (HZ.out _ HBX.out)) Tryz.underlying24 rfl state_size) rfl ?_
        rw [HEQ.out]
        exact ⟨(((HB0.out.trans (HBX.out.mono HB0.out.size)).setCell (show w.heap.size ≤ w.heap.size + 1 + 1 by omega) _).setCell (show w.heap.size ≤ w.heap.size + 1 + 1 by omega) _).setCell (show w.heap.size ≤ w.heap.size + 1 + 1 by omega) _, none, 0, [], rfl, rfl, OwV.nil _ _⟩
      · obtain ⟨i, rfl⟩ := Int.eq_ofNat_of_zero_le (show 0 ≤ ix by omega)
        obtain ⟨h1, h2⟩ := HID.out.2 i rfl
        obtain ⟨N, hN⟩ : ∃ N, l.length = N + 1 := ⟨l.length - 1, by omega⟩
        obtain ⟨g, cur, hA, _, _, _⟩ := HO4.out.row.form (by omega)
        subst hA
        have KD := Lib.hid (Sym.delete_any w4 W0.heap.size g c l i N HO4.out hN (by omega) (by omega) HB4.out.size)
        have HLN : Hid ((l.take i ++ l.drop (i + 1)).length = N) := Lib.hid (by rw [List.length_append, List.length_take, List.length_drop, hN]; omega)
        have HDA2 : Hid (dropAll drop (sl.map Vf.fi) = dropAll (drop.drop (k + 1)) ((l.take i ++ l.drop (i + 1)).map Vf.fi)) := Lib.hid (by
          rw [HDA.out, HDK.out]
          conv => lhs; unfold dropAll
          rw [h2])
        have hnn : ¬ (i : Int) < 0 := by omega
        have hN5 : N ≤ 50 := by omega
        rw [hN]
        clear hN h1 h2 hneg
        go_wp2_with fail
        refine KD.out.mono ?_
        rintro r w5 ⟨rfl, ho5, hb5⟩
        have HO5 := Lib.hid ho5
        have HB5 := Lib.hid (HB4.out.trans hb5)
        clear ho5 hb5 KD
        go_wp2_with fail
        exact ⟨⟨k + 1, c, _, l.take i ++ l.drop (i + 1), by rw [HLN.out], by simp, hlt, by rw [HLN.out]; exact hN5, HO5, HB5, HDA2⟩, by simp only [intOf]; omega⟩
    · have hlt' : ¬ (k : Int) < (drop.length : Int) := by omega
      have HDL : Hid (dropAll drop (sl.map Vf.fi) = some (l.map Vf.fi)) := Lib.hid (by
        rw [HDA.out, List.drop_eq_nil_of_le (by omega)]
        rfl)
      obtain ⟨⟨s0, s1, s2⟩, e0, e1, e2, e3⟩ := HYS.out wr HBR.out
      have HPL : Hid (p = if 50 < l.length + add.length then (2, none0) else if log < slog ∨ next < snext ∨ right ⟨insAll (l.map Vf.fi) (add.map Vf.fi), log, next⟩ = false then (10, none0) else (0, ⟨insAll (l.map Vf.fi) (add.map Vf.fi), log, next⟩)) := Lib.hid (by
        rw [HP.out]
        unfold apply
        rw [if_neg (by rw [← HR1.out, ← HR2.out]; simp)]
        show (match dropAll drop (sl.map Vf.fi) with | none => _ | some l => _) = _
        rw [HDL.out]
        simp only [Ev.ed, List.length_map]
        rfl)
      have HSRD : Hid (Srd (l.map Vf.fi)) := Lib.hid (dropAll_good drop _ _ HGD.out.1 HDL.out).1.sto.srd
      clear HDA
      by_cases hbig : 50 < l.length + add.length
      · have hbig' : (50 : Int) < (l.length : Int) + (add.length : Int) := by omega
        have HEQ : Hid (p = (2, none0)) := Lib.hid (by rw [HPL.out, if_pos hbig])
        clear s0 s1 s2 e0 e1 e2 e3
        obtain ⟨⟨s0, s1, s2⟩, e0, e1, e2, e3⟩ := HYS.out wr HBR.out
        obtain ⟨z0, z1, z2, g0, g1, g2⟩ := HZF.out wr HBR.out
        have HBX := Lib.hid (HBR.out)
        go_wp2_with fail
        refine bodyPost_ret (results_c2v rfl _ _ (w.heap.size + 1 + 1) 24 #[.slice none 0 0, .int .i64 0, .int .i64 0] (0, 0) _ rfl (heap3v (HZ.out _ HBX.out)) Tryz.underlying24 rfl state_size) rfl ?_
        rw [HEQ.out]
        exact ⟨(((HB0.out.trans (HBX.out.mono HB0.out.size)).setCell (show w.heap.size ≤ w.heap.size + 1 + 1 by omega) _).setCell (show w.heap.size ≤ w.heap.size + 1 + 1 by omega) _).setCell (show w.heap.size ≤ w.heap.size + 1 + 1 by omega) _, none, 0, [], rfl, rfl, OwV.nil _ _⟩
      · have hbig' : ¬ (50 : Int) < (l.length : Int) + (add.length : Int) := by omega
        have KC2 := Lib.hid (vcopied_any add EA ec wr ((HE0.out.add.below HBR.out (Nat.le_refl _)).more HBR.out.size) (by show add.length ≤ 1000000; omega) HAB.out)
        go_wp2_with fail
        refine KC2.out.mono ?_
        rintro r w6 ⟨A2, c2, l2, rfl, hlf2, how2, hb6⟩
        have HB6 := Lib.hid (HBR.out.trans (hb6.mono HBR.out.size))
        have HO6 := Lib.hid (HOW.out.below hb6)
        have HO2 := Lib.hid (how2.mono HBR.out.size)
        have HL2 : Hid (l2.map Vf.fi = add.map Vf.fi) := Lib.hid hlf2
        have hl2 : l2.length ≤ 50 := by
          have h9 := congrArg List.length hlf2
          rw [List.length_map, List.length_map] at h9
          omega
        have hbs6 : W0.heap.size ≤ w6.heap.size := HB6.out.size
        clear hb6 how2 hlf2 KC2 s0 s1 s2 e0 e1 e2 e3
        go_wp2_with (at_builtin; (refine wpList_append_s _ rfl _ _ vfT rfl W0.heap.size A c l rfl HO6.out.row w6.heap.size A2 l2.length c2 l2 rfl rfl HO2.out.row.rd (by omega) (by unfold maxLen; omega) hbs6 ?_; intro A3 c3 L3 w8 hl3 ho3 hg3 hat3))
        have hl3 : L3 = l ++ l2 := hl3
        subst hl3
        have HO8 : Hid (OwV w8 W0.heap.size A3 c3 (l ++ l2)) := Lib.hid (HO6.out.app hg3 ho3 (fun v hv => HO2.out.own v hv))
        have HB8 : Hid (Below W0.heap.size W0 w8) := Lib.hid (below_grow HB6.out hg3 (fun q hq => (HO6.out.row.blk_ge q hq).1) hbs6)
        have hll8 : (l ++ l2).length ≤ 1000000 := by rw [List.length_append]; omega
        have KS := Lib.hid (Sym.sortStable_any w8 W0.heap.size A3 c3 (l ++ l2) HO8.out hll8 HB8.out.size)
        have HPM : Hid ((insAll (l.map Vf.fi) (add.map Vf.fi)).Perm ((l ++ l2).map Vf.fi) ∧ Srd (insAll (l.map Vf.fi) (add.map Vf.fi))) := Lib.hid ⟨by rw [List.map_append, HL2.out]; exact insAll_perm _ _, insAll_srd _ _ HSRD.out⟩
        obtain ⟨L8, hL8⟩ : ∃ L8, L8 = l ++ l2 := ⟨_, rfl⟩
        have hla : l.length + l2.length = (l ++ l2).length := (List.length_append ..).symm
        rw [hla, ← hL8]
        rw [← hL8] at KS HPM hll8
        unfold Sym.plF at KS
        clear ho3 hg3 hat3 hL8 HO8 hla
        refine KS.out.mono ?_
        rintro r w9 ⟨rfl, l3, hn3, ho9, hpm, hsd, _, hb9⟩
        have HB9 := Lib.hid (HB8.out.trans hb9)
        have HO9 := Lib.hid ho9
        have HRT := Lib.hid (right_perm (X := l3.map Vf.fi) (Y := insAll (l.map Vf.fi) (add.map Vf.fi)) (log := log) (next := next) hsd HPM.out.2 (hpm.trans HPM.out.1.symm))
        have hl39 : l3.length ≤ 1000000 := by omega
        rw [← hn3]
        have HHE : Hid (p = if log < slog ∨ next < snext ∨ right ⟨insAll (l.map Vf.fi) (add.map Vf.fi), log, next⟩ = false then (10, none0) else (0, ⟨insAll (l.map Vf.fi) (add.map Vf.fi), log, next⟩)) := Lib.hid (by rw [HPL.out, if_neg hbig])
        clear hb9 ho9 hpm hsd hn3 KS hbig hbig'
        obtain ⟨w10, hw10⟩ : ∃ w10, w10 = w9.alloc (.cells #[.slice A3 l3.length c3, .int .i64 log, .int .i64 next] 24) := ⟨_, rfl⟩
        have hb10 : Below w9.heap.size w9 w10 := by rw [hw10]; exact (Below.refl _ _).alloc (Nat.le_refl _) _
        have hx10 : w10.heap[w9.heap.size]? = some (.cells #[.slice A3 l3.length c3, .int .i64 log, .int .i64 next] 24) := by rw [hw10]; exact heap_alloc_new w9 _
        have HB10 := Lib.hid (HB9.out.trans (hb10.mono HB9.out.size))
        have HO10 := Lib.hid (HO9.out.below hb10)
        have KR3 := Lib.hid (right_any A3 c3 l3 log next w10 HO10.out.rd hl39)
        have HX10 := Lib.hid hx10
        obtain ⟨⟨s0, s1, s2⟩, e0, e1, e2, e3⟩ := HYS.out w9 HB9.out
        obtain ⟨⟨t0, t1, t2⟩, i0, i1, i2, i3⟩ := HYS.out w10 HB10.out
        obtain ⟨z0, z1, z2, g0, g1, g2⟩ := HZF.out w10 HB10.out
        have HW10 := Lib.hid hw10
        rw [hw10] at t0 t1 t2 i0 i1 i2 i3 z0 z1 z2 g0 g1 g2 KR3
        clear hw10 hb10 hx10
        by_cases h1 : log < slog
        · have HEQ : Hid (p = (10, none0)) := Lib.hid (by rw [HHE.out, if_pos (.inl h1)])
          have h1' : decide (log < slog) = true := decide_eq_true h1
          have HBX := HB10
          go_wp2_with fail
          rw [← HW10.out]
          refine bodyPost_ret (results_c2v rfl _ _ (w.heap.size + 1 + 1) 24 #[.slice none 0 0, .int .i64 0, .int .i64 0] (0, 0) _ rfl (heap3v (HZ.out _ HBX.out)) Tryz.underlying24 rfl state_size) rfl ?_
          rw [HEQ.out]
          exact ⟨(((HB0.out.trans (HBX.out.mono HB0.out.size)).setCell (show w.heap.size ≤ w.heap.size + 1 + 1 by omega) _).setCell (show w.heap.size ≤ w.heap.size + 1 + 1 by omega) _).setCell (show w.heap.size ≤ w.heap.size + 1 + 1 by omega) _, none, 0, [], rfl, rfl, OwV.nil _ _⟩
        · have h1' : decide (log < slog) = false := decide_eq_false h1
          by_cases h2 : next < snext
          · have HEQ : Hid (p = (10, none0)) := Lib.hid (by rw [HHE.out, if_pos (.inr (.inl h2))])
            have h2' : decide (next < snext) = true := decide_eq_true h2
            have HBX := HB10
            go_wp2_with fail
            rw [← HW10.out]
            refine bodyPost_ret (results_c2v rfl _ _ (w.heap.size + 1 + 1) 24 #[.slice none 0 0, .int .i64 0, .int .i64 0] (0, 0) _ rfl (heap3v (HZ.out _ HBX.out)) Tryz.underlying24 rfl state_size) rfl ?_
            rw [HEQ.out]
            exact ⟨(((HB0.out.trans (HBX.out.mono HB0.out.size)).setCell (show w.heap.size ≤ w.heap.size + 1 + 1 by omega) _).setCell (show w.heap.size ≤ w.heap.size + 1 + 1 by omega) _).setCell (show w.heap.size ≤ w.heap.size + 1 + 1 by omega) _, none, 0, [], rfl, rfl, OwV.nil _ _⟩
          · have h2' : decide (next < snext) = false := decide_eq_false h2
            obtain ⟨r3, hr3⟩ : ∃ r3, r3 = right ⟨l3.map Vf.fi, log, next⟩ := ⟨_, rfl⟩
            rw [← hr3] at KR3
            have HR3 := Lib.hid hr3
            clear hr3
            go_wp2_with fail
            refine KR3.out.mono ?_
            rw [← HW10.out]
            rintro r w11 ⟨rfl, hb11⟩
            have HB11 := Lib.hid (HB10.out.trans (hb11.mono HB10.out.size))
            have HO11 := Lib.hid (HO10.out.below hb11)
            have hx11 := (hb11.block _ (Array.getElem?_eq_some_iff.1 HX10.out).1).trans HX10.out
            clear t0 t1 t2 i0 i1 i2 i3 z0 z1 z2 g0 g1 g2 s0 s1 s2 e0 e1 e2 e3 hb11 KR3
            rcases r3 with _ | _
            · have HEQ : Hid (p = (10, none0)) := Lib.hid (by rw [HHE.out, if_pos (.inr (.inr (by rw [← HRT.out.1]; exact HR3.out.symm)))])
              clear hx11
              obtain ⟨z0, z1, z2, g0, g1, g2⟩ := HZF.out w11 HB11.out
              have HBX := Lib.hid (HB11.out)
              go_wp2_with fail
              refine bodyPost_ret (results_c2v rfl _ _ (w.heap.size + 1 + 1) 24 #[.slice none 0 0, .int .i64 0, .int .i64 0] (0, 0) _ rfl (heap3v (HZ.out _ HBX.out)) Tryz.underlying24 rfl state_size) rfl ?_
              rw [HEQ.out]
              exact ⟨(((HB0.out.trans (HBX.out.mono HB0.out.size)).setCell (show w.heap.size ≤ w.heap.size + 1 + 1 by omega) _).setCell (show w.heap.size ≤ w.heap.size + 1 + 1 by omega) _).setCell (show w.heap.size ≤ w.heap.size + 1 + 1 by omega) _, none, 0, [], rfl, rfl, OwV.nil _ _⟩
            · have HLE : Hid (l3.map Vf.fi = insAll (l.map Vf.fi) (add.map Vf.fi)) := Lib.hid (HRT.out.2 HR3.out.symm)
              have HEQ : Hid (p = (0, ⟨l3.map Vf.fi, log, next⟩)) := Lib.hid (by rw [HHE.out, if_neg (by rw [← HRT.out.1, ← HR3.out]; simp [h1, h2]), HLE.out])
              obtain ⟨q0, q1, q2⟩ : w11.cell? ⟨w9.heap.size, 0, none⟩ = some (.slice A3 l3.length c3) ∧ w11.cell? ⟨w9.heap.size, 1, none⟩ = some (.int .i64 log) ∧ w11.cell? ⟨w9.heap.size, 2, none⟩ = some (.int .i64 next) := ⟨by rw [cell_of_row w11 _ 0 _ _ (0, 0) hx11]; rfl, by rw [cell_of_row w11 _ 1 _ _ (0, 0) hx11]; rfl, by rw [cell_of_row w11 _ 2 _ _ (0, 0) hx11]; rfl⟩
              clear hx11
              obtain ⟨z0, z1, z2, g0, g1, g2⟩ := HZF.out w11 HB11.out
              go_wp2_with fail
              refine bodyPost_ret (results_c2v rfl _ _ (w.heap.size + 1 + 1) 24 #[.slice A3 l3.length c3, .int .i64 log, .int .i64 next] (0, 0) _ rfl (heap3v (HZ.out _ HB11.out)) Tryz.underlying24 rfl state_size) rfl ?_
              rw [HEQ.out]
              refine ⟨(((HB0.out.trans (HB11.out.mono HB0.out.size)).setCell (show w.heap.size ≤ w.heap.size + 1 + 1 by omega) _).setCell (show w.heap.size ≤ w.heap.size + 1 + 1 by omega) _).setCell (show w.heap.size ≤ w.heap.size + 1 + 1 by omega) _, A3, c3, l3, rfl, rfl, ?_⟩
              have hz := HZ0.out
              refine (HO11.out.keep (by simp [World.setCell]) (fun q e => ?_)).mono (by omega)
              have hq := (owV_lt HO11.out e).1
              have n1 : q ≠ w.heap.size + 1 + 1 := by omega
              rw [Below.heap_setCell _ _ _ _ n1, Below.heap_setCell _ _ _ _ n1, Below.heap_setCell _ _ _ _ n1]
end Ver
end Go.Proofs.YtgmnhdkdicgkcaaGreatDoor

namespace Go.Proofs.YtgmnhdkdicgkcaaGreatDoor
open Go.RowKit Go.Maps

namespace Ver
/-- A file whose bytes lie below base, or are one's own. -/
def VfR (w : World) (base : Nat) (v : Vf) : Prop := VfOk w base v ∨ VfOwn w base v
/-- A row of one's own, of such files. -/
structure Rw (w : World) (base rb : Nat) (A : Option Addr) (c : Nat) (l : List Vf) : Prop where
  row : OwnS Vf.cells 6 w rb 43 A c l
  el : ∀ v ∈ l, VfR w base v
  le : base ≤ rb
  sz : rb ≤ w.heap.size
section
variable {w w' : World} {base rb rb' c c' : Nat} {A A' : Option Addr} {l l' : List Vf} {v : Vf}
theorem VfR.rd (h : VfR w base v) (hb : base ≤ w.heap.size) : VfOk w w.heap.size v := h.elim (fun h => h.more hb) (fun h => h.rd)
theorem VfR.below (h : VfR w base v) (hb : Below w.heap.size w w') (hs : base ≤ w.heap.size) : VfR w' base v := h.elim (fun h => .inl (h.below hb hs)) (fun h => .inr (h.below hb))
theorem Rw.rd (h : Rw w base rb A c l) : RdV w w.heap.size A l := ⟨h.row.rd, fun v hv => (h.el v hv).rd (Nat.le_trans h.le h.sz)⟩
theorem Rw.below (h : Rw w base rb A c l) (hb : Below w.heap.size w w') : Rw w' base rb A c l := ⟨h.row.below hb, fun v hv => (h.el v hv).below hb (Nat.le_trans h.le h.sz), h.le, Nat.le_trans h.sz hb.size⟩
/-- A row of files of one's own is turned. -/
theorem VfR.grown {g : Option Nat} (h : VfR w base v) (hg : w.grownBy w' g) (hs : base ≤ w.heap.size) (hr : ∀ q, g = some q → base ≤ q ∧ Sto.Tag w q 43) : VfR w' base v := by
  rcases h with h | h
  · refine .inl (h.below (D := base) ?_ (Nat.le_refl _))
    exact (Below.refl base w).grown hg hs (fun q hq => (hr q hq).1)
  · refine .inr (h.keep hg.size (fun q e => hg.block q (h.at_ e).2.lt (fun e2 => ?_)))
    exact ((h.at_ e).2.ne (hr q e2.symm).2 (by decide)) rfl
theorem Rw.grown_at (h : OwnS Vf.cells 6 w rb 43 A c l) (hb : base ≤ rb) : ∀ q, blk A = some q → base ≤ q ∧ Sto.Tag w q 43 := fun q e => ⟨Nat.le_trans hb (h.blk_ge q e).1, Sto.ownTagS h e⟩
/-- Appended: the row is turned or is new. -/
theorem Rw.app (h : Rw w base rb A c l) (hg : w.grownBy w' (blk A)) (ho : OwnS Vf.cells 6 w' rb 43 A' c' (l ++ l')) (hl : ∀ v ∈ l', VfR w base v) : Rw w' base rb A' c' (l ++ l') := by
  have hs := Nat.le_trans h.le h.sz
  have hr := Rw.grown_at h.row h.le
  refine ⟨ho, fun v hv => ?_, h.le, Nat.le_trans h.sz hg.size⟩
  rcases List.mem_append.1 hv with hv | hv
  · exact (h.el v hv).grown hg hs hr
  · exact (hl v hv).grown hg hs hr
/-- .. another row of one's own stays. -/
theorem Rw.other {A2 : Option Addr} {rb2 c2 : Nat} {l2 : List Vf} (h : Rw w base rb A c l) (hg : w.grownBy w' (blk A2)) (h2 : OwnS Vf.cells 6 w rb2 43 A2 c2 l2) (hb2 : base ≤ rb2) (hne : ∀ q, blk A = some q → q < rb2) : Rw w' base rb A c l := by
  have hs := Nat.le_trans h.le h.sz
  have hr := Rw.grown_at h2 hb2
  refine ⟨h.row.kept hg ?_, fun v hv => (h.el v hv).grown hg hs hr, h.le, Nat.le_trans h.sz hg.size⟩
  cases hA : blk A with
  | none => exact .inl rfl
  | some q =>
    refine .inr (fun e => ?_)
    have h1 := hne q hA
    have h3 := (h2.blk_ge q e.symm).1
    omega
theorem Rw.mono (h : Rw w base rb A c l) (hb : rb' ≤ rb) (h2 : base ≤ rb') : Rw w base rb' A c l := ⟨h.row.mono hb, h.el, h2, Nat.le_trans hb h.sz⟩
theorem Rw.nil (w : World) (base rb : Nat) (h1 : base ≤ rb) (h2 : rb ≤ w.heap.size) : Rw w base rb none 0 [] := ⟨OwnS.nil _ _ _, (fun _ h => by cases h), h1, h2⟩
end
/-- An empty row that is not nil. -/
theorem own_files0 (w : World) (rb : Nat) (h : rb ≤ w.heap.size) : OwnS Vf.cells 6 (w.alloc (.cells #[] 43)) rb 43 (some ⟨w.heap.size, 0, none⟩) 0 [] := World.ownsRow_lit (e := 43) (size := 6) w #[] 0 h (by unfold maxLen; omega) rfl
/-- All of a number go: where numbers differ, the first. -/
def notN (n : Int) (v : Vf) : Bool := !(isN n v)
theorem erase_filter2 (n : Int) : ∀ l : List Fi, l.Pairwise (fun a b => a.number ≠ b.number) → l.eraseP (fun f => f.number == n) = l.filter (fun f => !(f.number == n))
  | [], _ => rfl
  | f :: r, h => by
    obtain ⟨h1, h2⟩ := List.pairwise_cons.1 h
    cases hf : (f.number == n) with
    | true =>
      rw [List.eraseP_cons_of_pos (by simpa using hf), List.filter_cons_of_neg (by simp [hf])]
      symm
      rw [List.filter_eq_self]
      intro a ha
      have hn : f.number = n := by simpa using hf
      have := h1 a ha
      simp
      intro e
      exact this (by rw [hn, e])
    | false =>
      rw [List.eraseP_cons_of_neg (by simp [hf]), List.filter_cons_of_pos (by simp [hf]), erase_filter2 n r h2]
theorem drop1_notN (n : Int) (l : List Vf) (h : (l.map Vf.fi).Pairwise (fun a b => a.number ≠ b.number)) : ((l.filter (notN n)).length = l.length → drop1 n (l.map Vf.fi) = none) ∧ ((l.filter (notN n)).length ≠ l.length → drop1 n (l.map Vf.fi) = some ((l.filter (notN n)).map Vf.fi)) := by
  have ha : (l.map Vf.fi).any (fun f => f.number == n) = l.any (isN n) := by rw [List.any_map]; rfl
  have hf : (l.map Vf.fi).filter (fun f => !(f.number == n)) = (l.filter (notN n)).map Vf.fi := by rw [List.filter_map]; rfl
  unfold drop1
  rw [ha, erase_filter2 n _ h, hf]
  refine ⟨fun he => ?_, fun he => ?_⟩
  · have h1 := List.filter_eq_self.1 (List.Sublist.eq_of_length (List.filter_sublist (p := notN n) (l := l)) he)
    rw [if_neg]
    rw [Bool.not_eq_true, List.any_eq_false]
    intro x hx
    have := h1 x hx
    unfold notN at this
    simpa using this
  · rw [if_pos]
    cases hc : l.any (isN n) with
    | true => rfl
    | false =>
      exfalso
      apply he
      rw [List.filter_eq_self.2]
      intro x hx
      have := List.any_eq_false.1 hc x hx
      unfold notN
      simpa using this
/-- Where a file is put in. -/
theorem ins_at (f : Fi) : ∀ (l : List Fi) (k : Nat), k ≤ l.length → (∀ x ∈ l.take k, before f x = false) → (k = l.length ∨ ∃ h : k < l.length, before f l[k] = true) → ins f l = l.take k ++ f :: l.drop k
  | [], k, hk, _, _ => by
    have : k = 0 := by simpa using hk
    subst this
    rfl
  | g :: r, 0, _, _, h2 => by
    rcases h2 with h2 | ⟨_, h2⟩
    · simp at h2
    · unfold ins
      rw [if_pos (by simpa using h2)]
      rfl
  | g :: r, k + 1, hk, h1, h2 => by
    have hg : before f g = false := h1 g (by simp)
    unfold ins
    rw [if_neg (by rw [hg]; simp), ins_at f r k (by simpa using hk) (fun x hx => h1 x (by simp [hx])) (h2.elim (fun h => .inl (by simpa using h)) (fun ⟨h, h3⟩ => .inr ⟨by simpa using h, by simpa using h3⟩))]
    rfl
end Ver
end Go.Proofs.YtgmnhdkdicgkcaaGreatDoor

namespace Go.Proofs.YtgmnhdkdicgkcaaGreatDoor
open Go.RowKit Go.Maps

namespace Ver
section
variable {P : Program} {ops : Array Oper} {S : World → Prop} {o : Oper} {a : Act} {v : Value}
/-- An operation of one slot, or two, at a frame that stands hidden. -/
theorem yields_of1 (x : Operand) (vx : Value) (hw : Region.wanted o (yielded ops a.tmps) = true) (hx : a.eval x = vx)
    (h : ∀ (E : Operand → Value) (w : World), S w → (∀ c, E (.const c) = c) → E x = vx → (execOp E o).run P w = .ok (.value v) w) : YieldsIf P ops S o v a :=
  .inl ⟨hw, fun w hs => h a.eval w hs (fun _ => rfl) hx⟩
theorem yields_of2 (x y : Operand) (vx vy : Value) (hw : Region.wanted o (yielded ops a.tmps) = true) (hx : a.eval x = vx) (hy : a.eval y = vy)
    (h : ∀ (E : Operand → Value) (w : World), S w → (∀ c, E (.const c) = c) → E x = vx → E y = vy → (execOp E o).run P w = .ok (.value v) w) : YieldsIf P ops S o v a :=
  .inl ⟨hw, fun w hs => h a.eval w hs (fun _ => rfl) hx hy⟩
theorem step_of2 {K : Act → World → Prop} {Q : Exit → Act → World → Prop} {w : World} {E : Prop} (x y : Operand) (vx vy v : Value) (hw : Region.wanted o (yielded ops a.tmps) = true) (hx : a.eval x = vx) (hy : a.eval y = vy)
    (h : ∀ E : Operand → Value, (∀ c, E (.const c) = c) → E x = vx → E y = vy → (execOp E o).run P w = .ok (.value v) w) (hk : K (a.put o.dst v) w) : if Region.wanted o (yielded ops a.tmps) = true then Oper.wp P o a w K Q else E := by
  rw [if_pos hw]
  unfold Oper.wp
  rw [h a.eval (fun _ => rfl) hx hy]
  exact hk
end
/-- The result's three cells are set: a row of one's own behind them stays. -/
theorem Rw.three {w : World} {base rb c g : Nat} {A : Option Addr} {l : List Vf} {cs : Array Value} {x y z : Value} (h : Rw w base rb A c l) (hg : w.heap[g]? = some (.cells cs 24)) (h1 : g < rb) (h2 : base ≤ g) :
    RdV (((w.setCell ⟨g, 0, none⟩ x).setCell ⟨g, 1, none⟩ y).setCell ⟨g, 2, none⟩ z) (((w.setCell ⟨g, 0, none⟩ x).setCell ⟨g, 1, none⟩ y).setCell ⟨g, 2, none⟩ z).heap.size A l := by
  obtain ⟨W, hW⟩ : ∃ W, W = ((w.setCell ⟨g, 0, none⟩ x).setCell ⟨g, 1, none⟩ y).setCell ⟨g, 2, none⟩ z := ⟨_, rfl⟩
  rw [← hW]
  have hz : W.heap.size = w.heap.size := by rw [hW]; simp [World.setCell]
  have hk : ∀ q, q ≠ g → W.heap[q]? = w.heap[q]? := fun q hq => by
    rw [hW, Below.heap_setCell _ _ _ _ hq, Below.heap_setCell _ _ _ _ hq, Below.heap_setCell _ _ _ _ hq]
  have hb : Below base w W := by
    rw [hW]
    exact (((Below.refl _ _).setCell (show base ≤ g from h2) _).setCell (show base ≤ g from h2) _).setCell (show base ≤ g from h2) _
  have ht : Sto.Tag w g 24 := ⟨_, _, hg⟩
  refine ⟨(h.row.keep (fun q e => hk q (by have := (h.row.blk_ge q e).1; omega))).rd, fun v hv => ?_⟩
  rcases h.el v hv with h3 | h3
  · exact (h3.below hb (Nat.le_refl _)).more (by rw [hz]; exact Nat.le_trans h.le h.sz)
  · exact (h3.keep (by omega) (fun q e => hk q ((h3.at_ e).2.ne ht (by decide)))).rd
/-- What the reference's Apply says. -/
def SaysRa (w : World) (p : Int × Ss) (r : Ending) (w' : World) : Prop := Below w.heap.size w w' ∧ ∃ A c l, r = .returned (.tuple #[.agg #[.slice A l.length c, .int .i64 p.2.log, .int .i64 p.2.next], .int .i64 p.1]) ∧ l.map Vf.fi = p.2.files ∧ RdV w' w'.heap.size A l
set_option maxHeartbeats 4000000 in
set_option maxRecDepth 1000000 in
theorem rapply_any (sA : Option Addr) (sc : Nat) (sl : List Vf) (slog snext : Int) (e : Ev) (w : World) (hs : RdV w w.heap.size sA sl) (he : EvOk w w.heap.size e) (hsl : sl.length ≤ 1000000) (hal : e.add.length ≤ 1000000) (hdl : e.drop.length ≤ 1000000) :
    Calls Tryz.prog 12 #[.agg #[.slice sA sl.length sc, .int .i64 slog, .int .i64 snext], e.val] w (SaysRa w (apply ⟨sl.map Vf.fi, slog, snext⟩ e.ed)) := by
  obtain ⟨p, hp⟩ : ∃ p, p = apply ⟨sl.map Vf.fi, slog, snext⟩ e.ed := ⟨_, rfl⟩
  rw [← hp]
  obtain ⟨ev, hev⟩ : ∃ ev, ev = e := ⟨_, rfl⟩
  obtain ⟨W0, hW0⟩ : ∃ W0, W0 = ((w.alloc (.cells #[.slice sA sl.length sc, .int .i64 slog, .int .i64 snext] 24)).alloc e.obj).alloc (.cells #[.slice none 0 0, .int .i64 0, .int .i64 0] 24) := ⟨_, rfl⟩
  have hz0 : W0.heap.size = w.heap.size + 1 + 1 + 1 := by rw [hW0]; simp
  have hb0 : Below w.heap.size w W0 := by rw [hW0]; exact (((Below.refl _ _).alloc (Nat.le_refl _) _).alloc (by simp) _).alloc (by simp <;> omega) _
  have hx0 : W0.heap[w.heap.size]? = some (.cells #[.slice sA sl.length sc, .int .i64 slog, .int .i64 snext] 24) := by
    rw [hW0, Below.heap_alloc _ _ _ (by simp <;> omega), Below.heap_alloc _ _ _ (by simp)]
    exact heap_alloc_new w _
  have hx1 : W0.heap[w.heap.size + 1]? = some e.obj := by
    rw [hW0, Below.heap_alloc _ _ _ (by simp)]
    have := heap_alloc_new (w.alloc (.cells #[.slice sA sl.length sc, .int .i64 slog, .int .i64 snext] 24)) e.obj
    simpa using this
  have hx2 : W0.heap[w.heap.size + 1 + 1]? = some (.cells #[.slice none 0 0, .int .i64 0, .int .i64 0] 24) := by
    rw [hW0]
    have := heap_alloc_new ((w.alloc (.cells #[.slice sA sl.length sc, .int .i64 slog, .int .i64 snext] 24)).alloc e.obj) (.cells #[.slice none 0 0, .int .i64 0, .int .i64 0] 24)
    simpa using this
  have HS := Lib.hid (hs.keep hb0)
  have HSL := Lib.hid (hs.below hb0 (Nat.le_refl _))
  have HE0 := Lib.hid (he.keep hb0)
  have HB0 := Lib.hid hb0
  have HZ0 := Lib.hid hz0
  have HZ : Hid (∀ X, Below W0.heap.size W0 X → X.heap[w.heap.size + 1 + 1]? = some (.cells #[.slice none 0 0, .int .i64 0, .int .i64 0] 24)) := Lib.hid (fun X hX => (hX.block _ (by omega)).trans hx2)
  have HZF : Hid (∀ X, Below W0.heap.size W0 X → X.cell? ⟨w.heap.size + 1 + 1, 0, none⟩ = some (.slice none 0 0) ∧ X.cell? ⟨w.heap.size + 1 + 1, 1, none⟩ = some (.int .i64 0) ∧ X.cell? ⟨w.heap.size + 1 + 1, 2, none⟩ = some (.int .i64 0) ∧ X.frozen? ⟨w.heap.size + 1 + 1, 0, none⟩ = false ∧ X.frozen? ⟨w.heap.size + 1 + 1, 1, none⟩ = false ∧ X.frozen? ⟨w.heap.size + 1 + 1, 2, none⟩ = false) := Lib.hid (fun X hX => by
    have h := HZ.out X hX
    exact ⟨by rw [cell_of_row X _ 0 _ _ (0, 0) h]; rfl, by rw [cell_of_row X _ 1 _ _ (0, 0) h]; rfl, by rw [cell_of_row X _ 2 _ _ (0, 0) h]; rfl, frozen_of_row X _ 0 _ _ h, frozen_of_row X _ 1 _ _ h, frozen_of_row X _ 2 _ _ h⟩)
  have KR := Lib.hid (rright_any sA sc sl slog snext W0 (hs.keep hb0) hsl)
  have KE : Hid (∀ X, Below W0.heap.size W0 X → Calls Tryz.prog 44 #[e.val] X fun r w' => r = .returned (.bool (okE e.ed)) ∧ Below X.heap.size X w') := Lib.hid (fun X hX => rrightEdit_any e X (HE0.out.keep hX) hal hdl)
  have HP := Lib.hid hp
  obtain ⟨r1, hr1⟩ : ∃ r1, r1 = right ⟨sl.map Vf.fi, slog, snext⟩ := ⟨_, rfl⟩
  obtain ⟨r2, hr2⟩ : ∃ r2, r2 = okE e.ed := ⟨_, rfl⟩
  rw [← hr1] at KR
  rw [← hr2] at KE
  have HR1 := Lib.hid hr1
  have HR2 := Lib.hid hr2
  obtain ⟨EA, ec, add, DA, dc, drop, log, next⟩ := e
  have HYS : Hid (∀ X, Below W0.heap.size W0 X → (X.cell? ⟨w.heap.size, 0, none⟩ = some (.slice sA sl.length sc) ∧ X.cell? ⟨w.heap.size, 1, none⟩ = some (.int .i64 slog) ∧ X.cell? ⟨w.heap.size, 2, none⟩ = some (.int .i64 snext)) ∧ X.cell? ⟨w.heap.size + 1, 0, none⟩ = some (.slice EA add.length ec) ∧ X.cell? ⟨w.heap.size + 1, 1, none⟩ = some (.slice DA drop.length dc) ∧ X.cell? ⟨w.heap.size + 1, 2, none⟩ = some (.int .i64 log) ∧ X.cell? ⟨w.heap.size + 1, 3, none⟩ = some (.int .i64 next)) := Lib.hid (fun X hX => by
    have h := (hX.block _ (by omega)).trans hx0
    have h1 := (hX.block _ (by omega)).trans hx1
    unfold Ev.obj at h1
    exact ⟨⟨by rw [cell_of_row X _ 0 _ _ (0, 0) h]; rfl, by rw [cell_of_row X _ 1 _ _ (0, 0) h]; rfl, by rw [cell_of_row X _ 2 _ _ (0, 0) h]; rfl⟩, by rw [cell_of_row X _ 0 _ _ (0, 0) h1]; rfl, by rw [cell_of_row X _ 1 _ _ (0, 0) h1]; rfl, by rw [cell_of_row X _ 2 _ _ (0, 0) h1]; rfl, by rw [cell_of_row X _ 3 _ _ (0, 0) h1]; rfl⟩)
  have HEV := Lib.hid hev
  simp only [Ev.val, Ev.obj] at hW0 KE hal hdl ⊢
  rw [hW0] at KR
  have HW0 := Lib.hid hW0
  clear hp hs he hb0 hx0 hx1 hx2 hr1 hr2 hz0 hev hW0
  have hwW : w.heap.size ≤ W0.heap.size := HB0.out.size
  obtain ⟨B, hB⟩ : ∃ B, B = W0.heap.size := ⟨_, rfl⟩
  have HBB := Lib.hid hB
  go_enter Tryz.func12, Tryz.ntmps12
  go_wp2_with fail
  refine KR.out.mono ?_
  rw [← HW0.out]
  rintro r w1 ⟨rfl, hb1⟩
  obtain ⟨⟨s0, s1, s2⟩, e0, e1, e2, e3⟩ := HYS.out w1 hb1
  have HB1 := Lib.hid hb1
  have hwz : w.heap.size ≤ w.heap.size := Nat.le_refl _
  have K1 := Lib.hid (KE.out w1 HB1.out)
  clear KR hb1 hB
  go_wp2_with fail
  refine K1.out.mono ?_
  rintro r w2 ⟨rfl, hb2⟩
  have HB2 := Lib.hid (HB1.out.trans (hb2.mono HB1.out.size))
  clear hb2 K1 KE s0 s1 s2 e0 e1 e2 e3
  rcases r1 with _ | _
  · have HEQ : Hid (p = (1, none0)) := Lib.hid (by rw [HP.out]; unfold apply; rw [if_pos (.inl HR1.out.symm)])
    obtain ⟨z0, z1, z2, g0, g1, g2⟩ := HZF.out w2 HB2.out
    have HBX := Lib.hid (HB2.out)
    go_wp2_with fail
    refine bodyPost_ret (results_c2v rfl _ _ (w.heap.size + 1 + 1) 24 #[.slice none 0 0, .int .i64 0, .int .i64 0] (0, 0) _ rfl (heap3v (HZ.out _ HBX.out)) Tryz.underlying24 rfl state_size) rfl ?_
    rw [HEQ.out]
    exact ⟨(((HB0.out.trans (HBX.out.mono HB0.out.size)).setCell (show w.heap.size ≤ w.heap.size + 1 + 1 by omega) _).setCell (show w.heap.size ≤ w.heap.size + 1 + 1 by omega) _).setCell (show w.heap.size ≤ w.heap.size + 1 + 1 by omega) _, none, 0, [], rfl, rfl, RdV.nil⟩
  rcases r2 with _ | _
  · have HEQ : Hid (p = (1, none0)) := Lib.hid (by rw [HP.out]; unfold apply; rw [if_pos (.inr HR2.out.symm)])
    obtain ⟨z0, z1, z2, g0, g1, g2⟩ := HZF.out w2 HB2.out
    have HBX := Lib.hid (HB2.out)
    go_wp2_with fail
    refine bodyPost_ret (results_c2v rfl _ _ (w.heap.size + 1 + 1) 24 #[.slice none 0 0, .int .i64 0, .int .i64 0] (0, 0) _ rfl (heap3v (HZ.out _ HBX.out)) Tryz.underlying24 rfl state_size) rfl ?_
    rw [HEQ.out]
    exact ⟨(((HB0.out.trans (HBX.out.mono HB0.out.size)).setCell (show w.heap.size ≤ w.heap.size + 1 + 1 by omega) _).setCell (show w.heap.size ≤ w.heap.size + 1 + 1 by omega) _).setCell (show w.heap.size ≤ w.heap.size + 1 + 1 by omega) _, none, 0, [], rfl, rfl, RdV.nil⟩
  have hgd := right_good HR1.out.symm
  obtain ⟨⟨x1, x2, x3, x4, x5, x6⟩, x7, x8⟩ := okE_bd HR2.out.symm
  have HGD := Lib.hid hgd
  have hsl5 : sl.length ≤ 50 := by simpa using hgd.2.1
  have hal5 : add.length ≤ 50 := by simpa [Ev.ed] using x1
  have HAB : Hid (∀ v ∈ add, v.first.length ≤ 1000000 ∧ v.last.length ≤ 1000000) := Lib.hid (fun v hv => by
    have := okF_bd (x7 v.fi (List.mem_map_of_mem hv))
    have h1 : v.fi.first = v.first := rfl
    have h2 : v.fi.last = v.last := rfl
    rw [h1, h2] at this
    omega)
  have hbs2 : W0.heap.size ≤ w2.heap.size := HB2.out.size
  have HB2a : Hid (Below W0.heap.size W0 (w2.alloc (.cells #[] 43))) := Lib.hid (HB2.out.alloc hbs2 _)
  obtain ⟨⟨s0, s1, s2⟩, e0, e1, e2, e3⟩ := HYS.out (w2.alloc (.cells #[] 43)) HB2a.out
  have HOE := Lib.hid (own_files0 w2 W0.heap.size hbs2)
  have HSR := Lib.hid ((HS.out.below HB2.out (Nat.le_refl _)).row.alloc hbs2 (.cells #[] 43))
  clear hgd x1 x2 x3 x4 x5 x6 x7 x8
  go_wp2_with (at_builtin; (refine wpList_append_s _ rfl _ _ vfT rfl W0.heap.size (some ⟨w2.heap.size, 0, none⟩) 0 [] rfl HOE.out W0.heap.size sA sl.length sc sl rfl rfl HSR.out (by show (0 + sl.length) * 80 ≤ 140737488355328; omega) (by unfold maxLen; show 0 + sl.length ≤ 9223372036854775807; omega) (by show W0.heap.size ≤ (w2.alloc _).heap.size; simp; omega) ?_; intro A3 c3 L3 w3 hl3 ho3 hg3 hat3))
  have hl3 : L3 = sl := hl3
  subst hl3
  have HRW : Hid (Rw w3 w.heap.size W0.heap.size A3 c3 L3) := Lib.hid (Rw.app (l := []) ⟨HOE.out, (fun _ h => by cases h), hwW, HB2a.out.size⟩ hg3 ho3 (fun v hv => .inl ((HSL.out.ok v hv).below HB2a.out hwW)))
  have HB3 : Hid (Below W0.heap.size W0 w3) := Lib.hid (below_grow HB2a.out hg3 (fun q hq => (HOE.out.blk_ge q hq).1) HB2a.out.size)
  clear ho3 hg3 hat3 HOE HSR s0 s1 s2 e0 e1 e2 e3
  go_wp2_with fail
  go_loopw [8, 9] (fun x y wr => ∃ (i c : Nat) (A : Option Addr) (l : List Vf), x = .slice A l.length c ∧ y = .int .i64 (i : Int) ∧ i ≤ drop.length ∧ l.length ≤ 50 ∧ Hid (Rw wr w.heap.size W0.heap.size A c l) ∧ Hid (Below W0.heap.size W0 wr) ∧ Hid (Good snext (l.map Vf.fi)) ∧ Hid (dropAll drop (L3.map Vf.fi) = dropAll (drop.drop i) (l.map Vf.fi))) (fun _ y _ => drop.length - (intOf y).toNat)
  case atStart => exact ⟨0, c3, A3, L3, rfl, rfl, by omega, hsl5, HRW, HB3, Lib.hid HGD.out.1, Lib.hid rfl⟩
  case round =>
    clear HRW
    obtain ⟨i, c, A, l, rfl, rfl, hid, hl5, HRW, HBR, HGO, HDA⟩ := hrel
    obtain ⟨⟨s0, s1, s2⟩, e0, e1, e2, e3⟩ := HYS.out wr HBR.out
    by_cases hlt : i < drop.length
    · have hlt' : (i : Int) < (drop.length : Int) := by omega
      have hi0 : (0 : Int) ≤ (i : Int) := by omega
      obtain ⟨b, off, hA, hb, hc⟩ := RdS.row (f := Sto.I1) (n := 1) (fun _ => rfl) (by omega) HE0.out.drop (by show 0 < drop.length; omega)
      have c0 := hc i hlt 0 _ rfl
      rw [Nat.add_zero, Nat.mul_one] at c0
      have HDK : Hid (drop.drop i = drop[i] :: drop.drop (i + 1)) := Lib.hid (List.drop_eq_getElem_cons hlt)
      simp only at c0 hA
      obtain ⟨n, hn⟩ : ∃ n, n = drop[i] := ⟨_, rfl⟩
      rw [← hn] at c0 HDK
      have HC0 : Hid (∀ X, Below W0.heap.size W0 X → X.cell? ⟨b, off + i, none⟩ = some (.int .i64 n)) := Lib.hid (fun X hX => (hX.cell (p := ⟨b, off + i, none⟩) hb).trans c0)
      subst hA
      obtain ⟨rb, hrb⟩ : ∃ rb, rb = wr.heap.size := ⟨_, rfl⟩
      have HRB : Hid (W0.heap.size ≤ rb ∧ (∀ q, blk A = some q → q < rb) ∧ rb ≤ wr.heap.size) := Lib.hid ⟨by rw [hrb]; exact HBR.out.size, fun q e => by rw [hrb]; exact (HRW.out.row.blk_ge q e).2, by omega⟩
      clear hc hn hrb hb c0
      go_wp2_with fail
      go_loopw [10, 11] (fun x y wr => ∃ (k c2 : Nat) (A2 : Option Addr) (l2 : List Vf), x = .slice A2 l2.length c2 ∧ y = .int .i64 (k : Int) ∧ k ≤ l.length ∧ l2.length ≤ 50 ∧ Hid (l2 = (l.take k).filter (notN n)) ∧ Hid (Rw wr w.heap.size rb A2 c2 l2) ∧ Hid (Rw wr w.heap.size W0.heap.size A c l) ∧ Hid (Below W0.heap.size W0 wr)) (fun _ y _ => l.length - (intOf y).toNat)
      case atStart => exact ⟨0, 0, none, [], rfl, rfl, by omega, by simp, Lib.hid rfl, Lib.hid (Rw.nil wr _ _ (Nat.le_trans hwW HRB.out.1) HRB.out.2.2), HRW, HBR⟩
      case round =>
        clear HRW HBR s0 s1 s2 e0 e1 e2 e3
        obtain ⟨k, c2, A2, l2, rfl, rfl, hk, hl25, HL2, HRL, HRW, HBR⟩ := hrel
        by_cases hkl : k < l.length
        · have hkl' : (k : Int) < (l.length : Int) := by omega
          have hk0 : (0 : Int) ≤ (k : Int) := by omega
          obtain ⟨⟨s0, s1, s2⟩, e0, e1, e2, e3⟩ := HYS.out wr HBR.out
          have d0 := HC0.out wr HBR.out
          obtain ⟨fb, foff, hfA, hfb, hcell, _⟩ := HRW.out.rd.cell hkl
          have HTK : Hid (l.take (k + 1) = l.take k ++ [l[k]]) := Lib.hid (List.take_succ_eq_append_getElem hkl)
          have HEL := Lib.hid (HRW.out.el l[k] (List.getElem_mem hkl))
          obtain ⟨v, hv⟩ : ∃ v, v = l[k] := ⟨_, rfl⟩
          rw [← hv] at hcell HTK HEL
          obtain ⟨nu, lv, FA, fc, fi, LA, lc, la, lo, hi⟩ := v
          have g0 := hcell 0 _ rfl
          have g1 := hcell 1 _ rfl
          have g2 := hcell 2 _ rfl
          have g3 := hcell 3 _ rfl
          have g4 := hcell 4 _ rfl
          have g5 := hcell 5 _ rfl
          rw [Nat.add_zero] at g0
          simp only at g0 g1 g2 g3 g4 g5
          subst hfA
          clear hcell hv
          by_cases hne : nu = n
          · have q1 : (nu != n) = false := by simp [hne]
            have q2 : (nu == n) = true := by simp [hne]
            have HL3 : Hid (l2 = (l.take (k + 1)).filter (notN n)) := Lib.hid (by
              rw [HTK.out, List.filter_append, HL2.out, List.filter_cons_of_neg (by simp [notN, isN, hne])]
              simp)
            clear hne
            go_wp2_with fail
            go_quiet (fail)
            refine Sto.drewN_of (fun V hbV hVh => ?_)
            have HRL2 := Lib.hid (HRL.out.below hbV)
            have HRW2 := Lib.hid (HRW.out.below hbV)
            have HBR2 := Lib.hid (HBR.out.trans (hbV.mono HBR.out.size))
            clear hbV hVh s0 s1 s2 e0 e1 e2 e3 d0 g0 g1 g2 g3 g4 g5 q1 q2
            go_wp2_with fail
            exact ⟨⟨k + 1, c2, A2, l2, rfl, by simp, hkl, hl25, HL3, HRL2, HRW2, HBR2⟩, by simp only [intOf]; omega⟩
          · have q1 : (nu != n) = true := by simp [hne]
            have q2 : (nu == n) = false := by simp [hne]
            have HL3 : Hid (l2 ++ [⟨nu, lv, FA, fc, fi, LA, lc, la, lo, hi⟩] = (l.take (k + 1)).filter (notN n)) := Lib.hid (by
              rw [HTK.out, List.filter_append, HL2.out, List.filter_cons_of_pos (by simp [notN, isN, hne])]
              rfl)
            clear hne
            go_wp2_with fail
            go_quiet (fail)
            refine Sto.drewN_of (fun V hbV hVh => ?_)
            have HRLV := Lib.hid (HRL.out.below hbV)
            have HRWV := Lib.hid (HRW.out.below hbV)
            have HBRV := Lib.hid (HBR.out.trans (hbV.mono HBR.out.size))
            have HELV := Lib.hid (HEL.out.below hbV (Nat.le_trans hwW HBR.out.size))
            have k0 : V.cell? ⟨fb, foff + k * 6, none⟩ = some (.int .i64 nu) := (hbV.cell (p := ⟨fb, foff + k * 6, none⟩) hfb).trans g0
            have k1 : V.cell? ⟨fb, foff + k * 6 + 1, none⟩ = some (.int .i64 lv) := (hbV.cell (p := ⟨fb, foff + k * 6 + 1, none⟩) hfb).trans g1
            have k2 : V.cell? ⟨fb, foff + k * 6 + 2, none⟩ = some (.slice FA fi.length fc) := (hbV.cell (p := ⟨fb, foff + k * 6 + 2, none⟩) hfb).trans g2
            have k3 : V.cell? ⟨fb, foff + k * 6 + 3, none⟩ = some (.slice LA la.length lc) := (hbV.cell (p := ⟨fb, foff + k * 6 + 3, none⟩) hfb).trans g3
            have k4 : V.cell? ⟨fb, foff + k * 6 + 4, none⟩ = some (.int .i64 lo) := (hbV.cell (p := ⟨fb, foff + k * 6 + 4, none⟩) hfb).trans g4
            have k5 : V.cell? ⟨fb, foff + k * 6 + 5, none⟩ = some (.int .i64 hi) := (hbV.cell (p := ⟨fb, foff + k * 6 + 5, none⟩) hfb).trans g5
            clear hbV hVh s0 s1 s2 e0 e1 e2 e3 d0 g0 g1 g2 g3 g4 g5 q1 q2
            have hba : Below V.heap.size V (V.alloc (.cells #[.int .i64 nu, .int .i64 lv, .slice FA fi.length fc, .slice LA la.length lc, .int .i64 lo, .int .i64 hi] 43)) := (Below.refl _ _).alloc (Nat.le_refl _) _
            have HRA := Lib.hid (HRLV.out.below hba)
            have HRB2 := Lib.hid (HRWV.out.below hba)
            have HBA := Lib.hid (HBRV.out.trans (hba.mono HBRV.out.size))
            have HEA := Lib.hid (HELV.out.below hba (Nat.le_trans hwW HBRV.out.size))
            have hrbz : rb ≤ V.heap.size + 1 := by have := HRLV.out.sz; omega
            clear hba
            go_wp2_with (at_builtin; (refine wpList_append_s _ rfl _ _ vfT rfl rb A2 c2 l2 rfl HRA.out.row (V.heap.size + 1) (some ⟨V.heap.size, 0, none⟩) 1 1 [⟨nu, lv, FA, fc, fi, LA, lc, la, lo, hi⟩] rfl rfl (rd_vf_new V ⟨nu, lv, FA, fc, fi, LA, lc, la, lo, hi⟩) (by show (l2.length + 1) * 80 ≤ 140737488355328; omega) (by unfold maxLen; show l2.length + 1 ≤ 9223372036854775807; omega) (by simp; omega) ?_; intro A4 c4 L4 w8 hl4 ho4 hg4 hat4))
            have hl4 : L4 = l2 ++ [⟨nu, lv, FA, fc, fi, LA, lc, la, lo, hi⟩] := hl4
            subst hl4
            have HRL2 : Hid (Rw w8 w.heap.size rb A4 c4 (l2 ++ [⟨nu, lv, FA, fc, fi, LA, lc, la, lo, hi⟩])) := Lib.hid (HRA.out.app hg4 ho4 (fun v hv => by
              rw [List.mem_singleton] at hv
              subst hv
              exact HEA.out))
            have HRW2 : Hid (Rw w8 w.heap.size W0.heap.size (some ⟨fb, foff, none⟩) c l) := Lib.hid (HRB2.out.other hg4 HRA.out.row (Nat.le_trans hwW HRB.out.1) HRB.out.2.1)
            have HBR2 : Hid (Below W0.heap.size W0 w8) := Lib.hid (below_grow HBA.out hg4 (fun q hq => Nat.le_trans HRB.out.1 (HRA.out.row.blk_ge q hq).1) HBA.out.size)
            have hl26 : l2.length + 1 ≤ 50 := by
              have h1 := congrArg List.length HL3.out
              have h2 := List.length_filter_le (notN n) (l.take (k + 1))
              rw [List.length_append, List.length_take] at *
              simp only [List.length_cons, List.length_nil] at h1
              omega
            clear ho4 hg4 hat4 k0 k1 k2 k3 k4 k5
            simp only [Act.put, List.setIfInBounds_toArray, List.set_cons_succ, List.set_cons_zero]
            go_wp2_with fail
            exact ⟨⟨k + 1, c4, A4, l2 ++ [⟨nu, lv, FA, fc, fi, LA, lc, la, lo, hi⟩], by simp, by simp, hkl, by simpa using hl26, HL3, HRL2, HRW2, HBR2⟩, by simp only [intOf]; omega⟩
        · have hke : k = l.length := by omega
          have HLF : Hid (l2 = l.filter (notN n)) := Lib.hid (by
            have h1 := HL2.out
            rwa [List.take_of_length_le (by omega)] at h1)
          have hkl' : ¬ (k : Int) < (l.length : Int) := by omega
          have HD1 := Lib.hid (drop1_notN n l HGO.out.dif)
          obtain ⟨⟨s0, s1, s2⟩, e0, e1, e2, e3⟩ := HYS.out wr HBR.out
          by_cases hee : l2.length = l.length
          · have q1 : ((l2.length : Int) == (l.length : Int)) = true := by simp [hee]
            have HEQ : Hid (p = (4, none0)) := Lib.hid (by
              have h1 := HD1.out.1 (by rw [← HLF.out]; exact hee)
              rw [HP.out]
              unfold apply
              rw [if_neg (by rw [← HR1.out, ← HR2.out]; simp)]
              show (match dropAll drop (L3.map Vf.fi) with | none => _ | some l => _) = _
              rw [HDA.out, HDK.out]
              unfold dropAll
              rw [h1])
            clear hee s0 s1 s2 e0 e1 e2 e3
            obtain ⟨z0, z1, z2, g0, g1, g2⟩ := HZF.out wr HBR.out
            have HBX := Lib.hid (HBR.out)
            go_wp2_with fail
            refine bodyPost_ret (results_c2v rfl _ _ (w.heap.size + 1 + 1) 24 #[.slice none 0 0, .int .i64 0, .int .i64 0] (0, 0) _ rfl (heap3v (HZ.out _ HBX.out)) Tryz.underlying24 rfl state_size) rfl ?_
            rw [HEQ.out]
            exact ⟨(((HB0.out.trans (HBX.out.mono HB0.out.size)).setCell (show w.heap.size ≤ w.heap.size + 1 + 1 by omega) _).setCell (show w.heap.size ≤ w.heap.size + 1 + 1 by omega) _).setCell (show w.heap.size ≤ w.heap.size + 1 + 1 by omega) _, none, 0, [], rfl, rfl, RdV.nil⟩
          · have q1 : ((l2.length : Int) == (l.length : Int)) = false := by
              have : ¬ (l2.length : Int) = (l.length : Int) := by omega
              simp [this]
            have HN1 : Hid (drop1 n (l.map Vf.fi) = some (l2.map Vf.fi)) := Lib.hid (by rw [HLF.out]; exact HD1.out.2 (by rw [← HLF.out]; exact hee))
            have HDA2 : Hid (dropAll drop (L3.map Vf.fi) = dropAll (drop.drop (i + 1)) (l2.map Vf.fi)) := Lib.hid (by
              rw [HDA.out, HDK.out]
              conv => lhs; unfold dropAll
              rw [HN1.out])
            have HGO2 : Hid (Good snext (l2.map Vf.fi)) := Lib.hid (dropAll_good [n] _ _ HGO.out (by unfold dropAll; rw [HN1.out]; rfl)).1
            have HRL2 := Lib.hid (HRL.out.mono HRB.out.1 hwW)
            clear hee
            go_wp2_with fail
            exact ⟨⟨i + 1, c2, A2, l2, rfl, by simp, hlt, hl25, HRL2, HBR, HGO2, HDA2⟩, by simp only [intOf]; omega⟩
    · have hlt' : ¬ (i : Int) < (drop.length : Int) := by omega
      have HDL : Hid (dropAll drop (L3.map Vf.fi) = some (l.map Vf.fi)) := Lib.hid (by
        rw [HDA.out, List.drop_eq_nil_of_le (by omega)]
        rfl)
      have HPL : Hid (p = if 50 < l.length + add.length then (2, none0) else if log < slog ∨ next < snext ∨ right ⟨insAll (l.map Vf.fi) (add.map Vf.fi), log, next⟩ = false then (10, none0) else (0, ⟨insAll (l.map Vf.fi) (add.map Vf.fi), log, next⟩)) := Lib.hid (by
        rw [HP.out]
        unfold apply
        rw [if_neg (by rw [← HR1.out, ← HR2.out]; simp)]
        show (match dropAll drop (L3.map Vf.fi) with | none => _ | some l => _) = _
        rw [HDL.out]
        simp only [Ev.ed, List.length_map]
        rfl)
      clear HDA
      by_cases hbig : 50 < l.length + add.length
      · have hbig' : (50 : Int) < (l.length : Int) + (add.length : Int) := by omega
        have HEQ : Hid (p = (2, none0)) := Lib.hid (by rw [HPL.out, if_pos hbig])
        obtain ⟨z0, z1, z2, g0, g1, g2⟩ := HZF.out wr HBR.out
        have HBX := Lib.hid (HBR.out)
        go_wp2_with fail
        refine bodyPost_ret (results_c2v rfl _ _ (w.heap.size + 1 + 1) 24 #[.slice none 0 0, .int .i64 0, .int .i64 0] (0, 0) _ rfl (heap3v (HZ.out _ HBX.out)) Tryz.underlying24 rfl state_size) rfl ?_
        rw [HEQ.out]
        exact ⟨(((HB0.out.trans (HBX.out.mono HB0.out.size)).setCell (show w.heap.size ≤ w.heap.size + 1 + 1 by omega) _).setCell (show w.heap.size ≤ w.heap.size + 1 + 1 by omega) _).setCell (show w.heap.size ≤ w.heap.size + 1 + 1 by omega) _, none, 0, [], rfl, rfl, RdV.nil⟩
      · have hbig' : ¬ (50 : Int) < (l.length : Int) + (add.length : Int) := by omega
        have HHE : Hid (p = if log < slog ∨ next < snext ∨ right ⟨insAll (l.map Vf.fi) (add.map Vf.fi), log, next⟩ = false then (10, none0) else (0, ⟨insAll (l.map Vf.fi) (add.map Vf.fi), log, next⟩)) := Lib.hid (by rw [HPL.out, if_neg hbig])
        go_wp2_with fail
        clear hlt' hid
        go_loopw [8, 12] (fun x y wr => ∃ (i2 c2 : Nat) (A2 : Option Addr) (m : List Vf), x = .slice A2 m.length c2 ∧ y = .int .i64 (i2 : Int) ∧ i2 ≤ add.length ∧ m.length + add.length ≤ 50 + i2 ∧ Hid (m.map Vf.fi = insAll (l.map Vf.fi) ((add.take i2).map Vf.fi)) ∧ Hid (Rw wr w.heap.size W0.heap.size A2 c2 m) ∧ Hid (Below W0.heap.size W0 wr)) (fun _ y _ => add.length - (intOf y).toNat)
        case atStart => exact ⟨0, c, A, l, rfl, rfl, by omega, by omega, Lib.hid rfl, HRW, HBR⟩
        case round =>
          clear HRW HBR s0 s1 s2 e0 e1 e2 e3 hbig hbig'
          obtain ⟨i2, c2, A2, m, rfl, rfl, hi2, hm5, HLM, HRW, HBR⟩ := hrel
          obtain ⟨⟨s0, s1, s2⟩, e0, e1, e2, e3⟩ := HYS.out wr HBR.out
          by_cases hlt2 : i2 < add.length
          · have hlt2' : (i2 : Int) < (add.length : Int) := by omega
            have hi20 : (0 : Int) ≤ (i2 : Int) := by omega
            have hmem := List.getElem_mem hlt2
            obtain ⟨eb, eoff, hEA, heb, hecell, _⟩ := HE0.out.add.cell hlt2
            have HTU : Hid (add.take (i2 + 1) = add.take i2 ++ [add[i2]]) := Lib.hid (List.take_succ_eq_append_getElem hlt2)
            simp only at hEA
            subst hEA
            obtain ⟨u, hu⟩ : ∃ u, u = add[i2] := ⟨_, rfl⟩
            rw [← hu] at hmem hecell HTU
            have HUC : Hid (∀ X, Below W0.heap.size W0 X → X.rangeAt eb (eoff + i2 * 6) u.cells) := Lib.hid (fun X hX j y hy => (hX.cell (p := ⟨eb, eoff + i2 * 6 + j, none⟩) heb).trans (hecell j y hy))
            have HUK : Hid (∀ X, Below W0.heap.size W0 X → VfOk X X.heap.size u) := Lib.hid (fun X hX => ((HE0.out.add.ok u hmem).below hX (Nat.le_refl _)).more hX.size)
            have HUB := Lib.hid (HAB.out u hmem)
            clear hu hmem hecell heb
            go_wp2_with fail
            go_loopw [13] (fun y wr => ∃ k : Nat, y = .int .i64 (k : Int) ∧ k ≤ m.length ∧ Hid (∀ x ∈ (m.map Vf.fi).take k, before u.fi x = false) ∧ Hid (Rw wr w.heap.size W0.heap.size A2 c2 m) ∧ Hid (Below W0.heap.size W0 wr)) (fun y _ => m.length - (intOf y).toNat)
            case atStart => exact ⟨0, rfl, by omega, Lib.hid (by simp), HRW, HBR⟩
            case round =>
              clear HRW HBR s0 s1 s2 e0 e1 e2 e3
              obtain ⟨k, rfl, hk, HFA, HRW, HBR⟩ := hrel
              have hcap := HRW.out.row.cap
              by_cases hkm : k < m.length
              · have hkm' : (k : Int) < (m.length : Int) := by omega
                have hk0 : (0 : Int) ≤ (k : Int) := by omega
                obtain ⟨fb, foff, hfA, hfb, hcell, hokv⟩ := HRW.out.rd.cell hkm
                subst hfA
                obtain ⟨v, hv⟩ : ∃ v, v = m[k] := ⟨_, rfl⟩
                rw [← hv] at hcell hokv
                have HV := Lib.hid hv
                obtain ⟨bl, hbl⟩ : ∃ bl, bl = before u.fi v.fi := ⟨_, rfl⟩
                have HBL := Lib.hid hbl
                have HS3 : Hid (∀ X, Below wr.heap.size wr X → X.rangeAt eb (eoff + i2 * 6) u.cells ∧ X.rangeAt fb (foff + k * 6) v.cells ∧ X.cell? ⟨w.heap.size + 1, 0, none⟩ = some (.slice (some ⟨eb, eoff, none⟩) add.length ec)) := Lib.hid (fun X hX => by
                  have hX0 := HBR.out.trans (hX.mono HBR.out.size)
                  exact ⟨HUC.out X hX0, fun j y hy => (hX.cell (p := ⟨fb, foff + k * 6 + j, none⟩) hfb).trans (hcell j y hy), (HYS.out X hX0).2.1⟩)
                have KB : Hid (∀ X, Below wr.heap.size wr X → Calls Tryz.prog 45 #[.agg u.cells.toArray, .agg v.cells.toArray] X fun e w' => e = .returned (.bool bl) ∧ Below X.heap.size X w') := Lib.hid (fun X hX => by
                  rw [hbl]
                  exact rbefore_any u v X (HUK.out X (HBR.out.trans (hX.mono HBR.out.size))) ((hokv.below hX (Nat.le_refl _)).more hX.size))
                clear hcell hokv hv hbl hfb
                go_upto_region 24 with fail
                go_cut [101] from 85 to 103 (fun x wx => x = .bool (!bl) ∧ Hid (Below wr.heap.size wr wx))
                case first =>
                  obtain ⟨V, hV⟩ : ∃ V, V = wr.drew := ⟨_, rfl⟩
                  have hbV : Below wr.heap.size wr V := by rw [hV]; exact ⟨rfl, rfl, rfl, Nat.le_refl _, fun _ _ => rfl⟩
                  have hy := HS3.out V hbV
                  have KP := Lib.hid (KB.out V hbV)
                  have HRG : Hid (∀ X, Below V.heap.size V X → X.rangeAt eb (eoff + i2 * 6) u.cells ∧ X.rangeAt fb (foff + k * 6) v.cells ∧ X.cell? ⟨w.heap.size + 1, 0, none⟩ = some (.slice (some ⟨eb, eoff, none⟩) add.length ec)) := Lib.hid (fun X hX => HS3.out X (hbV.trans (hX.mono hbV.size)))
                  have HBV := Lib.hid hbV
                  have n1 : u.cells.length = 6 := rfl
                  have n2 : v.cells.length = 6 := rfl
                  clear KB HS3 hbV HBL HV HUC HUK HUB HFA HRW
                  generalize u.cells = cI at hy KP n1 HRG
                  generalize v.cells = cJ at hy KP n2 HRG
                  refine wp_region_E 16 (fun X => X.rangeAt eb (eoff + i2 * 6) cI ∧ X.rangeAt fb (foff + k * 6) cJ ∧ X.cell? ⟨w.heap.size + 1, 0, none⟩ = some (.slice (some ⟨eb, eoff, none⟩) add.length ec)) (by kernel_rfl) ?_
                  rw [← hV]
                  clear hV
                  refine wpAnyE_takes [4, 3] (i := 0) (v := .int .i64 (k : Int)) rfl (by kernel_rfl) (by kernel_rfl) (by kernel_rfl) (by kernel_rfl) (by kernel_rfl) (fun _ _ _ h => h) (yields_of1 (.tmp 13) (.int .i64 (k : Int)) (by rfl) (by rfl) ?_) hy ?_
                  · intro E wy hSw hc q1
                    obtain ⟨hs1, hs2, hs3⟩ := hSw
                    go_simp
                  try simp only [Act.put, List.setIfInBounds_toArray]
                  simp only [List.getElem_toArray, List.getElem_cons_zero, List.set_cons_succ, List.set_cons_zero]
                  refine wpAnyE_takes [4, 3, 2] (i := 1) (v := .slice (some ⟨fb, foff, none⟩) m.length c2) rfl (by kernel_rfl) (by kernel_rfl) (by kernel_rfl) (by kernel_rfl) (by kernel_rfl) (fun _ _ _ h => h) (yields_of1 (.tmp 8) (.slice (some ⟨fb, foff, none⟩) m.length c2) (by rfl) (by rfl) ?_) hy ?_
                  · intro E wy hSw hc q1
                    obtain ⟨hs1, hs2, hs3⟩ := hSw
                    go_simp
                  try simp only [Act.put, List.setIfInBounds_toArray]
                  simp only [List.getElem_toArray, List.getElem_cons_succ, List.getElem_cons_zero, List.set_cons_succ, List.set_cons_zero]
                  refine wpAnyE_takes [4, 3] (i := 2) (v := .int .i64 (m.length : Int)) rfl (by kernel_rfl) (by kernel_rfl) (by kernel_rfl) (by kernel_rfl) (by kernel_rfl) (fun _ _ _ h => h) (yields_of1 (.tmp 86) (.slice (some ⟨fb, foff, none⟩) m.length c2) (by rfl) (by rfl) ?_) hy ?_
                  · intro E wy hSw hc q1
                    obtain ⟨hs1, hs2, hs3⟩ := hSw
                    go_simp
                  try simp only [Act.put, List.setIfInBounds_toArray]
                  simp only [List.getElem_toArray, List.getElem_cons_succ, List.getElem_cons_zero, List.set_cons_succ, List.set_cons_zero]
                  refine wpAnyE_takes [4] (i := 3) (v := .bool true) rfl (by kernel_rfl) (by kernel_rfl) (by kernel_rfl) (by kernel_rfl) (by kernel_rfl) (fun _ _ _ h => h) (yields_of2 (.tmp 85) (.tmp 87) (.int .i64 (k : Int)) (.int .i64 (m.length : Int)) (by rfl) (by rfl) (by rfl) ?_) hy ?_
                  · intro E wy hSw hc q1 q2
                    obtain ⟨hs1, hs2, hs3⟩ := hSw
                    go_simp
                  try simp only [Act.put, List.setIfInBounds_toArray]
                  simp only [List.getElem_toArray, List.getElem_cons_succ, List.getElem_cons_zero, List.set_cons_succ, List.set_cons_zero]
                  refine wpAnyE_takes [] (i := 4) (v := .bool true) rfl (by kernel_rfl) (by kernel_rfl) (by kernel_rfl) (by kernel_rfl) (by kernel_rfl) (fun _ _ _ h => h) (yields_of1 (.tmp 88) (.bool true) (by rfl) (by rfl) ?_) hy ?_
                  · intro E wy hSw hc q1
                    obtain ⟨hs1, hs2, hs3⟩ := hSw
                    go_simp
                  try simp only [Act.put, List.setIfInBounds_toArray]
                  simp only [List.getElem_toArray, List.getElem_cons_succ, List.getElem_cons_zero, List.set_cons_succ, List.set_cons_zero]
                  refine wpAnyE_takes [15, 14, 9, 8, 6] (i := 5) (v := .pointer (some ⟨w.heap.size + 1, 0, none⟩)) rfl (by kernel_rfl) (by kernel_rfl) (by kernel_rfl) (by kernel_rfl) (by kernel_rfl) (fun _ _ _ h => h) (yields_of1 (.tmp 3) (.pointer (some ⟨w.heap.size + 1, 0, none⟩)) (by rfl) (by rfl) ?_) hy ?_
                  · intro E wy hSw hc q1
                    obtain ⟨hs1, hs2, hs3⟩ := hSw
                    go_simp
                  try simp only [Act.put, List.setIfInBounds_toArray]
                  simp only [List.getElem_toArray, List.getElem_cons_succ, List.getElem_cons_zero, List.set_cons_succ, List.set_cons_zero]
                  refine wpAnyE_takes [15, 14, 9, 8] (i := 6) (v := .slice (some ⟨eb, eoff, none⟩) add.length ec) rfl (by kernel_rfl) (by kernel_rfl) (by kernel_rfl) (by kernel_rfl) (by kernel_rfl) (fun _ _ _ h => h) (yields_of1 (.tmp 90) (.pointer (some ⟨w.heap.size + 1, 0, none⟩)) (by rfl) (by rfl) ?_) hy ?_
                  · intro E wy hSw hc q1
                    obtain ⟨hs1, hs2, hs3⟩ := hSw
                    go_simp
                  try simp only [Act.put, List.setIfInBounds_toArray]
                  simp only [List.getElem_toArray, List.getElem_cons_succ, List.getElem_cons_zero, List.set_cons_succ, List.set_cons_zero]
                  refine wpAnyE_takes [15, 14, 9, 8] (i := 7) (v := .int .i64 (i2 : Int)) rfl (by kernel_rfl) (by kernel_rfl) (by kernel_rfl) (by kernel_rfl) (by kernel_rfl) (fun _ _ _ h => h) (yields_of1 (.tmp 12) (.int .i64 (i2 : Int)) (by rfl) (by rfl) ?_) hy ?_
                  · intro E wy hSw hc q1
                    obtain ⟨hs1, hs2, hs3⟩ := hSw
                    go_simp
                  try simp only [Act.put, List.setIfInBounds_toArray]
                  simp only [List.getElem_toArray, List.getElem_cons_succ, List.getElem_cons_zero, List.set_cons_succ, List.set_cons_zero]
                  refine wpAnyE_takes [15, 14, 9] (i := 8) (v := .pointer (some ⟨eb, eoff + i2 * 6, none⟩)) rfl (by kernel_rfl) (by kernel_rfl) (by kernel_rfl) (by kernel_rfl) (by kernel_rfl) (fun _ _ _ h => h) (yields_of2 (.tmp 91) (.tmp 92) (.slice (some ⟨eb, eoff, none⟩) add.length ec) (.int .i64 (i2 : Int)) (by rfl) (by rfl) (by rfl) ?_) hy ?_
                  · intro E wy hSw hc q1 q2
                    obtain ⟨hs1, hs2, hs3⟩ := hSw
                    go_simp
                  try simp only [Act.put, List.setIfInBounds_toArray]
                  simp only [List.getElem_toArray, List.getElem_cons_succ, List.getElem_cons_zero, List.set_cons_succ, List.set_cons_zero]
                  refine wpAnyE_takes [15, 14] (i := 9) rfl (by kernel_rfl) (by kernel_rfl) (by kernel_rfl) (by kernel_rfl) (by kernel_rfl) (fun _ _ _ h => h) (yieldsIf_load_mid (by rfl) 43 (.tmp 93) rfl eb (eoff + i2 * 6) (by rfl) cI _ (fun X hX => hX.1) Tryz.underlying43 rfl (by rw [show (Tryz.prog.info? 43).map (·.size) = some 6 from Sym.file_size]; exact congrArg some (Eq.symm (by assumption)))) hy ?_
                  try simp only [Act.put]
                  simp only [List.getElem_toArray, List.getElem_cons_succ, List.getElem_cons_zero, List.setIfInBounds_toArray, List.set_cons_succ, List.set_cons_zero]
                  refine wpAnyE_takes [15, 14, 13, 12] (i := 10) (v := .slice (some ⟨fb, foff, none⟩) m.length c2) rfl (by kernel_rfl) (by kernel_rfl) (by kernel_rfl) (by kernel_rfl) (by kernel_rfl) (fun _ _ _ h => h) (yields_of1 (.tmp 8) (.slice (some ⟨fb, foff, none⟩) m.length c2) (by rfl) (by rfl) ?_) hy ?_
                  · intro E wy hSw hc q1
                    obtain ⟨hs1, hs2, hs3⟩ := hSw
                    go_simp
                  try simp only [Act.put, List.setIfInBounds_toArray]
                  simp only [List.getElem_toArray, List.getElem_cons_succ, List.getElem_cons_zero, List.set_cons_succ, List.set_cons_zero]
                  refine wpAnyE_takes [15, 14, 13, 12] (i := 11) (v := .int .i64 (k : Int)) rfl (by kernel_rfl) (by kernel_rfl) (by kernel_rfl) (by kernel_rfl) (by kernel_rfl) (fun _ _ _ h => h) (yields_of1 (.tmp 13) (.int .i64 (k : Int)) (by rfl) (by rfl) ?_) hy ?_
                  · intro E wy hSw hc q1
                    obtain ⟨hs1, hs2, hs3⟩ := hSw
                    go_simp
                  try simp only [Act.put, List.setIfInBounds_toArray]
                  simp only [List.getElem_toArray, List.getElem_cons_succ, List.getElem_cons_zero, List.set_cons_succ, List.set_cons_zero]
                  refine wpAnyE_takes [15, 14, 13] (i := 12) (v := .pointer (some ⟨fb, foff + k * 6, none⟩)) rfl (by kernel_rfl) (by kernel_rfl) (by kernel_rfl) (by kernel_rfl) (by kernel_rfl) (fun _ _ _ h => h) (yields_of2 (.tmp 95) (.tmp 96) (.slice (some ⟨fb, foff, none⟩) m.length c2) (.int .i64 (k : Int)) (by rfl) (by rfl) (by rfl) ?_) hy ?_
                  · intro E wy hSw hc q1 q2
                    obtain ⟨hs1, hs2, hs3⟩ := hSw
                    go_simp
                  try simp only [Act.put, List.setIfInBounds_toArray]
                  simp only [List.getElem_toArray, List.getElem_cons_succ, List.getElem_cons_zero, List.set_cons_succ, List.set_cons_zero]
                  refine wpAnyE_takes [15, 14] (i := 13) rfl (by kernel_rfl) (by kernel_rfl) (by kernel_rfl) (by kernel_rfl) (by kernel_rfl) (fun _ _ _ h => h) (yieldsIf_load_mid (by rfl) 43 (.tmp 97) rfl fb (foff + k * 6) (by rfl) cJ _ (fun X hX => hX.2.1) Tryz.underlying43 rfl (by rw [show (Tryz.prog.info? 43).map (·.size) = some 6 from Sym.file_size]; exact congrArg some (Eq.symm (by assumption)))) hy ?_
                  try simp only [Act.put]
                  simp only [List.getElem_toArray, List.getElem_cons_succ, List.getElem_cons_zero, List.setIfInBounds_toArray, List.set_cons_succ, List.set_cons_zero]
                  refine wpAnyE_one (i := 14) (by kernel_rfl) rfl (fun K hK => ?_)
                  refine Sym.step_callf2_dv (by rfl) (some 99) (by rfl) (.func 45) (.tmp 94) (.tmp 98) (by rfl) (by rfl) (.agg cI.toArray) (.agg cJ.toArray) rfl rfl (enters_of Tryz.func45 (by kernel_rfl) rfl) _ KP.out ?_
                  rintro e w5 ⟨rfl, hl⟩
                  have HL5 := Lib.hid (HBV.out.trans (hl.mono HBV.out.size))
                  have hy5 := HRG.out w5 hl
                  refine ⟨_, rfl, ?_⟩
                  refine hK _ _ hy5 ?_
                  clear hK K hl hy KP
                  simp only [Act.put, List.setIfInBounds_toArray, List.set_cons_succ, List.set_cons_zero]
                  refine wpAnyE_takes [] (i := 15) (v := .bool (!bl)) rfl (by kernel_rfl) (by kernel_rfl) (by kernel_rfl) (by kernel_rfl) (by kernel_rfl) (fun _ _ _ h => h) (yields_of1 (.tmp 99) (.bool bl) (by rfl) (by rfl) ?_) hy5 ?_
                  · intro E wy hSw hc q1
                    obtain ⟨hs1, hs2, hs3⟩ := hSw
                    go_simp
                  try simp only [Act.put, List.setIfInBounds_toArray]
                  refine wpAnyE_last (by kernel_rfl) (by kernel_rfl) rfl (fun K hK => ?_)
                  refine step_of2 (.tmp 89) (.tmp 100) (.bool true) (.bool (!bl)) (.bool (!bl)) (by rfl) (by rfl) (by rfl) (fun E hc q1 q2 => ?_) ?_
                  · go_simp
                  refine hK _ _ ?_
                  clear hK
                  simp only [List.getElem_toArray, List.getElem_cons_succ, List.getElem_cons_zero, Act.put, List.setIfInBounds_toArray, List.set_cons_succ, List.set_cons_zero]
                  go_wp2_with fail
                  go_meet
                  exact ⟨rfl, HL5⟩
                case rest =>
                  obtain ⟨rfl, HBX⟩ := hcut
                  have HBY := Lib.hid (HBR.out.trans (HBX.out.mono HBR.out.size))
                  have HRY := Lib.hid (HRW.out.below HBX.out)
                  rcases bl with _ | _
                  · have HFA2 : Hid (∀ x ∈ (m.map Vf.fi).take (k + 1), before u.fi x = false) := Lib.hid (fun x hx => by
                      rw [List.take_succ_eq_append_getElem (by rw [List.length_map]; exact hkm), List.mem_append, List.mem_singleton] at hx
                      rcases hx with hx | hx
                      · exact HFA.out x hx
                      · rw [hx, List.getElem_map, ← HV.out]
                        exact HBL.out.symm)
                    go_wp2_with fail
                    exact ⟨⟨k + 1, by simp, hkm, HFA2, HRY, HBY⟩, by simp only [intOf]; omega⟩
                  · have HINS : Hid (ins u.fi (m.map Vf.fi) = (m.map Vf.fi).take k ++ u.fi :: (m.map Vf.fi).drop k) := Lib.hid (ins_at _ _ k (by rw [List.length_map]; exact hk) HFA.out (.inr ⟨by rw [List.length_map]; exact hkm, by rw [List.getElem_map, ← HV.out]; exact HBL.out.symm⟩))
                    clear HRW HBR
                    have HRW := HRY
                    have HBR := HBY
                    clear HRY HBY KB HS3 HBL HV HFA
                    have hszX : W0.heap.size ≤ wc.heap.size := HBR.out.size
                    have HOE := Lib.hid (own_files0 wc wc.heap.size (Nat.le_refl _))
                    have hba : Below wc.heap.size wc (wc.alloc (.cells #[] 43)) := (Below.refl _ _).alloc (Nat.le_refl _) _
                    have HR0 := Lib.hid (HRW.out.below hba)
                    have HBA := Lib.hid (HBR.out.trans (hba.mono HBR.out.size))
                    have HTL : Hid (k = (m.take k).length) := Lib.hid (by rw [List.length_take]; omega)
                    have hkI : (k : Int) ≤ (m.length : Int) := by omega
                    have hcapI : (m.length : Int) ≤ (c2 : Int) := by omega
                    have HBLK : Hid (∀ q, blk (some ⟨fb, foff, none⟩) = some q → q < wc.heap.size) := Lib.hid (fun q e => (HRW.out.row.blk_ge q e).2)
                    clear hba HRW HBR
                    go_wp2_with (at_builtin; (refine wpList_append_s _ rfl _ _ vfT rfl wc.heap.size (some ⟨wc.heap.size, 0, none⟩) 0 [] rfl HOE.out _ (some ⟨fb, foff, none⟩) k c2 (m.take k) rfl HTL.out (RdS.take (f := Vf.cells) (n := 6) (fun _ => rfl) HR0.out.rd.row hk) (by have h1 := HTL.out; show (0 + (m.take k).length) * 80 ≤ 140737488355328; omega) (by have h1 := HTL.out; unfold maxLen; show 0 + (m.take k).length ≤ 9223372036854775807; omega) (by simp) ?_; intro A5 c5 L5 w5 hl5a ho5 hg5 hat5))
                    have HL5 : Hid (L5 = m.take k) := Lib.hid hl5a
                    have HR5 : Hid (Rw w5 w.heap.size wc.heap.size A5 c5 L5) := Lib.hid (by rw [hl5a] at ho5 ⊢; exact Rw.app (l := []) ⟨HOE.out, (fun _ h => by cases h), Nat.le_trans hwW hszX, (by simp)⟩ hg5 ho5 (fun v hv => HR0.out.el v (List.mem_of_mem_take hv)))
                    have HM5 : Hid (Rw w5 w.heap.size W0.heap.size (some ⟨fb, foff, none⟩) c2 m) := Lib.hid (HR0.out.other hg5 HOE.out (Nat.le_trans hwW hszX) HBLK.out)
                    have HB5 : Hid (Below W0.heap.size W0 w5) := Lib.hid (below_grow HBA.out hg5 (fun q hq => Nat.le_trans hszX (HOE.out.blk_ge q hq).1) HBA.out.size)
                    clear hl5a ho5 hg5 hat5 HOE HR0 HBA
                    obtain ⟨⟨s0, s1, s2⟩, e0, e1, e2, e3⟩ := HYS.out w5 HB5.out
                    have j0 := HUC.out w5 HB5.out 0 _ rfl
                    have j1 := HUC.out w5 HB5.out 1 _ rfl
                    have j2 := HUC.out w5 HB5.out 2 _ rfl
                    have j3 := HUC.out w5 HB5.out 3 _ rfl
                    have j4 := HUC.out w5 HB5.out 4 _ rfl
                    have j5 := HUC.out w5 HB5.out 5 _ rfl
                    rw [Nat.add_zero] at j0
                    have kc := rcopy_any u w5 (HUK.out w5 HB5.out) HUB.out.1 HUB.out.2
                    simp only [Vf.val] at kc
                    have KC := Lib.hid kc
                    clear kc
                    simp only [Act.put, List.setIfInBounds_toArray, List.set_cons_succ, List.set_cons_zero]
                    go_wp2_with fail
                    refine KC.out.mono ?_
                    rintro r w6 ⟨v9, rfl, hfi, hown, hb6⟩
                    obtain ⟨nu, lv, FA, fc, fi, LA, lc, la, lo, hi⟩ := v9
                    simp only [Vf.val]
                    have HFI := Lib.hid hfi
                    have HB6 := Lib.hid (HB5.out.trans (hb6.mono HB5.out.size))
                    have HR6 := Lib.hid (HR5.out.below hb6)
                    have HM6 := Lib.hid (HM5.out.below hb6)
                    have HVO : Hid (VfOwn w6 w.heap.size ⟨nu, lv, FA, fc, fi, LA, lc, la, lo, hi⟩) := Lib.hid (hown.mono (Nat.le_trans hwW HB5.out.size))
                    clear hfi hown hb6 KC s0 s1 s2 e0 e1 e2 e3 j0 j1 j2 j3 j4 j5
                    have hba6 : Below w6.heap.size w6 (w6.alloc (.cells #[.int .i64 nu, .int .i64 lv, .slice FA fi.length fc, .slice LA la.length lc, .int .i64 lo, .int .i64 hi] 43)) := (Below.refl _ _).alloc (Nat.le_refl _) _
                    have HR7 := Lib.hid (HR6.out.below hba6)
                    have HM7 := Lib.hid (HM6.out.below hba6)
                    have HB7 := Lib.hid (HB6.out.trans (hba6.mono HB6.out.size))
                    have HVO7 := Lib.hid (HVO.out.below hba6)
                    have hxz : wc.heap.size ≤ w6.heap.size + 1 := by have := HR6.out.sz; omega
                    have HL5L : Hid (L5.length = k) := Lib.hid (by rw [HL5.out]; exact HTL.out.symm)
                    clear hba6
                    go_wp2_with (at_builtin; (refine wpList_append_s _ rfl _ _ vfT rfl wc.heap.size A5 c5 L5 rfl HR7.out.row (w6.heap.size + 1) (some ⟨w6.heap.size, 0, none⟩) 1 1 [⟨nu, lv, FA, fc, fi, LA, lc, la, lo, hi⟩] rfl rfl (rd_vf_new w6 ⟨nu, lv, FA, fc, fi, LA, lc, la, lo, hi⟩) (by have h1 := HL5L.out; show (L5.length + 1) * 80 ≤ 140737488355328; omega) (by have h1 := HL5L.out; unfold maxLen; show L5.length + 1 ≤ 9223372036854775807; omega) (by simp; omega) ?_; intro A6 c6 L6 w7 hl6a ho6 hg6 hat6))
                    have HL6 : Hid (L6 = L5 ++ [⟨nu, lv, FA, fc, fi, LA, lc, la, lo, hi⟩]) := Lib.hid hl6a
                    have HR8 : Hid (Rw w7 w.heap.size wc.heap.size A6 c6 L6) := Lib.hid (by
                      rw [hl6a] at ho6 ⊢
                      exact HR7.out.app hg6 ho6 (fun v hv => by
                        rw [List.mem_singleton] at hv
                        subst hv
                        exact .inr HVO7.out))
                    have HM8 : Hid (Rw w7 w.heap.size W0.heap.size (some ⟨fb, foff, none⟩) c2 m) := Lib.hid (HM7.out.other hg6 HR7.out.row (Nat.le_trans hwW hszX) HBLK.out)
                    have HB8 : Hid (Below W0.heap.size W0 w7) := Lib.hid (below_grow HB7.out hg6 (fun q hq => Nat.le_trans hszX (HR7.out.row.blk_ge q hq).1) HB7.out.size)
                    have HL6L : Hid (L6.length = k + 1) := Lib.hid (by rw [HL6.out, List.length_append, HL5L.out]; rfl)
                    have HDLN : Hid (m.length - k = (m.drop k).length) := Lib.hid (List.length_drop ..).symm
                    have HDR := Lib.hid (RdS.drop (f := Vf.cells) (n := 6) (fun _ => rfl) HM8.out.rd.row (k := k) (cap := c2) hk hcap)
                    have hx7 : wc.heap.size ≤ w7.heap.size := HR8.out.sz
                    clear hl6a ho6 hg6 hat6 HR7 HM7 HB7 HVO7 HR6 HM6 HB6 HVO HR5 HM5 HB5
                    have hne : ¬ c2 = k := by omega
                    rw [if_neg hne, show (some (⟨fb, foff, none⟩ : Addr)).map (fun x => x.add (k * 6)) = some ⟨fb, foff + k * 6, none⟩ from congrArg some (Addr.add_lit fb foff (k * 6))] at HDR
                    simp only [Act.put, List.setIfInBounds_toArray, List.set_cons_succ, List.set_cons_zero]
                    go_wp2_with (at_builtin; (refine wpList_append_s _ rfl _ _ vfT rfl wc.heap.size A6 c6 L6 rfl HR8.out.row _ _ _ _ (m.drop k) rfl (by have h1 := HDLN.out; omega) HDR.out (by have h1 := HL6L.out; have h2 := HDLN.out; omega) (by have h1 := HL6L.out; have h2 := HDLN.out; unfold maxLen; omega) hx7 ?_; intro A7 c7 L7 w8 hl7a ho7 hg7 hat7))
                    have HL7 : Hid (L7 = L6 ++ m.drop k) := Lib.hid hl7a
                    have HR9 : Hid (Rw w8 w.heap.size W0.heap.size A7 c7 L7) := Lib.hid (by
                      rw [hl7a] at ho7 ⊢
                      exact (HR8.out.app hg7 ho7 (fun v hv => HM8.out.el v (List.mem_of_mem_drop hv))).mono hszX hwW)
                    have HB9 : Hid (Below W0.heap.size W0 w8) := Lib.hid (below_grow HB8.out hg7 (fun q hq => Nat.le_trans hszX (HR8.out.row.blk_ge q hq).1) HB8.out.size)
                    have HLM2 : Hid (L7.map Vf.fi = insAll (l.map Vf.fi) ((add.take (i2 + 1)).map Vf.fi)) := Lib.hid (by
                      have h1 : insAll (l.map Vf.fi) ((add.take (i2 + 1)).map Vf.fi) = ins u.fi (insAll (l.map Vf.fi) ((add.take i2).map Vf.fi)) := by
                        rw [HTU.out, List.map_append]
                        unfold insAll
                        rw [List.foldl_append]
                        rfl
                      rw [h1, ← HLM.out, HINS.out, HL7.out, HL6.out, HL5.out, List.map_append, List.map_append, List.map_take, List.map_drop, List.append_assoc, ← HFI.out]
                      rfl)
                    have h79 : L7.length + add.length ≤ 50 + (i2 + 1) := by
                      have h1 := congrArg List.length HL7.out
                      have h2 := HL6L.out
                      have h3 := HDLN.out
                      rw [List.length_append] at h1
                      omega
                    clear hl7a ho7 hg7 hat7
                    simp only [Act.put, List.setIfInBounds_toArray, List.set_cons_succ, List.set_cons_zero]
                    go_wp2_with fail
                    exact ⟨⟨i2 + 1, c7, A7, L7, rfl, by simp, hlt2, h79, HLM2, HR9, HB9⟩, by simp only [intOf]; omega⟩
              · have hke : k = m.length := by omega
                have hkm' : ¬ (k : Int) < (m.length : Int) := by omega
                have hk0 : (0 : Int) ≤ (k : Int) := by omega
                have HINS : Hid (ins u.fi (m.map Vf.fi) = (m.map Vf.fi).take k ++ u.fi :: (m.map Vf.fi).drop k) := Lib.hid (ins_at _ _ k (by rw [List.length_map]; exact hk) HFA.out (.inl (by rw [List.length_map]; exact hke)))
                have HKE := Lib.hid hke
                clear hke
                go_wp2_with fail
                go_quiet (fail)
                refine Sto.drewN_of (fun V hbV hVh => ?_)
                have HRWV := Lib.hid (HRW.out.below hbV)
                have HBRV := Lib.hid (HBR.out.trans (hbV.mono HBR.out.size))
                clear hbV hVh HRW HBR HFA
                obtain ⟨wr, hwr⟩ : ∃ wr, wr = V := ⟨_, rfl⟩
                rw [← hwr] at HRWV HBRV ⊢
                have HRW := HRWV
                have HBR := HBRV
                clear hwr HRWV HBRV hkm'
                have hszX : W0.heap.size ≤ wr.heap.size := HBR.out.size
                have HOE := Lib.hid (own_files0 wr wr.heap.size (Nat.le_refl _))
                have hba : Below wr.heap.size wr (wr.alloc (.cells #[] 43)) := (Below.refl _ _).alloc (Nat.le_refl _) _
                have HR0 := Lib.hid (HRW.out.below hba)
                have HBA := Lib.hid (HBR.out.trans (hba.mono HBR.out.size))
                have HTL : Hid (k = (m.take k).length) := Lib.hid (by rw [List.length_take]; omega)
                have hkI : (k : Int) ≤ (m.length : Int) := by omega
                have hcapI : (m.length : Int) ≤ (c2 : Int) := by omega
                have HBLK : Hid (∀ q, blk A2 = some q → q < wr.heap.size) := Lib.hid (fun q e => (HRW.out.row.blk_ge q e).2)
                clear hba HRW HBR
                go_wp2_with (at_builtin; (refine wpList_append_s _ rfl _ _ vfT rfl wr.heap.size (some ⟨wr.heap.size, 0, none⟩) 0 [] rfl HOE.out _ A2 k c2 (m.take k) rfl HTL.out (RdS.take (f := Vf.cells) (n := 6) (fun _ => rfl) HR0.out.rd.row hk) (by have h1 := HTL.out; show (0 + (m.take k).length) * 80 ≤ 140737488355328; omega) (by have h1 := HTL.out; unfold maxLen; show 0 + (m.take k).length ≤ 9223372036854775807; omega) (by simp) ?_; intro A5 c5 L5 w5 hl5a ho5 hg5 hat5))
                have HL5 : Hid (L5 = m.take k) := Lib.hid hl5a
                have HR5 : Hid (Rw w5 w.heap.size wr.heap.size A5 c5 L5) := Lib.hid (by rw [hl5a] at ho5 ⊢; exact Rw.app (l := []) ⟨HOE.out, (fun _ h => by cases h), Nat.le_trans hwW hszX, (by simp)⟩ hg5 ho5 (fun v hv => HR0.out.el v (List.mem_of_mem_take hv)))
                have HM5 : Hid (Rw w5 w.heap.size W0.heap.size A2 c2 m) := Lib.hid (HR0.out.other hg5 HOE.out (Nat.le_trans hwW hszX) HBLK.out)
                have HB5 : Hid (Below W0.heap.size W0 w5) := Lib.hid (below_grow HBA.out hg5 (fun q hq => Nat.le_trans hszX (HOE.out.blk_ge q hq).1) HBA.out.size)
                clear hl5a ho5 hg5 hat5 HOE HR0 HBA
                obtain ⟨⟨s0, s1, s2⟩, e0, e1, e2, e3⟩ := HYS.out w5 HB5.out
                have j0 := HUC.out w5 HB5.out 0 _ rfl
                have j1 := HUC.out w5 HB5.out 1 _ rfl
                have j2 := HUC.out w5 HB5.out 2 _ rfl
                have j3 := HUC.out w5 HB5.out 3 _ rfl
                have j4 := HUC.out w5 HB5.out 4 _ rfl
                have j5 := HUC.out w5 HB5.out 5 _ rfl
                rw [Nat.add_zero] at j0
                have kc := rcopy_any u w5 (HUK.out w5 HB5.out) HUB.out.1 HUB.out.2
                simp only [Vf.val] at kc
                have KC := Lib.hid kc
                clear kc
                simp only [Act.put, List.setIfInBounds_toArray, List.set_cons_succ, List.set_cons_zero]
                go_wp2_with fail
                refine KC.out.mono ?_
                rintro r w6 ⟨v9, rfl, hfi, hown, hb6⟩
                obtain ⟨nu, lv, FA, fc, fi, LA, lc, la, lo, hi⟩ := v9
                simp only [Vf.val]
                have HFI := Lib.hid hfi
                have HB6 := Lib.hid (HB5.out.trans (hb6.mono HB5.out.size))
                have HR6 := Lib.hid (HR5.out.below hb6)
                have HM6 := Lib.hid (HM5.out.below hb6)
                have HVO : Hid (VfOwn w6 w.heap.size ⟨nu, lv, FA, fc, fi, LA, lc, la, lo, hi⟩) := Lib.hid (hown.mono (Nat.le_trans hwW HB5.out.size))
                clear hfi hown hb6 KC s0 s1 s2 e0 e1 e2 e3 j0 j1 j2 j3 j4 j5
                have hba6 : Below w6.heap.size w6 (w6.alloc (.cells #[.int .i64 nu, .int .i64 lv, .slice FA fi.length fc, .slice LA la.length lc, .int .i64 lo, .int .i64 hi] 43)) := (Below.refl _ _).alloc (Nat.le_refl _) _
                have HR7 := Lib.hid (HR6.out.below hba6)
                have HM7 := Lib.hid (HM6.out.below hba6)
                have HB7 := Lib.hid (HB6.out.trans (hba6.mono HB6.out.size))
                have HVO7 := Lib.hid (HVO.out.below hba6)
                have hxz : wr.heap.size ≤ w6.heap.size + 1 := by have := HR6.out.sz; omega
                have HL5L : Hid (L5.length = k) := Lib.hid (by rw [HL5.out]; exact HTL.out.symm)
                clear hba6
                go_wp2_with (at_builtin; (refine wpList_append_s _ rfl _ _ vfT rfl wr.heap.size A5 c5 L5 rfl HR7.out.row (w6.heap.size + 1) (some ⟨w6.heap.size, 0, none⟩) 1 1 [⟨nu, lv, FA, fc, fi, LA, lc, la, lo, hi⟩] rfl rfl (rd_vf_new w6 ⟨nu, lv, FA, fc, fi, LA, lc, la, lo, hi⟩) (by have h1 := HL5L.out; show (L5.length + 1) * 80 ≤ 140737488355328; omega) (by have h1 := HL5L.out; unfold maxLen; show L5.length + 1 ≤ 9223372036854775807; omega) (by simp; omega) ?_; intro A6 c6 L6 w7 hl6a ho6 hg6 hat6))
                have HL6 : Hid (L6 = L5 ++ [⟨nu, lv, FA, fc, fi, LA, lc, la, lo, hi⟩]) := Lib.hid hl6a
                have HR8 : Hid (Rw w7 w.heap.size wr.heap.size A6 c6 L6) := Lib.hid (by
                  rw [hl6a] at ho6 ⊢
                  exact HR7.out.app hg6 ho6 (fun v hv => by
                    rw [List.mem_singleton] at hv
                    subst hv
                    exact .inr HVO7.out))
                have HM8 : Hid (Rw w7 w.heap.size W0.heap.size A2 c2 m) := Lib.hid (HM7.out.other hg6 HR7.out.row (Nat.le_trans hwW hszX) HBLK.out)
                have HB8 : Hid (Below W0.heap.size W0 w7) := Lib.hid (below_grow HB7.out hg6 (fun q hq => Nat.le_trans hszX (HR7.out.row.blk_ge q hq).1) HB7.out.size)
                have HL6L : Hid (L6.length = k + 1) := Lib.hid (by rw [HL6.out, List.length_append, HL5L.out]; rfl)
                have HDLN : Hid (m.length - k = (m.drop k).length) := Lib.hid (List.length_drop ..).symm
                have HDR := Lib.hid (RdS.drop (f := Vf.cells) (n := 6) (fun _ => rfl) HM8.out.rd.row (k := k) (cap := c2) hk hcap)
                have hx7 : wr.heap.size ≤ w7.heap.size := HR8.out.sz
                clear hl6a ho6 hg6 hat6 HR7 HM7 HB7 HVO7 HR6 HM6 HB6 HVO HR5 HM5 HB5
                by_cases hne : c2 = k
                · rw [if_pos hne] at HDR
                  simp only [Act.put, List.setIfInBounds_toArray, List.set_cons_succ, List.set_cons_zero]
                  go_wp2_with (at_builtin; (refine wpList_append_s _ rfl _ _ vfT rfl wr.heap.size A6 c6 L6 rfl HR8.out.row _ _ _ _ (m.drop k) rfl (by have h1 := HDLN.out; omega) HDR.out (by have h1 := HL6L.out; have h2 := HDLN.out; omega) (by have h1 := HL6L.out; have h2 := HDLN.out; unfold maxLen; omega) hx7 ?_; intro A7 c7 L7 w8 hl7a ho7 hg7 hat7))
                  have HL7 : Hid (L7 = L6 ++ m.drop k) := Lib.hid hl7a
                  have HR9 : Hid (Rw w8 w.heap.size W0.heap.size A7 c7 L7) := Lib.hid (by
                    rw [hl7a] at ho7 ⊢
                    exact (HR8.out.app hg7 ho7 (fun v hv => HM8.out.el v (List.mem_of_mem_drop hv))).mono hszX hwW)
                  have HB9 : Hid (Below W0.heap.size W0 w8) := Lib.hid (below_grow HB8.out hg7 (fun q hq => Nat.le_trans hszX (HR8.out.row.blk_ge q hq).1) HB8.out.size)
                  have HLM2 : Hid (L7.map Vf.fi = insAll (l.map Vf.fi) ((add.take (i2 + 1)).map Vf.fi)) := Lib.hid (by
                    have h1 : insAll (l.map Vf.fi) ((add.take (i2 + 1)).map Vf.fi) = ins u.fi (insAll (l.map Vf.fi) ((add.take i2).map Vf.fi)) := by
                      rw [HTU.out, List.map_append]
                      unfold insAll
                      rw [List.foldl_append]
                      rfl
                    rw [h1, ← HLM.out, HINS.out, HL7.out, HL6.out, HL5.out, List.map_append, List.map_append, List.map_take, List.map_drop, List.append_assoc, ← HFI.out]
                    rfl)
                  have h79 : L7.length + add.length ≤ 50 + (i2 + 1) := by
                    have h1 := congrArg List.length HL7.out
                    have h2 := HL6L.out
                    have h3 := HDLN.out
                    rw [List.length_append] at h1
                    omega
                  clear hl7a ho7 hg7 hat7
                  simp only [Act.put, List.setIfInBounds_toArray, List.set_cons_succ, List.set_cons_zero]
                  go_wp2_with fail
                  exact ⟨⟨i2 + 1, c7, A7, L7, rfl, by simp, hlt2, h79, HLM2, HR9, HB9⟩, by simp only [intOf]; omega⟩
                · rw [if_neg hne] at HDR
                  simp only [Act.put, List.setIfInBounds_toArray, List.set_cons_succ, List.set_cons_zero]
                  go_wp2_with (at_builtin; (refine wpList_append_s _ rfl _ _ vfT rfl wr.heap.size A6 c6 L6 rfl HR8.out.row _ _ _ _ (m.drop k) rfl (by have h1 := HDLN.out; omega) HDR.out (by have h1 := HL6L.out; have h2 := HDLN.out; omega) (by have h1 := HL6L.out; have h2 := HDLN.out; unfold maxLen; omega) hx7 ?_; intro A7 c7 L7 w8 hl7a ho7 hg7 hat7))
                  have HL7 : Hid (L7 = L6 ++ m.drop k) := Lib.hid hl7a
                  have HR9 : Hid (Rw w8 w.heap.size W0.heap.size A7 c7 L7) := Lib.hid (by
                    rw [hl7a] at ho7 ⊢
                    exact (HR8.out.app hg7 ho7 (fun v hv => HM8.out.el v (List.mem_of_mem_drop hv))).mono hszX hwW)
                  have HB9 : Hid (Below W0.heap.size W0 w8) := Lib.hid (below_grow HB8.out hg7 (fun q hq => Nat.le_trans hszX (HR8.out.row.blk_ge q hq).1) HB8.out.size)
                  have HLM2 : Hid (L7.map Vf.fi = insAll (l.map Vf.fi) ((add.take (i2 + 1)).map Vf.fi)) := Lib.hid (by
                    have h1 : insAll (l.map Vf.fi) ((add.take (i2 + 1)).map Vf.fi) = ins u.fi (insAll (l.map Vf.fi) ((add.take i2).map Vf.fi)) := by
                      rw [HTU.out, List.map_append]
                      unfold insAll
                      rw [List.foldl_append]
                      rfl
                    rw [h1, ← HLM.out, HINS.out, HL7.out, HL6.out, HL5.out, List.map_append, List.map_append, List.map_take, List.map_drop, List.append_assoc, ← HFI.out]
                    rfl)
                  have h79 : L7.length + add.length ≤ 50 + (i2 + 1) := by
                    have h1 := congrArg List.length HL7.out
                    have h2 := HL6L.out
                    have h3 := HDLN.out
                    rw [List.length_append] at h1
                    omega
                  clear hl7a ho7 hg7 hat7
                  simp only [Act.put, List.setIfInBounds_toArray, List.set_cons_succ, List.set_cons_zero]
                  go_wp2_with fail
                  exact ⟨⟨i2 + 1, c7, A7, L7, rfl, by simp, hlt2, h79, HLM2, HR9, HB9⟩, by simp only [intOf]; omega⟩
          · have hlt2' : ¬ (i2 : Int) < (add.length : Int) := by omega
            have HLE : Hid (m.map Vf.fi = insAll (l.map Vf.fi) (add.map Vf.fi)) := Lib.hid (by rw [HLM.out, List.take_of_length_le (by omega)])
            have hml : m.length ≤ 1000000 := by omega
            obtain ⟨w10, hw10⟩ : ∃ w10, w10 = wr.alloc (.cells #[.slice A2 m.length c2, .int .i64 log, .int .i64 next] 24) := ⟨_, rfl⟩
            have hb10 : Below wr.heap.size wr w10 := by rw [hw10]; exact (Below.refl _ _).alloc (Nat.le_refl _) _
            have hx10 : w10.heap[wr.heap.size]? = some (.cells #[.slice A2 m.length c2, .int .i64 log, .int .i64 next] 24) := by rw [hw10]; exact heap_alloc_new wr _
            have HB10 := Lib.hid (HBR.out.trans (hb10.mono HBR.out.size))
            have HR10 := Lib.hid (HRW.out.below hb10)
            have kr := rright_any A2 c2 m log next w10 HR10.out.rd hml
            obtain ⟨r3, hr3⟩ : ∃ r3, r3 = right ⟨m.map Vf.fi, log, next⟩ := ⟨_, rfl⟩
            rw [← hr3, hw10] at kr
            have KR3 := Lib.hid kr
            have HR3 := Lib.hid hr3
            have HX10 := Lib.hid hx10
            have HW10 := Lib.hid hw10
            clear hw10 hb10 hx10 kr hr3
            go_wp2_with fail
            refine KR3.out.mono ?_
            rw [← HW10.out]
            rintro r w11 ⟨rfl, hb11⟩
            dsimp only
            have HB11 := Lib.hid (HB10.out.trans (hb11.mono HB10.out.size))
            have HR11 := Lib.hid (HR10.out.below hb11)
            have HX11 := Lib.hid ((hb11.block _ (Array.getElem?_eq_some_iff.1 HX10.out).1).trans HX10.out)
            clear s0 s1 s2 e0 e1 e2 e3 hb11 KR3
            obtain ⟨⟨s0, s1, s2⟩, e0, e1, e2, e3⟩ := HYS.out w11 HB11.out
            by_cases h1 : log < slog
            · have HEQ : Hid (p = (10, none0)) := Lib.hid (by rw [HHE.out, if_pos (.inl h1)])
              have h1' : decide (log < slog) = true := decide_eq_true h1
              obtain ⟨z0, z1, z2, g0, g1, g2⟩ := HZF.out w11 HB11.out
              have HBX := Lib.hid (HB11.out)
              go_wp2_with fail
              refine bodyPost_ret (results_c2v rfl _ _ (w.heap.size + 1 + 1) 24 #[.slice none 0 0, .int .i64 0, .int .i64 0] (0, 0) _ rfl (heap3v (HZ.out _ HBX.out)) Tryz.underlying24 rfl state_size) rfl ?_
              rw [HEQ.out]
              exact ⟨(((HB0.out.trans (HBX.out.mono HB0.out.size)).setCell (show w.heap.size ≤ w.heap.size + 1 + 1 by omega) _).setCell (show w.heap.size ≤ w.heap.size + 1 + 1 by omega) _).setCell (show w.heap.size ≤ w.heap.size + 1 + 1 by omega) _, none, 0, [], rfl, rfl, RdV.nil⟩
            · have h1' : decide (log < slog) = false := decide_eq_false h1
              by_cases h2 : next < snext
              · have HEQ : Hid (p = (10, none0)) := Lib.hid (by rw [HHE.out, if_pos (.inr (.inl h2))])
                have h2' : decide (next < snext) = true := decide_eq_true h2
                obtain ⟨z0, z1, z2, g0, g1, g2⟩ := HZF.out w11 HB11.out
                have HBX := Lib.hid (HB11.out)
                go_wp2_with fail
                refine bodyPost_ret (results_c2v rfl _ _ (w.heap.size + 1 + 1) 24 #[.slice none 0 0, .int .i64 0, .int .i64 0] (0, 0) _ rfl (heap3v (HZ.out _ HBX.out)) Tryz.underlying24 rfl state_size) rfl ?_
                rw [HEQ.out]
                exact ⟨(((HB0.out.trans (HBX.out.mono HB0.out.size)).setCell (show w.heap.size ≤ w.heap.size + 1 + 1 by omega) _).setCell (show w.heap.size ≤ w.heap.size + 1 + 1 by omega) _).setCell (show w.heap.size ≤ w.heap.size + 1 + 1 by omega) _, none, 0, [], rfl, rfl, RdV.nil⟩
              · have h2' : decide (next < snext) = false := decide_eq_false h2
                rcases r3 with _ | _
                · have HEQ : Hid (p = (10, none0)) := Lib.hid (by rw [HHE.out, if_pos (.inr (.inr (by rw [← HLE.out]; exact HR3.out.symm)))])
                  obtain ⟨z0, z1, z2, g0, g1, g2⟩ := HZF.out w11 HB11.out
                  have HBX := Lib.hid (HB11.out)
                  go_wp2_with fail
                  refine bodyPost_ret (results_c2v rfl _ _ (w.heap.size + 1 + 1) 24 #[.slice none 0 0, .int .i64 0, .int .i64 0] (0, 0) _ rfl (heap3v (HZ.out _ HBX.out)) Tryz.underlying24 rfl state_size) rfl ?_
                  rw [HEQ.out]
                  exact ⟨(((HB0.out.trans (HBX.out.mono HB0.out.size)).setCell (show w.heap.size ≤ w.heap.size + 1 + 1 by omega) _).setCell (show w.heap.size ≤ w.heap.size + 1 + 1 by omega) _).setCell (show w.heap.size ≤ w.heap.size + 1 + 1 by omega) _, none, 0, [], rfl, rfl, RdV.nil⟩
                · have HEQ : Hid (p = (0, ⟨m.map Vf.fi, log, next⟩)) := Lib.hid (by rw [HHE.out, if_neg (by rw [← HLE.out, ← HR3.out]; simp [h1, h2]), HLE.out])
                  obtain ⟨q0, q1, q2⟩ : w11.cell? ⟨wr.heap.size, 0, none⟩ = some (.slice A2 m.length c2) ∧ w11.cell? ⟨wr.heap.size, 1, none⟩ = some (.int .i64 log) ∧ w11.cell? ⟨wr.heap.size, 2, none⟩ = some (.int .i64 next) := ⟨by rw [cell_of_row w11 _ 0 _ _ (0, 0) HX11.out]; rfl, by rw [cell_of_row w11 _ 1 _ _ (0, 0) HX11.out]; rfl, by rw [cell_of_row w11 _ 2 _ _ (0, 0) HX11.out]; rfl⟩
                  obtain ⟨z0, z1, z2, g0, g1, g2⟩ := HZF.out w11 HB11.out
                  go_wp2_with fail
                  refine bodyPost_ret (results_c2v rfl _ _ (w.heap.size + 1 + 1) 24 #[.slice A2 m.length c2, .int .i64 log, .int .i64 next] (0, 0) _ rfl (heap3v (HZ.out _ HB11.out)) Tryz.underlying24 rfl state_size) rfl ?_
                  rw [HEQ.out]
                  refine ⟨(((HB0.out.trans (HB11.out.mono HB0.out.size)).setCell (show w.heap.size ≤ w.heap.size + 1 + 1 by omega) _).setCell (show w.heap.size ≤ w.heap.size + 1 + 1 by omega) _).setCell (show w.heap.size ≤ w.heap.size + 1 + 1 by omega) _, A2, c2, m, rfl, rfl, ?_⟩
                  exact HR11.out.three (HZ.out _ HB11.out) (by have := HZ0.out; omega) (by omega)
end Ver
end Go.Proofs.YtgmnhdkdicgkcaaGreatDoor

namespace Go.Proofs.YtgmnhdkdicgkcaaGreatDoor
open Go.RowKit Go.Maps

namespace Ver
/-- Are two files one? -/
def fiE (a b : Fi) : Bool := a.number == b.number && (a.level == b.level && (a.first == b.first && (a.last == b.last && (a.low == b.low && a.high == b.high))))
theorem fiE_iff {a b : Fi} : fiE a b = true ↔ a = b := by
  obtain ⟨a1, a2, a3, a4, a5, a6⟩ := a
  obtain ⟨b1, b2, b3, b4, b5, b6⟩ := b
  simp [fiE]
theorem fiE_refl (a : Fi) : fiE a a = true := fiE_iff.2 rfl
/-- .. two rows? -/
def fisE : List Fi → List Fi → Bool
  | [], [] => true
  | a :: l, b :: m => fiE a b && fisE l m
  | _, _ => false
theorem fisE_refl : ∀ l : List Fi, fisE l l = true
  | [] => rfl
  | a :: l => by unfold fisE; rw [fiE_refl, fisE_refl l]; rfl
theorem fisE_len : ∀ l m : List Fi, l.length ≠ m.length → fisE l m = false
  | [], [], h => absurd rfl h
  | [], _ :: _, _ => rfl
  | _ :: _, [], _ => rfl
  | a :: l, b :: m, h => by unfold fisE; rw [fisE_len l m (by simpa using h)]; simp
theorem fisE_step {l m : List Fi} {k : Nat} (hl : k < l.length) (hm : k < m.length) : fisE (l.drop k) (m.drop k) = (fiE l[k] m[k] && fisE (l.drop (k + 1)) (m.drop (k + 1))) := by
  rw [List.drop_eq_getElem_cons hl, List.drop_eq_getElem_cons hm]
  rfl
theorem fi_ne {a b : Fi} (h : a.number ≠ b.number ∨ a.level ≠ b.level ∨ a.first ≠ b.first ∨ a.last ≠ b.last ∨ a.low ≠ b.low ∨ a.high ≠ b.high) : fiE a b = false := by
  cases hq : fiE a b with
  | false => rfl
  | true =>
    have e := fiE_iff.1 hq
    subst e
    simp at h
theorem fi_eq {n1 n2 v1 v2 lo1 lo2 hi1 hi2 : Int} {f1 f2 l1 l2 : List UInt8} (h1 : n1 = n2) (h2 : v1 = v2) (h3 : f1 = f2) (h4 : l1 = l2) (h5 : lo1 = lo2) (h6 : hi1 = hi2) : fiE ⟨n1, v1, f1, l1, lo1, hi1⟩ ⟨n2, v2, f2, l2, lo2, hi2⟩ = true := by
  rw [h1, h2, h3, h4, h5, h6]
  exact fiE_refl _
set_option maxHeartbeats 4000000 in
set_option maxRecDepth 100000 in
theorem rsameFile_any (u v : Vf) (w : World) (hu : VfOk w w.heap.size u) (hv : VfOk w w.heap.size v) : Calls Tryz.prog 59 #[u.val, v.val] w fun e w' => e = .returned (.bool (fiE u.fi v.fi)) ∧ Below w.heap.size w w' := by
  obtain ⟨n1, v1, FA1, fc1, f1, LA1, lc1, l1, lo1, hi1⟩ := u
  obtain ⟨n2, v2, FA2, fc2, f2, LA2, lc2, l2, lo2, hi2⟩ := v
  unfold Vf.val Vf.fi
  obtain ⟨q, hq⟩ : ∃ q, q = fiE ⟨n1, v1, f1, l1, lo1, hi1⟩ ⟨n2, v2, f2, l2, lo2, hi2⟩ := ⟨_, rfl⟩
  simp only
  rw [← hq]
  obtain ⟨O, hO⟩ : ∃ O : Obj, Obj.cells #[.int .i64 n1, .int .i64 v1, .slice FA1 f1.length fc1, .slice LA1 l1.length lc1, .int .i64 lo1, .int .i64 hi1] 43 = O := ⟨_, rfl⟩
  obtain ⟨U, hU⟩ : ∃ U : Obj, Obj.cells #[.int .i64 n2, .int .i64 v2, .slice FA2 f2.length fc2, .slice LA2 l2.length lc2, .int .i64 lo2, .int .i64 hi2] 43 = U := ⟨_, rfl⟩
  have hb : Below w.heap.size w ((w.alloc O).alloc U) := ((Below.refl _ _).alloc (Nat.le_refl _) O).alloc (by simp) U
  obtain ⟨X, hX⟩ : ∃ X : ByteArray, (⟨f1.toArray⟩ : ByteArray) = X := ⟨_, rfl⟩
  obtain ⟨Y, hY⟩ : ∃ Y : ByteArray, (⟨f2.toArray⟩ : ByteArray) = Y := ⟨_, rfl⟩
  obtain ⟨X2, hX2⟩ : ∃ X : ByteArray, (⟨l1.toArray⟩ : ByteArray) = X := ⟨_, rfl⟩
  obtain ⟨Y2, hY2⟩ : ∃ Y : ByteArray, (⟨l2.toArray⟩ : ByteArray) = Y := ⟨_, rfl⟩
  have c1 := strB_to (c := fc1) ((hu.below hb (Nat.le_refl _)).f) hX
  have c2 := strB_to (c := fc2) ((hv.below hb (Nat.le_refl _)).f) hY
  have c3 := strB_to (c := lc1) ((hu.below hb (Nat.le_refl _)).l) hX2
  have c4 := strB_to (c := lc2) ((hv.below hb (Nat.le_refl _)).l) hY2
  have HE1 := Lib.hid (less_to hX hY).2
  have HE2 := Lib.hid (less_to hX2 hY2).2
  have HB := Lib.hid hb
  rw [← hO, ← hU] at HB c1 c2 c3 c4
  have HQ := Lib.hid hq
  clear hO hU hb hX hY hX2 hY2 hu hv hq
  go_enter Tryz.func59, Tryz.ntmps59
  by_cases x1 : n1 = n2
  rotate_left
  · have y1 : (n1 == n2) = false := by simpa using x1
    have HE : Hid (q = false) := Lib.hid (by rw [HQ.out]; exact fi_ne (.inl x1))
    clear x1
    go_wp2_with fail
    go_ret
    exact ⟨ret_q HE.out.symm, HB.out⟩
  have y1 : (n1 == n2) = true := by simpa using x1
  have H1 := Lib.hid x1
  clear x1
  by_cases x2 : v1 = v2
  rotate_left
  · have y2 : (v1 == v2) = false := by simpa using x2
    have HE : Hid (q = false) := Lib.hid (by rw [HQ.out]; exact fi_ne (.inr (.inl x2)))
    clear x2
    go_wp2_with fail
    go_ret
    exact ⟨ret_q HE.out.symm, HB.out⟩
  have y2 : (v1 == v2) = true := by simpa using x2
  have H2 := Lib.hid x2
  clear x2
  cases y3 : (X.toList == Y.toList) with
  | false =>
    have HE : Hid (q = false) := Lib.hid (by rw [HQ.out]; exact fi_ne (.inr (.inr (.inl (by have h := HE1.out; rw [y3] at h; simpa using h.symm)))))
    go_wp2_with fail
    go_ret
    exact ⟨ret_q HE.out.symm, HB.out⟩
  | true =>
    have H3 : Hid (f1 = f2) := Lib.hid (by have h := HE1.out; rw [y3] at h; simpa using h.symm)
    cases y4 : (X2.toList == Y2.toList) with
    | false =>
      have HE : Hid (q = false) := Lib.hid (by rw [HQ.out]; exact fi_ne (.inr (.inr (.inr (.inl (by have h := HE2.out; rw [y4] at h; simpa using h.symm))))))
      go_wp2_with fail
      go_ret
      exact ⟨ret_q HE.out.symm, HB.out⟩
    | true =>
      have H4 : Hid (l1 = l2) := Lib.hid (by have h := HE2.out; rw [y4] at h; simpa using h.symm)
      by_cases x5 : lo1 = lo2
      rotate_left
      · have y5 : (lo1 == lo2) = false := by simpa using x5
        have HE : Hid (q = false) := Lib.hid (by rw [HQ.out]; exact fi_ne (.inr (.inr (.inr (.inr (.inl x5))))))
        clear x5
        go_wp2_with fail
        go_ret
        exact ⟨ret_q HE.out.symm, HB.out⟩
      have y5 : (lo1 == lo2) = true := by simpa using x5
      have H5 := Lib.hid x5
      clear x5
      by_cases x6 : hi1 = hi2
      · have y6 : (hi1 == hi2) = true := by simpa using x6
        have HE : Hid (q = true) := Lib.hid (by rw [HQ.out]; exact fi_eq H1.out H2.out H3.out H4.out H5.out x6)
        clear x6
        go_wp2_with fail
        go_ret
        exact ⟨ret_q HE.out.symm, HB.out⟩
      · have y6 : (hi1 == hi2) = false := by simpa using x6
        have HE : Hid (q = false) := Lib.hid (by rw [HQ.out]; exact fi_ne (.inr (.inr (.inr (.inr (.inr x6))))))
        clear x6
        go_wp2_with fail
        go_ret
        exact ⟨ret_q HE.out.symm, HB.out⟩
end Ver
end Go.Proofs.YtgmnhdkdicgkcaaGreatDoor

namespace Go.Proofs.YtgmnhdkdicgkcaaGreatDoor
open Go.RowKit Go.Maps

namespace Ver
set_option maxHeartbeats 4000000 in
set_option maxRecDepth 400000 in
theorem rsameFiles_any (A B : Option Addr) (c d : Nat) (l m : List Vf) (w : World) (hl : RdV w w.heap.size A l) (hm : RdV w w.heap.size B m) (hll : l.length ≤ 1000000) :
    Calls Tryz.prog 18 #[.slice A l.length c, .slice B m.length d] w fun e w' => e = .returned (.bool (fisE (l.map Vf.fi) (m.map Vf.fi))) ∧ Below w.heap.size w w' := by
  have HL := Lib.hid hl
  have HM := Lib.hid hm
  obtain ⟨q, hq⟩ : ∃ q, q = fisE (l.map Vf.fi) (m.map Vf.fi) := ⟨_, rfl⟩
  rw [← hq]
  have HQ := Lib.hid hq
  clear hl hm hq
  go_enter Tryz.func18, Tryz.ntmps18
  by_cases hlm : l.length = m.length
  rotate_left
  · have y1 : ((l.length : Int) != (m.length : Int)) = true := by simp; omega
    have HE : Hid (q = false) := Lib.hid (by rw [HQ.out]; exact fisE_len _ _ (by simpa using hlm))
    clear hlm
    go_wp2_with fail
    go_ret
    exact ⟨ret_q HE.out.symm, Below.refl _ _⟩
  have y1 : ((l.length : Int) != (m.length : Int)) = false := by simp; omega
  have HLN := Lib.hid hlm
  clear hlm
  go_wp2_with fail
  clear y1
  go_loopw [5] (fun x wr => ∃ k : Nat, x = .int .i64 (k : Int) ∧ k ≤ l.length ∧ Hid (Below w.heap.size w wr) ∧ Hid (q = fisE ((l.map Vf.fi).drop k) ((m.map Vf.fi).drop k))) (fun x _ => l.length - (intOf x).toNat)
  case atStart => exact ⟨0, rfl, by omega, Lib.hid (Below.refl _ _), Lib.hid HQ.out⟩
  case round =>
    obtain ⟨k, rfl, hk, HBR, HQK⟩ := hrel
    by_cases hkl : k < l.length
    · have hkm : k < m.length := by have := HLN.out; omega
      have hkl' : (k : Int) < (l.length : Int) := by omega
      have hkm' : (k : Int) < (m.length : Int) := by omega
      have hk0 : (0 : Int) ≤ (k : Int) := by omega
      obtain ⟨eb, eoff, hA, heb, hecell, hoku⟩ := HL.out.cell hkl
      obtain ⟨fb, foff, hB, hfb, hfcell, hokv⟩ := HM.out.cell hkm
      subst hA hB
      have HST : Hid (q = (fiE l[k].fi m[k].fi && fisE ((l.map Vf.fi).drop (k + 1)) ((m.map Vf.fi).drop (k + 1)))) := Lib.hid (by
        rw [HQK.out, fisE_step (by simpa using hkl) (by simpa using hkm), List.getElem_map, List.getElem_map])
      obtain ⟨u, hu⟩ : ∃ u, u = l[k] := ⟨_, rfl⟩
      obtain ⟨v, hv⟩ : ∃ v, v = m[k] := ⟨_, rfl⟩
      rw [← hu] at hecell hoku HST
      rw [← hv] at hfcell hokv HST
      obtain ⟨bl, hbl⟩ : ∃ bl, bl = fiE u.fi v.fi := ⟨_, rfl⟩
      rw [← hbl] at HST
      have HBL := Lib.hid hbl
      have HS3 : Hid (∀ X, Below wr.heap.size wr X → X.rangeAt eb (eoff + k * 6) u.cells ∧ X.rangeAt fb (foff + k * 6) v.cells) := Lib.hid (fun X hX => by
        have hX0 := HBR.out.trans (hX.mono HBR.out.size)
        exact ⟨fun j y hy => (hX0.cell (p := ⟨eb, eoff + k * 6 + j, none⟩) heb).trans (hecell j y hy), fun j y hy => (hX0.cell (p := ⟨fb, foff + k * 6 + j, none⟩) hfb).trans (hfcell j y hy)⟩)
      have KB : Hid (∀ X, Below wr.heap.size wr X → Calls Tryz.prog 59 #[.agg u.cells.toArray, .agg v.cells.toArray] X fun e w' => e = .returned (.bool bl) ∧ Below X.heap.size X w') := Lib.hid (fun X hX => by
        have hX0 := HBR.out.trans (hX.mono HBR.out.size)
        rw [hbl]
        exact rsameFile_any u v X ((hoku.below hX0 (Nat.le_refl _)).more hX0.size) ((hokv.below hX0 (Nat.le_refl _)).more hX0.size))
      clear hecell hoku hfcell hokv hu hv hbl heb hfb
      go_upto_region 6 with fail
      go_cut [6] from 12 to 28 (fun x wx => x = .bool bl ∧ Hid (Below wr.heap.size wr wx))
      case first =>
        obtain ⟨V, hV⟩ : ∃ V, V = wr.drew := ⟨_, rfl⟩
        have hbV : Below wr.heap.size wr V := by rw [hV]; exact ⟨rfl, rfl, rfl, Nat.le_refl _, fun _ _ => rfl⟩
        have hy := HS3.out V hbV
        have KP := Lib.hid (KB.out V hbV)
        have HRG : Hid (∀ X, Below V.heap.size V X → X.rangeAt eb (eoff + k * 6) u.cells ∧ X.rangeAt fb (foff + k * 6) v.cells) := Lib.hid (fun X hX => HS3.out X (hbV.trans (hX.mono hbV.size)))
        have HBV := Lib.hid hbV
        have n1 : u.cells.length = 6 := rfl
        have n2 : v.cells.length = 6 := rfl
        clear KB HS3 hbV HBL
        generalize u.cells = cI at hy KP n1 HRG
        generalize v.cells = cJ at hy KP n2 HRG
        refine wp_region_E 9 (fun X => X.rangeAt eb (eoff + k * 6) cI ∧ X.rangeAt fb (foff + k * 6) cJ) (by kernel_rfl) ?_
        rw [← hV]
        clear hV
        refine wpAnyE_takes [] (i := 0) (v := .slice (some ⟨eb, eoff, none⟩) l.length c) rfl (by kernel_rfl) (by kernel_rfl) (by kernel_rfl) (by kernel_rfl) (by kernel_rfl) (fun _ _ _ h => h) (yields_of1 (.tmp 0) (.slice (some ⟨eb, eoff, none⟩) l.length c) (by rfl) (by rfl) ?_) hy ?_
        · intro E wy hSw hc q1
          go_simp
        try simp only [List.getElem_toArray, List.getElem_cons_zero, Act.put, List.setIfInBounds_toArray, List.set_cons_succ, List.set_cons_zero]
        refine wpAnyE_takes [] (i := 1) (v := .int .i64 (k : Int)) rfl (by kernel_rfl) (by kernel_rfl) (by kernel_rfl) (by kernel_rfl) (by kernel_rfl) (fun _ _ _ h => h) (yields_of1 (.tmp 5) (.int .i64 (k : Int)) (by rfl) (by rfl) ?_) hy ?_
        · intro E wy hSw hc q1
          go_simp
        try simp only [List.getElem_toArray, List.getElem_cons_succ, List.getElem_cons_zero, Act.put, List.setIfInBounds_toArray, List.set_cons_succ, List.set_cons_zero]
        refine wpAnyE_takes [] (i := 2) (v := .pointer (some ⟨eb, eoff + k * 6, none⟩)) rfl (by kernel_rfl) (by kernel_rfl) (by kernel_rfl) (by kernel_rfl) (by kernel_rfl) (fun _ _ _ h => h) (yields_of2 (.tmp 18) (.tmp 19) (.slice (some ⟨eb, eoff, none⟩) l.length c) (.int .i64 (k : Int)) (by rfl) (by rfl) (by rfl) ?_) hy ?_
        · intro E wy hSw hc q1 q2
          go_simp
        try simp only [List.getElem_toArray, List.getElem_cons_succ, List.getElem_cons_zero, Act.put, List.setIfInBounds_toArray, List.set_cons_succ, List.set_cons_zero]
        refine wpAnyE_takes [] (i := 3) rfl (by kernel_rfl) (by kernel_rfl) (by kernel_rfl) (by kernel_rfl) (by kernel_rfl) (fun _ _ _ h => h) (yieldsIf_load_mid (by rfl) 43 (.tmp 20) rfl eb (eoff + k * 6) (by rfl) cI _ (fun X hX => hX.1) Tryz.underlying43 rfl (by rw [show (Tryz.prog.info? 43).map (·.size) = some 6 from Sym.file_size]; exact congrArg some (Eq.symm (by assumption)))) hy ?_
        try simp only [List.getElem_toArray, List.getElem_cons_succ, List.getElem_cons_zero, Act.put, List.setIfInBounds_toArray, List.set_cons_succ, List.set_cons_zero]
        refine wpAnyE_takes [] (i := 4) (v := .slice (some ⟨fb, foff, none⟩) m.length d) rfl (by kernel_rfl) (by kernel_rfl) (by kernel_rfl) (by kernel_rfl) (by kernel_rfl) (fun _ _ _ h => h) (yields_of1 (.tmp 1) (.slice (some ⟨fb, foff, none⟩) m.length d) (by rfl) (by rfl) ?_) hy ?_
        · intro E wy hSw hc q1
          go_simp
        try simp only [List.getElem_toArray, List.getElem_cons_succ, List.getElem_cons_zero, Act.put, List.setIfInBounds_toArray, List.set_cons_succ, List.set_cons_zero]
        refine wpAnyE_takes [] (i := 5) (v := .int .i64 (k : Int)) rfl (by kernel_rfl) (by kernel_rfl) (by kernel_rfl) (by kernel_rfl) (by kernel_rfl) (fun _ _ _ h => h) (yields_of1 (.tmp 5) (.int .i64 (k : Int)) (by rfl) (by rfl) ?_) hy ?_
        · intro E wy hSw hc q1
          go_simp
        try simp only [List.getElem_toArray, List.getElem_cons_succ, List.getElem_cons_zero, Act.put, List.setIfInBounds_toArray, List.set_cons_succ, List.set_cons_zero]
        refine wpAnyE_takes [] (i := 6) (v := .pointer (some ⟨fb, foff + k * 6, none⟩)) rfl (by kernel_rfl) (by kernel_rfl) (by kernel_rfl) (by kernel_rfl) (by kernel_rfl) (fun _ _ _ h => h) (yields_of2 (.tmp 22) (.tmp 23) (.slice (some ⟨fb, foff, none⟩) m.length d) (.int .i64 (k : Int)) (by rfl) (by rfl) (by rfl) ?_) hy ?_
        · intro E wy hSw hc q1 q2
          go_simp
        try simp only [List.getElem_toArray, List.getElem_cons_succ, List.getElem_cons_zero, Act.put, List.setIfInBounds_toArray, List.set_cons_succ, List.set_cons_zero]
        refine wpAnyE_takes [] (i := 7) rfl (by kernel_rfl) (by kernel_rfl) (by kernel_rfl) (by kernel_rfl) (by kernel_rfl) (fun _ _ _ h => h) (yieldsIf_load_mid (by rfl) 43 (.tmp 24) rfl fb (foff + k * 6) (by rfl) cJ _ (fun X hX => hX.2) Tryz.underlying43 rfl (by rw [show (Tryz.prog.info? 43).map (·.size) = some 6 from Sym.file_size]; exact congrArg some (Eq.symm (by assumption)))) hy ?_
        try simp only [List.getElem_toArray, List.getElem_cons_succ, List.getElem_cons_zero, Act.put, List.setIfInBounds_toArray, List.set_cons_succ, List.set_cons_zero]
        refine wpAnyE_one (i := 8) (by kernel_rfl) rfl (fun K hK => ?_)
        refine Sym.step_callf2_dv (by rfl) (some 26) (by rfl) (.func 59) (.tmp 21) (.tmp 25) (by rfl) (by rfl) (.agg cI.toArray) (.agg cJ.toArray) rfl rfl (enters_of Tryz.func59 (by kernel_rfl) rfl) _ KP.out ?_
        rintro e w5 ⟨rfl, hl⟩
        have HL5 := Lib.hid (HBV.out.trans (hl.mono HBV.out.size))
        have hy5 := HRG.out w5 hl
        refine ⟨_, rfl, ?_⟩
        refine hK _ _ hy5 ?_
        clear hK K hl hy KP
        refine wpAnyE_last (by kernel_rfl) (by kernel_rfl) rfl (fun K hK => ?_)
        go_simp
        refine hK _ _ ?_
        clear hK
        go_wp2_with fail
        go_meet
        exact ⟨rfl, HL5⟩
      case rest =>
        obtain ⟨rfl, HBX⟩ := hcut
        have HBY := Lib.hid (HBR.out.trans (HBX.out.mono HBR.out.size))
        rcases bl with _ | _
        · have HE : Hid (q = false) := Lib.hid (by rw [HST.out]; rfl)
          go_wp2_with fail
          go_ret
          exact ⟨ret_q HE.out.symm, HBY.out⟩
        · have HE : Hid (q = fisE ((l.map Vf.fi).drop (k + 1)) ((m.map Vf.fi).drop (k + 1))) := Lib.hid (by rw [HST.out]; rfl)
          go_wp2_with fail
          exact ⟨⟨k + 1, by simp, hkl, HBY, HE⟩, by simp only [intOf]; omega⟩
    · have hkl' : ¬ (k : Int) < (l.length : Int) := by omega
      have HE : Hid (q = true) := Lib.hid (by
        have h1 := HLN.out
        rw [HQK.out, List.drop_eq_nil_of_le (by rw [List.length_map]; omega), List.drop_eq_nil_of_le (by rw [List.length_map]; omega)]
        rfl)
      go_wp2_with fail
      go_ret
      exact ⟨ret_q HE.out.symm, HBR.out⟩
end Ver
end Go.Proofs.YtgmnhdkdicgkcaaGreatDoor

namespace Go.Proofs.YtgmnhdkdicgkcaaGreatDoor
open Go.RowKit Go.Maps

namespace Ver
/-- Are two states one? -/
def ssE (a b : Ss) : Bool := fisE a.files b.files && (a.log == b.log && a.next == b.next)
theorem ssE_refl (a : Ss) : ssE a a = true := by unfold ssE; rw [fisE_refl]; simp
set_option maxHeartbeats 4000000 in
set_option maxRecDepth 400000 in
theorem rsameState_any (A B : Option Addr) (c d : Nat) (l m : List Vf) (g1 g2 n1 n2 : Int) (w : World) (hl : RdV w w.heap.size A l) (hm : RdV w w.heap.size B m) (hll : l.length ≤ 1000000) :
    Calls Tryz.prog 13 #[.agg #[.slice A l.length c, .int .i64 g1, .int .i64 n1], .agg #[.slice B m.length d, .int .i64 g2, .int .i64 n2]] w fun e w' => e = .returned (.bool (ssE ⟨l.map Vf.fi, g1, n1⟩ ⟨m.map Vf.fi, g2, n2⟩)) ∧ Below w.heap.size w w' := by
  obtain ⟨W, hW⟩ : ∃ W, W = (w.alloc (.cells #[.slice A l.length c, .int .i64 g1, .int .i64 n1] 24)).alloc (.cells #[.slice B m.length d, .int .i64 g2, .int .i64 n2] 24) := ⟨_, rfl⟩
  have hb : Below w.heap.size w W := by rw [hW]; exact ((Below.refl _ _).alloc (Nat.le_refl _) _).alloc (by simp) _
  have hx0 : W.heap[w.heap.size]? = some (.cells #[.slice A l.length c, .int .i64 g1, .int .i64 n1] 24) := by
    rw [hW, Below.heap_alloc _ _ _ (by simp)]
    exact heap_alloc_new w _
  have hx1 : W.heap[w.heap.size + 1]? = some (.cells #[.slice B m.length d, .int .i64 g2, .int .i64 n2] 24) := by
    rw [hW]
    have := heap_alloc_new (w.alloc (.cells #[.slice A l.length c, .int .i64 g1, .int .i64 n1] 24)) (.cells #[.slice B m.length d, .int .i64 g2, .int .i64 n2] 24)
    simpa using this
  have HX : Hid (∀ X, Below W.heap.size W X → (X.cell? ⟨w.heap.size, 0, none⟩ = some (.slice A l.length c) ∧ X.cell? ⟨w.heap.size, 1, none⟩ = some (.int .i64 g1) ∧ X.cell? ⟨w.heap.size, 2, none⟩ = some (.int .i64 n1)) ∧ X.cell? ⟨w.heap.size + 1, 0, none⟩ = some (.slice B m.length d) ∧ X.cell? ⟨w.heap.size + 1, 1, none⟩ = some (.int .i64 g2) ∧ X.cell? ⟨w.heap.size + 1, 2, none⟩ = some (.int .i64 n2)) := Lib.hid (fun X hX => by
    have h0 := (hX.block _ (Array.getElem?_eq_some_iff.1 hx0).1).trans hx0
    have h1 := (hX.block _ (Array.getElem?_eq_some_iff.1 hx1).1).trans hx1
    exact ⟨⟨by rw [cell_of_row X _ 0 _ _ (0, 0) h0]; rfl, by rw [cell_of_row X _ 1 _ _ (0, 0) h0]; rfl, by rw [cell_of_row X _ 2 _ _ (0, 0) h0]; rfl⟩, by rw [cell_of_row X _ 0 _ _ (0, 0) h1]; rfl, by rw [cell_of_row X _ 1 _ _ (0, 0) h1]; rfl, by rw [cell_of_row X _ 2 _ _ (0, 0) h1]; rfl⟩)
  have KS := Lib.hid (rsameFiles_any A B c d l m W (hl.keep hb) (hm.keep hb) hll)
  obtain ⟨q, hq⟩ : ∃ q, q = fisE (l.map Vf.fi) (m.map Vf.fi) := ⟨_, rfl⟩
  obtain ⟨r, hr⟩ : ∃ r, r = ssE ⟨l.map Vf.fi, g1, n1⟩ ⟨m.map Vf.fi, g2, n2⟩ := ⟨_, rfl⟩
  rw [← hr]
  unfold ssE at hr
  simp only at hr
  rw [← hq] at KS hr
  have HR := Lib.hid hr
  have HB := Lib.hid hb
  have HW := Lib.hid hW
  rw [hW] at KS
  obtain ⟨⟨a0, a1, a2⟩, b0, b1, b2⟩ := HX.out W (Below.refl _ _)
  rw [hW] at a0 a1 a2 b0 b1 b2
  clear hl hm hll hb hx0 hx1 hq hr hW
  go_enter Tryz.func13, Tryz.ntmps13
  go_wp2_with fail
  refine KS.out.mono ?_
  rw [← HW.out]
  rintro e w1 ⟨rfl, hb1⟩
  dsimp only
  have HB1 := Lib.hid (HB.out.trans (hb1.mono HB.out.size))
  clear a0 a1 a2 b0 b1 b2
  obtain ⟨⟨a0, a1, a2⟩, b0, b1, b2⟩ := HX.out w1 hb1
  clear hb1 KS
  rcases q with _ | _
  · have HE : Hid (r = false) := Lib.hid (by rw [HR.out]; rfl)
    go_wp2_with fail
    go_ret
    exact ⟨ret_q HE.out.symm, HB1.out⟩
  by_cases x1 : g1 = g2
  rotate_left
  · have y1 : (g1 == g2) = false := by simpa using x1
    have HE : Hid (r = false) := Lib.hid (by rw [HR.out, y1]; rfl)
    clear x1
    go_wp2_with fail
    go_ret
    exact ⟨ret_q HE.out.symm, HB1.out⟩
  have y1 : (g1 == g2) = true := by simpa using x1
  clear x1
  by_cases x2 : n1 = n2
  · have y2 : (n1 == n2) = true := by simpa using x2
    have HE : Hid (r = true) := Lib.hid (by rw [HR.out, y1, y2]; rfl)
    clear x2
    go_wp2_with fail
    go_ret
    exact ⟨ret_q HE.out.symm, HB1.out⟩
  · have y2 : (n1 == n2) = false := by simpa using x2
    have HE : Hid (r = false) := Lib.hid (by rw [HR.out, y1, y2]; rfl)
    clear x2
    go_wp2_with fail
    go_ret
    exact ⟨ret_q HE.out.symm, HB1.out⟩
end Ver
end Go.Proofs.YtgmnhdkdicgkcaaGreatDoor

namespace Go.Proofs.YtgmnhdkdicgkcaaGreatDoor
open Go.RowKit Go.Maps

namespace Ver
theorem step_callw1 {P : Program} {w : World} {ops : Array Oper} {o : Oper} {a : Act} {K : Act → World → Prop} {Q : Exit → Act → World → Prop} {E : Prop} (hw : Region.wanted o (yielded ops a.tmps) = true) (d : Option Tmp) (hd : o.dst = d) {f : Nat} (x : Operand) {ats : Array TypeId}
    (ho : o.op = .call { callee := .value (.func f), args := #[x], argTypes := ats }) (vx : Value) (hx : a.eval x = vx) (hen : ∀ args w, (callFunc f args).run P w = .ok (.enter f args) w) (R : Ending → World → Prop) (hc : Calls P f #[vx] w R)
    (h : ∀ e w', R e w' → ∃ v, e = .returned v ∧ K (a.put d v) w') : if Region.wanted o (yielded ops a.tmps) = true then Oper.wp P o a w K Q else E := by
  subst hd hx
  rw [if_pos hw]
  unfold Oper.wp execOp
  have e1 : a.eval (.func f) = .func (.func f) #[] #[] := rfl
  simp [ho, resolve, invoke, Deferred.ofValue, e1, hen]
  rw [Oper.upon_enter]
  refine hc.mono ?_
  intro e w' hr
  obtain ⟨v, rfl, hk⟩ := h e w' hr
  exact hk
theorem apply_len (s : Ss) (e : Ed) : (apply s e).2.files.length ≤ 1000000 := by
  unfold apply
  split
  · exact Nat.zero_le _
  · split
    · exact Nat.zero_le _
    · rename_i l _
      split
      · exact Nat.zero_le _
      · rename_i h
        split
        · exact Nat.zero_le _
        · have h1 := (insAll_perm e.add l).length_eq
          rw [List.length_append] at h1
          show (insAll l e.add).length ≤ 1000000
          omega
theorem fewV_len {l : List Vf} (h : fewV l = true) : l.length ≤ 100 := by
  unfold fewV at h
  rw [Bool.and_eq_true] at h
  exact of_decide_eq_true h.1
set_option maxHeartbeats 4000000 in
set_option maxRecDepth 400000 in
theorem versionApplies_walk (sA : Option Addr) (sc : Nat) (sl : List Vf) (slog snext : Int) (e : Ev) (w : World) (hs : RdV w w.heap.size sA sl) (hsl : sl.length ≤ 9223372036854775807) (hsb : ∀ v ∈ sl, v.first.length ≤ 9223372036854775807 ∧ v.last.length ≤ 9223372036854775807)
    (h : EvOk w w.heap.size e) (hl : e.add.length ≤ 9223372036854775807) (hd : e.drop.length ≤ 9223372036854775807) (hb : ∀ v ∈ e.add, v.first.length ≤ 9223372036854775807 ∧ v.last.length ≤ 9223372036854775807) (ht : Tab w) :
    Calls Tryz.prog 3 #[.agg #[.slice sA sl.length sc, .int .i64 slog, .int .i64 snext], e.val] w fun r w' => r = .returned (.bool true) ∧ Below w.heap.size w w' := by
  obtain ⟨W, hW⟩ : ∃ W, W = (w.alloc (.cells #[.slice sA sl.length sc, .int .i64 slog, .int .i64 snext] 24)).alloc e.obj := ⟨_, rfl⟩
  have hbw : Below w.heap.size w W := by rw [hW]; exact ((Below.refl _ _).alloc (Nat.le_refl _) _).alloc (by simp) _
  have hx0 : W.heap[w.heap.size]? = some (.cells #[.slice sA sl.length sc, .int .i64 slog, .int .i64 snext] 24) := by
    rw [hW, Below.heap_alloc _ _ _ (by simp)]
    exact heap_alloc_new w _
  have hx1 : W.heap[w.heap.size + 1]? = some e.obj := by
    rw [hW]
    have := heap_alloc_new (w.alloc (.cells #[.slice sA sl.length sc, .int .i64 slog, .int .i64 snext] 24)) e.obj
    simpa using this
  have KA := Lib.hid (awake_any W (ht.below hbw))
  have HS := Lib.hid (hs.keep hbw)
  have HE := Lib.hid (h.keep hbw)
  have KF1 : Hid (∀ X, Below W.heap.size W X → Calls Tryz.prog 9 #[.slice sA sl.length sc] X fun r w' => r = .returned (.bool (fewV sl)) ∧ w' = X) := Lib.hid (fun X hX => few_any sA sc sl X (HS.out.keep hX) hsl hsb)
  have KF2 : Hid (∀ X, Below W.heap.size W X → Calls Tryz.prog 10 #[e.val] X fun r w' => r = .returned (.bool (fewV e.add && decide (e.drop.length ≤ 100))) ∧ Below X.heap.size X w') := Lib.hid (fun X hX => fewEdit_any e X (HE.out.keep hX) hl hd hb)
  obtain ⟨p, hp⟩ : ∃ p, p = apply ⟨sl.map Vf.fi, slog, snext⟩ e.ed := ⟨_, rfl⟩
  have KX : Hid (fewV sl = true → (fewV e.add && decide (e.drop.length ≤ 100)) = true → ∀ X, Below W.heap.size W X → Calls Tryz.prog 11 #[.agg #[.slice sA sl.length sc, .int .i64 slog, .int .i64 snext], e.val] X (SaysAp X p) ∧ Calls Tryz.prog 12 #[.agg #[.slice sA sl.length sc, .int .i64 slog, .int .i64 snext], e.val] X (SaysRa X p)) := Lib.hid (fun f1 f2 X hX => by
    rw [Bool.and_eq_true] at f2
    have g1 := fewV_len f1
    have g2 := fewV_len f2.1
    have g3 := of_decide_eq_true f2.2
    rw [hp]
    exact ⟨apply_any sA sc sl slog snext e X (HS.out.keep hX) (HE.out.keep hX) (by omega) (by omega) (by omega), rapply_any sA sc sl slog snext e X (HS.out.keep hX) (HE.out.keep hX) (by omega) (by omega) (by omega)⟩)
  have KV : Hid (fewV sl = true → ∀ X, Below W.heap.size W X → Calls Tryz.prog 14 #[.agg #[.slice sA sl.length sc, .int .i64 slog, .int .i64 snext]] X fun e w' => e = .returned (.bool (right ⟨sl.map Vf.fi, slog, snext⟩)) ∧ Below X.heap.size X w') := Lib.hid (fun f1 X hX => right_any sA sc sl slog snext X (HS.out.keep hX) (by have := fewV_len f1; omega))
  have KQ : Hid (fewV sl = true → ∀ X, Below W.heap.size W X → Calls Tryz.prog 15 #[.agg #[.slice sA sl.length sc, .int .i64 slog, .int .i64 snext]] X fun e w' => e = .returned (.bool (right ⟨sl.map Vf.fi, slog, snext⟩)) ∧ Below X.heap.size X w') := Lib.hid (fun f1 X hX => rright_any sA sc sl slog snext X (HS.out.keep hX) (by have := fewV_len f1; omega))
  have KSS : Hid (fewV sl = true → ∀ (A B : Option Addr) (c d : Nat) (l m : List Vf) (X : World), l.map Vf.fi = p.2.files → m.map Vf.fi = p.2.files → RdV X X.heap.size A l → RdV X X.heap.size B m → l.length ≤ 1000000 → Calls Tryz.prog 13 #[.agg #[.slice A l.length c, .int .i64 p.2.log, .int .i64 p.2.next], .agg #[.slice B m.length d, .int .i64 p.2.log, .int .i64 p.2.next]] X fun e w' => e = .returned (.bool true) ∧ Below X.heap.size X w') := Lib.hid (fun _ A B c d l m X h1 h2 h3 h4 h5 => by
    have h6 := rsameState_any A B c d l m p.2.log p.2.log p.2.next p.2.next X h3 h4 h5
    rw [h1, h2, ssE_refl] at h6
    exact h6)
  have HPL : Hid (p.2.files.length ≤ 1000000) := Lib.hid (by rw [hp]; exact apply_len _ _)
  obtain ⟨f1, hf1⟩ : ∃ f1, f1 = fewV sl := ⟨_, rfl⟩
  obtain ⟨f2, hf2⟩ : ∃ f2, f2 = (fewV e.add && decide (e.drop.length ≤ 100)) := ⟨_, rfl⟩
  obtain ⟨rr, hrr⟩ : ∃ rr, rr = right ⟨sl.map Vf.fi, slog, snext⟩ := ⟨_, rfl⟩
  rw [← hf1] at KF1 KX KV KQ KSS
  rw [← hf2] at KF2 KX
  rw [← hrr] at KV KQ
  have HBW := Lib.hid hbw
  have HW := Lib.hid hW
  obtain ⟨EA, ec, add, DA, dc, drop, log, next⟩ := e
  simp only [Ev.val, Ev.obj] at *
  have HXS : Hid (∀ X, Below W.heap.size W X → (X.cell? ⟨w.heap.size, 0, none⟩ = some (.slice sA sl.length sc) ∧ X.cell? ⟨w.heap.size, 1, none⟩ = some (.int .i64 slog) ∧ X.cell? ⟨w.heap.size, 2, none⟩ = some (.int .i64 snext)) ∧ X.cell? ⟨w.heap.size + 1, 0, none⟩ = some (.slice EA add.length ec) ∧ X.cell? ⟨w.heap.size + 1, 1, none⟩ = some (.slice DA drop.length dc) ∧ X.cell? ⟨w.heap.size + 1, 2, none⟩ = some (.int .i64 log) ∧ X.cell? ⟨w.heap.size + 1, 3, none⟩ = some (.int .i64 next)) := Lib.hid (fun X hX => by
    have h0 := (hX.block _ (Array.getElem?_eq_some_iff.1 hx0).1).trans hx0
    have h1 := (hX.block _ (Array.getElem?_eq_some_iff.1 hx1).1).trans hx1
    exact ⟨⟨by rw [cell_of_row X _ 0 _ _ (0, 0) h0]; rfl, by rw [cell_of_row X _ 1 _ _ (0, 0) h0]; rfl, by rw [cell_of_row X _ 2 _ _ (0, 0) h0]; rfl⟩, by rw [cell_of_row X _ 0 _ _ (0, 0) h1]; rfl, by rw [cell_of_row X _ 1 _ _ (0, 0) h1]; rfl, by rw [cell_of_row X _ 2 _ _ (0, 0) h1]; rfl, by rw [cell_of_row X _ 3 _ _ (0, 0) h1]; rfl⟩)
  rw [hW] at KA
  clear hs hsl hsb h hl hd hb ht hbw hx0 hx1 hf1 hf2 hrr hp HS HE hW
  go_enter Tryz.func3, Tryz.ntmps3
  go_wp2_with fail
  refine KA.out.mono ?_
  rw [← HW.out]
  rintro r X1 ⟨rfl, hb1⟩
  dsimp only
  have HB1 := Lib.hid hb1
  obtain ⟨⟨s0, s1, s2⟩, e0, e1, e2, e3⟩ := HXS.out X1 HB1.out
  have K1 := Lib.hid (KF1.out X1 HB1.out)
  clear hb1 KA KF1
  go_wp2_with fail
  refine K1.out.mono ?_
  rintro r X2 ⟨rfl, rfl⟩
  dsimp only
  clear K1
  rcases f1 with _ | _
  · go_wp2_with fail
    go_ret
    exact ⟨rfl, HBW.out.trans (HB1.out.mono HBW.out.size)⟩
  have K2 := Lib.hid (KF2.out X2 HB1.out)
  clear KF2
  go_wp2_with fail
  refine K2.out.mono ?_
  rintro r X3 ⟨rfl, hb3⟩
  dsimp only
  have HB3 := Lib.hid (HB1.out.trans (hb3.mono HB1.out.size))
  clear s0 s1 s2 e0 e1 e2 e3 hb3 K2
  obtain ⟨⟨s0, s1, s2⟩, e0, e1, e2, e3⟩ := HXS.out X3 HB3.out
  rcases f2 with _ | _
  · go_wp2_with fail
    go_ret
    exact ⟨rfl, HBW.out.trans (HB3.out.mono HBW.out.size)⟩
  obtain ⟨pc, pf, pl, pn⟩ := p
  simp only at KSS HPL
  have KX2 := Lib.hid (KX.out (by trivial) (by trivial))
  have KV2 := Lib.hid (KV.out (by trivial))
  have KQ2 := Lib.hid (KQ.out (by trivial))
  have KS2 := Lib.hid (KSS.out (by trivial))
  clear KX KV KQ KSS
  have KV := KV2
  have KQ := KQ2
  clear KV2 KQ2
  have K3 := Lib.hid (KX2.out X3 HB3.out).1
  go_wp2_with fail
  refine K3.out.mono ?_
  rintro r x4 ⟨hb4, A, c, l, rfl, hlf, how⟩
  simp only at hlf
  dsimp only
  obtain ⟨X4, hX4⟩ : ∃ X4, X4 = x4.alloc (.cells #[.slice A l.length c, .int .i64 pl, .int .i64 pn] 24) := ⟨_, rfl⟩
  have hb44 : Below x4.heap.size x4 X4 := by rw [hX4]; exact (Below.refl _ _).alloc (Nat.le_refl _) _
  have HB4 := Lib.hid ((HB3.out.trans (hb4.mono HB3.out.size)).trans (hb44.mono (HB3.out.trans (hb4.mono HB3.out.size)).size))
  have HR4 := Lib.hid (how.rd.keep hb44)
  have HX4 : Hid (X4.heap[x4.heap.size]? = some (.cells #[.slice A l.length c, .int .i64 pl, .int .i64 pn] 24)) := Lib.hid (by rw [hX4]; exact heap_alloc_new x4 _)
  have HLF := Lib.hid hlf
  have HX4e := Lib.hid hX4
  have K4 := Lib.hid (KX2.out X4 HB4.out).2
  rw [hX4] at K4
  clear s0 s1 s2 e0 e1 e2 e3 hb4 hb44 how hlf K3 hX4 KX2
  obtain ⟨⟨s0, s1, s2⟩, e0, e1, e2, e3⟩ := HXS.out X4 HB4.out
  rw [HX4e.out] at s0 s1 s2 e0 e1 e2 e3
  go_wp2_with fail
  refine K4.out.mono ?_
  rw [← HX4e.out]
  rintro r x5 ⟨hb5, B, d, m, rfl, hmf, hrm⟩
  simp only at hmf
  dsimp only
  obtain ⟨X5, hX5⟩ : ∃ X5, X5 = x5.alloc (.cells #[.slice B m.length d, .int .i64 pl, .int .i64 pn] 24) := ⟨_, rfl⟩
  have hb55 : Below x5.heap.size x5 X5 := by rw [hX5]; exact (Below.refl _ _).alloc (Nat.le_refl _) _
  have hb45 : Below X4.heap.size X4 X5 := hb5.trans (hb55.mono hb5.size)
  have HB5 := Lib.hid (HB4.out.trans (hb45.mono HB4.out.size))
  have HR5 := Lib.hid (HR4.out.keep hb45)
  have HR5m := Lib.hid (hrm.keep hb55)
  have hxm : X5.heap[x5.heap.size]? = some (.cells #[.slice B m.length d, .int .i64 pl, .int .i64 pn] 24) := by rw [hX5]; exact heap_alloc_new x5 _
  have hxl := (hb45.block _ (Array.getElem?_eq_some_iff.1 HX4.out).1).trans HX4.out
  have hll : l.length ≤ 1000000 := by have h1 := congrArg List.length HLF.out; rw [List.length_map] at h1; rw [h1]; exact HPL.out
  have K5 := Lib.hid (KS2.out A B c d l m X5 HLF.out hmf HR5.out HR5m.out hll)
  obtain ⟨u0, u1, u2⟩ : X5.cell? ⟨x4.heap.size, 0, none⟩ = some (.slice A l.length c) ∧ X5.cell? ⟨x4.heap.size, 1, none⟩ = some (.int .i64 pl) ∧ X5.cell? ⟨x4.heap.size, 2, none⟩ = some (.int .i64 pn) := ⟨by rw [cell_of_row X5 _ 0 _ _ (0, 0) hxl]; rfl, by rw [cell_of_row X5 _ 1 _ _ (0, 0) hxl]; rfl, by rw [cell_of_row X5 _ 2 _ _ (0, 0) hxl]; rfl⟩
  obtain ⟨v0, v1, v2⟩ : X5.cell? ⟨x5.heap.size, 0, none⟩ = some (.slice B m.length d) ∧ X5.cell? ⟨x5.heap.size, 1, none⟩ = some (.int .i64 pl) ∧ X5.cell? ⟨x5.heap.size, 2, none⟩ = some (.int .i64 pn) := ⟨by rw [cell_of_row X5 _ 0 _ _ (0, 0) hxm]; rfl, by rw [cell_of_row X5 _ 1 _ _ (0, 0) hxm]; rfl, by rw [cell_of_row X5 _ 2 _ _ (0, 0) hxm]; rfl⟩
  have HX5e := Lib.hid hX5
  rw [hX5] at K5 u0 u1 u2 v0 v1 v2
  clear s0 s1 s2 e0 e1 e2 e3 hb5 hb55 hb45 hrm hmf hxm hxl hX5 K4 KS2 hll
  go_wp2_with fail
  refine K5.out.mono ?_
  rw [← HX5e.out]
  rintro r X7 ⟨rfl, hb7⟩
  dsimp only
  have HB7 := Lib.hid (HB5.out.trans (hb7.mono HB5.out.size))
  clear u0 u1 u2 v0 v1 v2 hb7 K5
  go_upto_region 8 with fail
  obtain ⟨V, hV⟩ : ∃ V, V = X7.drew := ⟨_, rfl⟩
  have hbV : Below W.heap.size W V := by rw [hV]; exact (HB7.out).trans ⟨rfl, rfl, rfl, Nat.le_refl _, fun _ _ => rfl⟩
  have hy := (HXS.out V hbV).1
  have HBV := Lib.hid hbV
  refine wp_region_E 13 (fun X => X.cell? ⟨w.heap.size, 0, none⟩ = some (.slice sA sl.length sc) ∧ X.cell? ⟨w.heap.size, 1, none⟩ = some (.int .i64 slog) ∧ X.cell? ⟨w.heap.size, 2, none⟩ = some (.int .i64 snext)) (by kernel_rfl) ?_
  rw [← hV]
  clear hV hbV
  try simp only [List.getElem_toArray, List.getElem_cons_succ, List.getElem_cons_zero, Act.put, List.setIfInBounds_toArray, List.set_cons_succ, List.set_cons_zero]
  refine wpAnyE_takes [] (i := 0) (v := .bool true) rfl (by kernel_rfl) (by kernel_rfl) (by kernel_rfl) (by kernel_rfl) (by kernel_rfl) (fun _ _ _ h => h) (yields_of1 (.tmp 11) (.bool true) (by rfl) (by rfl) ?_) hy ?_
  · intro E wy hSw hc q1
    obtain ⟨hs1, hs2, hs3⟩ := hSw
    go_simp
  try simp only [List.getElem_toArray, List.getElem_cons_zero, Act.put, List.setIfInBounds_toArray, List.set_cons_succ, List.set_cons_zero]
  refine wpAnyE_takes [] (i := 1) (v := .bool true) rfl (by kernel_rfl) (by kernel_rfl) (by kernel_rfl) (by kernel_rfl) (by kernel_rfl) (fun _ _ _ h => h) (yields_of1 (.tmp 42) (.bool true) (by rfl) (by rfl) ?_) hy ?_
  · intro E wy hSw hc q1
    obtain ⟨hs1, hs2, hs3⟩ := hSw
    go_simp
  try simp only [List.getElem_toArray, List.getElem_cons_succ, List.getElem_cons_zero, Act.put, List.setIfInBounds_toArray, List.set_cons_succ, List.set_cons_zero]
  refine wpAnyE_takes [] (i := 2) (v := .int .i64 pc) rfl (by kernel_rfl) (by kernel_rfl) (by kernel_rfl) (by kernel_rfl) (by kernel_rfl) (fun _ _ _ h => h) (yields_of1 (.tmp 8) (.int .i64 pc) (by rfl) (by rfl) ?_) hy ?_
  · intro E wy hSw hc q1
    obtain ⟨hs1, hs2, hs3⟩ := hSw
    go_simp
  try simp only [List.getElem_toArray, List.getElem_cons_succ, List.getElem_cons_zero, Act.put, List.setIfInBounds_toArray, List.set_cons_succ, List.set_cons_zero]
  refine wpAnyE_takes [] (i := 3) (v := .int .i64 pc) rfl (by kernel_rfl) (by kernel_rfl) (by kernel_rfl) (by kernel_rfl) (by kernel_rfl) (fun _ _ _ h => h) (yields_of1 (.tmp 10) (.int .i64 pc) (by rfl) (by rfl) ?_) hy ?_
  · intro E wy hSw hc q1
    obtain ⟨hs1, hs2, hs3⟩ := hSw
    go_simp
  try simp only [List.getElem_toArray, List.getElem_cons_succ, List.getElem_cons_zero, Act.put, List.setIfInBounds_toArray, List.set_cons_succ, List.set_cons_zero]
  refine wpAnyE_takes [] (i := 4) (v := .bool true) rfl (by kernel_rfl) (by kernel_rfl) (by kernel_rfl) (by kernel_rfl) (by kernel_rfl) (fun _ _ _ h => h) (yields_of2 (.tmp 44) (.tmp 45) (.int .i64 pc) (.int .i64 pc) (by rfl) (by rfl) (by rfl) ?_) hy ?_
  · intro E wy hSw hc q1 q2
    obtain ⟨hs1, hs2, hs3⟩ := hSw
    go_simp
  try simp only [List.getElem_toArray, List.getElem_cons_succ, List.getElem_cons_zero, Act.put, List.setIfInBounds_toArray, List.set_cons_succ, List.set_cons_zero]
  refine wpAnyE_takes [] (i := 5) (v := .bool true) rfl (by kernel_rfl) (by kernel_rfl) (by kernel_rfl) (by kernel_rfl) (by kernel_rfl) (fun _ _ _ h => h) (yields_of2 (.tmp 43) (.tmp 46) (.bool true) (.bool true) (by rfl) (by rfl) (by rfl) ?_) hy ?_
  · intro E wy hSw hc q1 q2
    obtain ⟨hs1, hs2, hs3⟩ := hSw
    go_simp
  try simp only [List.getElem_toArray, List.getElem_cons_succ, List.getElem_cons_zero, Act.put, List.setIfInBounds_toArray, List.set_cons_succ, List.set_cons_zero]
  refine wpAnyE_takes [] (i := 6) (v := .bool true) rfl (by kernel_rfl) (by kernel_rfl) (by kernel_rfl) (by kernel_rfl) (by kernel_rfl) (fun _ _ _ h => h) (yields_of1 (.tmp 47) (.bool true) (by rfl) (by rfl) ?_) hy ?_
  · intro E wy hSw hc q1
    obtain ⟨hs1, hs2, hs3⟩ := hSw
    go_simp
  try simp only [List.getElem_toArray, List.getElem_cons_succ, List.getElem_cons_zero, Act.put, List.setIfInBounds_toArray, List.set_cons_succ, List.set_cons_zero]
  refine wpAnyE_takes [] (i := 7) (v := .agg #[.slice sA sl.length sc, .int .i64 slog, .int .i64 snext]) rfl (by kernel_rfl) (by kernel_rfl) (by kernel_rfl) (by kernel_rfl) (by kernel_rfl) (fun _ _ _ h => h) (yields_of1 (.tmp 2) (.pointer (some ⟨w.heap.size, 0, none⟩)) (by rfl) (by rfl) ?_) hy ?_
  · intro E wy hSw hc q1
    obtain ⟨hs1, hs2, hs3⟩ := hSw
    go_simp
  try simp only [List.getElem_toArray, List.getElem_cons_succ, List.getElem_cons_zero, Act.put, List.setIfInBounds_toArray, List.set_cons_succ, List.set_cons_zero]
  refine wpAnyE_takes [] (i := 9) (v := .agg #[.slice sA sl.length sc, .int .i64 slog, .int .i64 snext]) rfl (by kernel_rfl) (by kernel_rfl) (by kernel_rfl) (by kernel_rfl) (by kernel_rfl) (fun _ _ _ h => h) (yields_of1 (.tmp 2) (.pointer (some ⟨w.heap.size, 0, none⟩)) (by rfl) (by rfl) ?_) hy ?_
  · intro E wy hSw hc q1
    obtain ⟨hs1, hs2, hs3⟩ := hSw
    go_simp
  try simp only [List.getElem_toArray, List.getElem_cons_succ, List.getElem_cons_zero, Act.put, List.setIfInBounds_toArray, List.set_cons_succ, List.set_cons_zero]
  refine wpAnyE_one (i := 8) (by kernel_rfl) rfl (fun K hK => ?_)
  refine step_callw1 (by rfl) (some 50) (by rfl) (.tmp 49) (by rfl) (.agg #[.slice sA sl.length sc, .int .i64 slog, .int .i64 snext]) rfl (enters_of Tryz.func14 (by kernel_rfl) rfl) _ (KV.out V HBV.out) ?_
  rintro e w8 ⟨rfl, hl⟩
  have HB8 := Lib.hid (HBV.out.trans (hl.mono HBV.out.size))
  have hy2 := (HXS.out w8 HB8.out).1
  refine ⟨_, rfl, ?_⟩
  refine hK _ _ hy2 ?_
  clear hK K hl
  try simp only [Act.put, List.setIfInBounds_toArray, List.set_cons_succ, List.set_cons_zero]
  refine wpAnyE_one (i := 10) (by kernel_rfl) rfl (fun K hK => ?_)
  refine step_callw1 (by rfl) (some 52) (by rfl) (.tmp 51) (by rfl) (.agg #[.slice sA sl.length sc, .int .i64 slog, .int .i64 snext]) rfl (enters_of Tryz.func15 (by kernel_rfl) rfl) _ (KQ.out w8 HB8.out) ?_
  rintro e w9 ⟨rfl, hl⟩
  have HB9 := Lib.hid (HB8.out.trans (hl.mono HB8.out.size))
  have hy3 := (HXS.out w9 HB9.out).1
  refine ⟨_, rfl, ?_⟩
  refine hK _ _ hy3 ?_
  clear hK K hl
  try simp only [Act.put, List.setIfInBounds_toArray, List.set_cons_succ, List.set_cons_zero]
  refine wpAnyE_takes [] (i := 11) (v := .bool true) rfl (by kernel_rfl) (by kernel_rfl) (by kernel_rfl) (by kernel_rfl) (by kernel_rfl) (fun _ _ _ h => h) (yields_of2 (.tmp 50) (.tmp 52) (.bool rr) (.bool rr) (by rfl) (by rfl) (by rfl) ?_) hy3 ?_
  · intro E wy hSw hc q1 q2
    obtain ⟨hs1, hs2, hs3⟩ := hSw
    go_simp
  try simp only [List.getElem_toArray, List.getElem_cons_succ, List.getElem_cons_zero, Act.put, List.setIfInBounds_toArray, List.set_cons_succ, List.set_cons_zero]
  refine wpAnyE_takes [] (i := 12) (v := .bool true) rfl (by kernel_rfl) (by kernel_rfl) (by kernel_rfl) (by kernel_rfl) (by kernel_rfl) (fun _ _ _ h => h) (yields_of2 (.tmp 48) (.tmp 53) (.bool true) (.bool true) (by rfl) (by rfl) (by rfl) ?_) hy3 ?_
  · intro E wy hSw hc q1 q2
    obtain ⟨hs1, hs2, hs3⟩ := hSw
    go_simp
  refine wpAnyE_last (by kernel_rfl) (by kernel_rfl) rfl (fun K hK => ?_)
  go_simp
  refine hK _ _ ?_
  clear hK
  go_wp2_with fail
  go_ret
  exact ⟨rfl, HBW.out.trans (HB9.out.mono HBW.out.size)⟩
end Ver
end Go.Proofs.YtgmnhdkdicgkcaaGreatDoor
