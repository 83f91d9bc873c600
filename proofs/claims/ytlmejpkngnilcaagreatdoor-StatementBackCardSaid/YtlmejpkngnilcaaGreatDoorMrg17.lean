/- Parts of the proof, one behind the other: Contracts: strings.NewReplacer(",", "", ".", "").Replace. -/
import Derived.Test.YtlmejpkngnilcaaGreatDoorMrg14
import Derived.Test.YtlmejpkngnilcaaGreatDoorMrg16
namespace Go.Proofs.YtlmejpkngnilcaaGreatDoor
open Go.RowKit

/-- A new replacer. -/
structure NewAt (w : World) (r o c : Nat) : Prop where
  box : w.heap[r]? = some (.cells #[.int .u32 0, .int .i32 0, .int .u32 0, .nilIface, .slice (some ⟨o, 0, none⟩) 4 c] 114)
  old : Old4 w o
set_option maxRecDepth 100000 in
theorem newrep_any (g : Nat) (w : World) (h : Old4 w g) : Calls Tryz.prog 37 #[.slice (some ⟨g, 0, none⟩) 4 4] w fun e w' => ∃ r o c, e = .returned (.pointer (some ⟨r, 0, none⟩)) ∧ w.heap.size ≤ r ∧ NewAt w' r o c ∧ Below w.heap.size w w' := by
  have hgl : g < w.heap.size := World.block_lt_of_cell? w _ h.c0
  have HRD : Hid (RdS S1r 1 w w.heap.size (some ⟨g, 0, none⟩) [⟨#[44]⟩, ⟨#[]⟩, ⟨#[46]⟩, ⟨#[]⟩]) := Lib.hid (RdS.of (f := S1r) (n := 1) (l := [⟨#[44]⟩, ⟨#[]⟩, ⟨#[46]⟩, ⟨#[]⟩]) (fun _ => rfl) g 0 hgl (fun k hk j u hu => by
    have hj : j = 0 := by
      rcases Nat.lt_or_ge j 1 with h | h
      · omega
      · rw [List.getElem?_eq_none (by simp [S1r]; omega)] at hu; cases hu
    subst hj
    have hk4 : k = 0 ∨ k = 1 ∨ k = 2 ∨ k = 3 := by simp only [List.length_cons, List.length_nil] at hk; omega
    rcases hk4 with rfl | rfl | rfl | rfl
    · injection hu with hu; subst hu; exact h.c0
    · injection hu with hu; subst hu; exact h.c1
    · injection hu with hu; subst hu; exact h.c2
    · injection hu with hu; subst hu; exact h.c3))
  clear h
  go_enter Tryz.func37, Tryz.ntmps37
  go_wp2_with (at_builtin; refine wpList_append_s _ rfl _ _ strTr rfl w.heap.size none 0 ([] : List ByteArray) rfl (OwnS.nil _ _ _) w.heap.size (some ⟨g, 0, none⟩) 4 4 [⟨#[44]⟩, ⟨#[]⟩, ⟨#[46]⟩, ⟨#[]⟩] rfl rfl HRD.out (by simp) (by unfold maxLen; simp) (Nat.le_refl _) ?_; intro A5 c5 L5 w5 hL5 ho5 hg5 _; obtain rfl : L5 = [⟨#[44]⟩, ⟨#[]⟩, ⟨#[46]⟩, ⟨#[]⟩] := hL5; have HO5 := Lib.hid ho5; have HB5 : Hid (Below w.heap.size w w5) := Lib.hid (below_grow (Below.refl _ _) hg5 (fun q hq => by cases hq) (Nat.le_refl _)); clear ho5 hg5)
  go_ret
  obtain ⟨o, cur, rfl, ho, _, _⟩ := HO5.out.form (by simp)
  obtain ⟨t, off, hA, _, hc⟩ := RdS.row (f := S1r) (n := 1) (fun _ => rfl) (by omega) HO5.out.rd (by simp)
  injection hA with hA
  injection hA with q1 q2 _
  subst q1 q2
  have hb6 := (Below.refl w5.heap.size w5).alloc (Nat.le_refl _) (.cells #[.int .u32 0, .int .i32 0, .int .u32 0, .nilIface, .slice (some ⟨o, 0, none⟩) 4 c5] 114)
  have ho5 : o < w5.heap.size := (HO5.out.blk_ge o rfl).2
  have e0 := hc 0 (by simp) 0 _ rfl
  have e1 := hc 1 (by simp) 0 _ rfl
  have e2 := hc 2 (by simp) 0 _ rfl
  have e3 := hc 3 (by simp) 0 _ rfl
  exact ⟨w5.heap.size, o, c5, rfl, HB5.out.size, ⟨heap_alloc_new w5 _, Old4.below ⟨by simpa using e0, by simpa using e1, by simpa using e2, by simpa using e3⟩ hb6 ho5⟩, HB5.out.trans (hb6.mono HB5.out.size)⟩
theorem RepAt.set {w : World} {b r : Nat} (h : RepAt w b) (hr : r ≠ b) {k : IntKind} {n : Int} (hx : w.cell? ⟨r, 0, none⟩ = some (.int k n)) (j : Nat) (v : Value) : RepAt (w.setCell ⟨r, j, none⟩ v) b := by
  obtain ⟨t, c, t0, t1, t2⟩ := h.two
  have ht : r ≠ t := fun e => by
    rw [← e, hx] at t1
    cases t1
  have ob : ∀ i, (w.setCell ⟨r, j, none⟩ v).cell? ⟨b, i, none⟩ = w.cell? ⟨b, i, none⟩ := fun i => World.cell?_setCell_other _ ⟨r, j, none⟩ ⟨b, i, none⟩ _ (by first | simp | (intro e; injection e with e; exact hr e.symm))
  have ot : ∀ i, (w.setCell ⟨r, j, none⟩ v).cell? ⟨t, i, none⟩ = w.cell? ⟨t, i, none⟩ := fun i => World.cell?_setCell_other _ ⟨r, j, none⟩ ⟨t, i, none⟩ _ (by first | simp | (intro e; injection e with e; exact ht e.symm))
  refine ⟨fun i hi => ?_, t, c, (ob _).trans t0, (ot _).trans t1, (ot _).trans t2⟩
  rw [ob]
  exact h.rep i hi
/-- Behind what is done once. -/
structure DoneAt (w0 : World) (r : Nat) (x0 x1 x2 : Int) (w : World) : Prop where
  box : ∃ b, w.heap[r]? = some (.cells #[.int .u32 x0, .int .i32 x1, .int .u32 x2, .iface 179 (.pointer (some ⟨b, 0, none⟩)), .slice none 0 0] 114) ∧ r ≠ b ∧ RepAt w b
  bel : ∀ B, B ≤ r → Below B w0 w
set_option maxHeartbeats 1000000 in
set_option maxRecDepth 100000 in
theorem once_any (r o c : Nat) (w0 w : World) (x0 x1 x2 : Int) (h : w.heap[r]? = some (.cells #[.int .u32 x0, .int .i32 x1, .int .u32 x2, .nilIface, .slice (some ⟨o, 0, none⟩) 4 c] 114)) (ho : Old4 w o) (hb : ∀ B, B ≤ r → Below B w0 w) :
    Calls Tryz.prog 56 #[.pointer (some ⟨r, 0, none⟩)] w fun e w' => e = .returned (.tuple #[]) ∧ DoneAt w0 r x0 x1 x2 w' := by
  have hrl : r < w.heap.size := (Array.getElem?_eq_some_iff.1 h).1
  have K := Lib.hid (build_any r o c w (by rw [cell_of_row w r 4 _ _ (0, 0) h]; rfl) ho)
  have H := Lib.hid h
  have HB := Lib.hid hb
  clear h ho hb
  go_enter Tryz.func56, Tryz.ntmps56
  go_wp2_with fail
  refine K.out.mono ?_
  rintro e w1 ⟨b, rfl, hbb, hrp, hb1⟩
  have hx := (hb1.block r hrl).trans H.out
  have c3 : w1.cell? ⟨r, 3, none⟩ = some .nilIface := by rw [cell_of_row w1 r 3 _ _ (0, 0) hx]; rfl
  have c4 : w1.cell? ⟨r, 4, none⟩ = some (.slice (some ⟨o, 0, none⟩) 4 c) := by rw [cell_of_row w1 r 4 _ _ (0, 0) hx]; rfl
  have f3 : w1.frozen? ⟨r, 3, none⟩ = false := frozen_of_row w1 r 3 _ _ hx
  have f4 : w1.frozen? ⟨r, 4, none⟩ = false := frozen_of_row w1 r 4 _ _ hx
  have HX := Lib.hid hx
  have HRP := Lib.hid hrp
  have HBB := Lib.hid hbb
  have HB1 := Lib.hid hb1
  clear hx hrp hbb hb1 K
  go_wp2_with fail
  go_end0
  have hne : r ≠ b := by have := HBB.out; omega
  have c0 : w1.cell? ⟨r, 0, none⟩ = some (.int .u32 x0) := by rw [cell_of_row w1 r 0 _ _ (0, 0) HX.out]; rfl
  refine ⟨rfl, ⟨b, ?_, hne, ?_⟩, fun B hB => ((((HB.out B hB).trans (HB1.out.mono (by omega))).setCell hB _).setCell hB _)⟩
  · have e1 := heap_setCell_same w1 r 3 _ _ (.iface 179 (.pointer (some ⟨b, 0, none⟩))) HX.out
    have e2 := heap_setCell_same _ r 4 _ _ (.slice none 0 0) e1
    simpa using e2
  · have h1 := HRP.out.set hne c0 3 (.iface 179 (.pointer (some ⟨b, 0, none⟩)))
    exact h1.set hne (k := .u32) (n := x0) (by rw [World.cell?_setCell_other _ ⟨r, 3, none⟩ ⟨r, 0, none⟩ _ (by simp)]; exact c0) 4 _
set_option maxHeartbeats 1000000 in
set_option maxRecDepth 100000 in
theorem replace_any (r o c : Nat) (s : ByteArray) (L : List UInt8) (hL : L = s.data.toList) (hs : s.size ≤ 1000000) (w : World) (h : NewAt w r o c) :
    Calls Tryz.prog 38 #[.pointer (some ⟨r, 0, none⟩), .string s] w fun e w' => e = .returned (.string ⟨(bareL L).toArray⟩) ∧ ∀ B, B ≤ r → Below B w w' := by
  have hor : o ≠ r := fun e => by
    have h1 := h.old.c0
    rw [e, cell_of_row w r 0 _ _ (0, 0) h.box] at h1
    cases h1
  have e1 := heap_setCell_same w r 1 _ _ (.int .i32 1) h.box
  have hK := once_any r o c w (w.setCell ⟨r, 1, none⟩ (.int .i32 1)) 0 1 0 (by simpa using e1) (h.old.keep (heap_setCell_other _ ⟨r, 1, none⟩ o _ hor)) (fun B hB => (Below.refl _ _).setCell hB _)
  have KD := Lib.hid (onc_first r 0 #[.pointer (some ⟨r, 0, none⟩)] (DoneAt w r 0 1 0) w (by rw [cell_of_row w r 0 _ _ (0, 0) h.box]; rfl) (by rw [cell_of_row w r 1 _ _ (0, 0) h.box]; rfl) (frozen_of_row w r 1 _ _ h.box) hK (fun w' hq => by
    obtain ⟨b, hx, _, _⟩ := hq.box
    exact ⟨by rw [cell_of_row w' r 0 _ _ (0, 0) hx]; rfl, frozen_of_row w' r 0 _ _ hx, by rw [cell_of_row w' r 1 _ _ (0, 0) hx]; rfl, frozen_of_row w' r 1 _ _ hx⟩))
  have HS := Lib.hid hs
  have HL := Lib.hid hL
  clear h hor e1 hK hs hL
  go_enter Tryz.func38, Tryz.ntmps38
  go_wp2_with fail
  refine KD.out.mono ?_
  rintro e w2 ⟨rfl, w1, hq, he⟩
  have HD : Hid (DoneAt w r 1 0 0 w2) := Lib.hid (by
    obtain ⟨b, hx, hne, hrp⟩ := hq.box
    have hxd : w1.drew.heap[r]? = _ := hx
    have e1 := heap_setCell_same w1.drew r 0 _ _ (.int .u32 1) hxd
    have e2 := heap_setCell_same _ r 1 _ _ (.int .i32 0) e1
    have c0 : w1.drew.cell? ⟨r, 0, none⟩ = some (.int .u32 0) := by rw [cell_of_row w1.drew r 0 _ _ (0, 0) hxd]; rfl
    have hrd : RepAt w1.drew b := hrp.below (Below.refl _ _).drew
    rw [he]
    refine ⟨⟨b, by simpa using e2, hne, ?_⟩, fun B hB => (((hq.bel B hB).drew).setCell hB _).setCell hB _⟩
    exact (hrd.set hne c0 0 (.int .u32 1)).set hne (k := .u32) (n := 1) (by rw [cell_of_row _ r 0 _ _ (0, 0) e1]; simp) 1 _)
  clear hq he KD
  obtain ⟨b, hx, hne, hrp⟩ := HD.out.box
  have c3 : w2.cell? ⟨r, 3, none⟩ = some (.iface 179 (.pointer (some ⟨b, 0, none⟩))) := by rw [cell_of_row w2 r 3 _ _ (0, 0) hx]; rfl
  have KB := Lib.hid (brep_any b s L HL.out HS.out w2 hrp)
  clear hx hne hrp
  go_wp2_with fail
  refine KB.out.mono ?_
  rintro e w3 ⟨rfl, hb3⟩
  have HB3 := Lib.hid hb3
  clear hb3 KB
  go_wp2_with fail
  go_ret
  exact ⟨rfl, fun B hB => (HD.out.bel B hB).trans (HB3.out.mono (by obtain ⟨_, hx, _⟩ := HD.out.box; have := (Array.getElem?_eq_some_iff.1 hx).1; omega))⟩
end Go.Proofs.YtlmejpkngnilcaaGreatDoor
