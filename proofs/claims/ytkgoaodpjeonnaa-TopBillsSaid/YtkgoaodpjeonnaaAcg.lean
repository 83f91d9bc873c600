/- Contracts: a search in no periods, an insertion into none; the step of File. -/
import Derived.Test.YtkgoaodpjeonnaaAcf
import Derived.Test.YtkgoaodpjeonnaaBgR
namespace Go.Proofs.Ytkgoaodpjeonnaa
open Go.RowKit

theorem bsearch_none (k : Int) (fv : Value) (w : World) : Calls Try.prog 19 #[.slice none 0 0, .int .i64 k, fv] w fun e w' => e = .returned (.tuple #[.int .i64 0, .bool false]) ∧ w = w' := by
  go_enter Try.func19, Try.ntmps19
  go_wp2_with fail
  go_loop [9, 10] (fun i j => i = .int .i64 0 ∧ j = .int .i64 0) (fun _ _ => 0)
  case atStart => exact ⟨rfl, rfl⟩
  case round =>
    obtain ⟨rfl, rfl⟩ := hrel
    go_wp2_with fail
    go_ret2
    exact ⟨rfl, rfl⟩
set_option maxHeartbeats 800000 in
theorem insert_none (gv : Nat) (p : Per) (w : World) (h : PB w gv p) : Calls Try.prog 21 #[.slice none 0 0, .int .i64 0, .slice (some ⟨gv, 0, none⟩) 1 1] w (CloneOf w p) := by
  have HR := Lib.hid (rd_one h); clear h
  have HN : Hid (OwnS Per.cells 11 w w.heap.size 60 none 0 []) := Lib.hid (OwnS.nil _ _ _)
  go_enter Try.func21, Try.ntmps21
  go_wp2_with (at_builtin; refine wpList_append_s _ rfl _ _ perT rfl w.heap.size none 0 [] rfl HN.out w.heap.size (some ⟨gv, 0, none⟩) 1 1 [p] rfl rfl HR.out (by simp) (by unfold maxLen; simp) (by simp) ?_)
  intro A2 c2 L w2 hL ho hg _
  have HL : Hid (L = [p]) := Lib.hid hL
  have HO := Lib.hid ho
  have HB : Hid (Below w.heap.size w w2) := Lib.hid ((Below.refl _ _).grown hg (by simp) (fun g hg => by simp [blk] at hg))
  clear hL ho hg
  go_wp2_with fail
  go_ret
  have ho := HO.out
  rw [HL.out] at ho
  obtain ⟨g2, rfl, hg2, _, hp⟩ := ho.pb
  exact ⟨g2, c2, by rw [HL.out]; rfl, hg2, hp, HB.out⟩
/-- What File's step is given. -/
structure FileIn (W : World) (gb gr gl : Nat) (day bp : Int) (per due filed inc wh tax prin pen exc : Int) : Prop where
  ab : AB W gb day bp 0 none 0 0
  rb : RBox W gr per due filed inc wh
  zb : ZBox W gl tax prin pen exc
  b0 : 0 ≤ bp
  b1 : bp ≤ 100000
  d0 : 0 ≤ day
  d1 : day ≤ 3652058
  s0 : 0 ≤ due
  p0 : 0 ≤ prin
  p1 : prin ≤ 4611686018427387904
  x0 : 0 ≤ exc
  x1 : exc ≤ 4611686018427387904
theorem pb_new (w : World) (p : Per) : PB (w.alloc (.cells #[.int .i64 p.per, .int .i64 p.due, .int .i64 p.filed, .int .i64 p.inc, .int .i64 p.wh, .int .i64 p.o0, .int .i64 p.o1, .int .i64 p.o2, .int .i64 p.since, .int .i64 p.done, .int .i64 p.acc] 60)) w.heap.size p :=
  ⟨[], 60, by rw [heap_alloc_new]; simp [Per.cells]⟩
/-- What lies while File's step runs. -/
structure FS (w X : World) (B gb gr gl : Nat) (day bp cr : Int) (A : Option Addr) (n c : Nat) (per due filed inc wh tax prin pen exc c1 : Int) (p : Per) : Prop where
  m : MB X w.heap.size 0 0 0 0 0 0
  p : PB X (w.heap.size + 1) p
  mv : MB X (w.heap.size + 1 + 1) pen c1 prin 0 exc 0
  ab : AB X gb day bp cr A n c
  rb : RBox X gr per due filed inc wh
  zb : ZBox X gl tax prin pen exc
  below : Below B w X
  gB : B ≤ gb
  gw : gb < w.heap.size
  size : w.heap.size + 3 ≤ X.heap.size
  gr1 : gr < B
  gl1 : gl < B
section
variable {w X X' : World} {B gb gr gl : Nat} {day bp cr : Int} {A : Option Addr} {n c : Nat} {per due filed inc wh tax prin pen exc c1 : Int} {p : Per}
theorem FS.on (h : FS w X B gb gr gl day bp cr A n c per due filed inc wh tax prin pen exc c1 p) (hb : Below X.heap.size X X') : FS w X' B gb gr gl day bp cr A n c per due filed inc wh tax prin pen exc c1 p :=
  ⟨h.m.keep (hb.block _ h.m.lt), h.p.on hb, h.mv.keep (hb.block _ h.mv.lt), h.ab.on hb, h.rb.on hb, h.zb.on hb, h.below.trans (hb.mono (by have := h.size; have := h.gB; have := h.gw; omega)), h.gB, h.gw, Nat.le_trans h.size hb.size, h.gr1, h.gl1⟩
theorem FS.settle (h : FS w X B gb gr gl day bp cr A n c per due filed inc wh tax prin pen exc c1 p) (x y : Int) : FS w ((X.setCell ⟨w.heap.size + 1, 6, none⟩ (.int .i64 x)).setCell ⟨w.heap.size + 1, 10, none⟩ (.int .i64 y)) B gb gr gl day bp cr A n c per due filed inc wh tax prin pen exc c1 { p with o1 := x, acc := y } := by
  have hk : ∀ g, g ≠ w.heap.size + 1 → ((X.setCell ⟨w.heap.size + 1, 6, none⟩ (.int .i64 x)).setCell ⟨w.heap.size + 1, 10, none⟩ (.int .i64 y)).heap[g]? = X.heap[g]? := fun g hg => by
    rw [Below.heap_setCell _ _ _ _ hg, Below.heap_setCell _ _ _ _ hg]
  have := h.gB; have := h.gw; have := h.gr1; have := h.gl1
  exact ⟨h.m.keep (hk _ (by omega)), h.p.set x y, h.mv.keep (hk _ (by omega)), h.ab.keep (hk _ (by omega)), (hk _ (by omega)).trans h.rb, (hk _ (by omega)).trans h.zb, (h.below.setCell (p := ⟨w.heap.size + 1, 6, none⟩) (by show B ≤ w.heap.size + 1; omega) _).setCell (p := ⟨w.heap.size + 1, 10, none⟩) (by show B ≤ w.heap.size + 1; omega) _, h.gB, h.gw, by simpa [World.setCell] using h.size, h.gr1, h.gl1⟩
theorem FS.move (h : FS w X B gb gr gl day bp cr A n c per due filed inc wh tax prin pen exc c1 p) (x : Int) : FS w (X.setCell ⟨w.heap.size + 1 + 1, 1, none⟩ (.int .i64 x)) B gb gr gl day bp cr A n c per due filed inc wh tax prin pen exc x p := by
  have hk : ∀ g, g ≠ w.heap.size + 1 + 1 → (X.setCell ⟨w.heap.size + 1 + 1, 1, none⟩ (.int .i64 x)).heap[g]? = X.heap[g]? := fun g hg => Below.heap_setCell _ _ _ _ hg
  have := h.gB; have := h.gw; have := h.gr1; have := h.gl1
  exact ⟨h.m.keep (hk _ (by omega)), h.p.keep (hk _ (by omega)), by have := heap_setCell_same X (w.heap.size + 1 + 1) 1 _ _ (.int .i64 x) h.mv; simpa [MB] using this, h.ab.keep (hk _ (by omega)), (hk _ (by omega)).trans h.rb, (hk _ (by omega)).trans h.zb, h.below.setCell (p := ⟨w.heap.size + 1 + 1, 1, none⟩) (by show B ≤ w.heap.size + 1 + 1; omega) _, h.gB, h.gw, by simpa [World.setCell] using h.size, h.gr1, h.gl1⟩
theorem FS.periods (h : FS w X B gb gr gl day bp cr A n c per due filed inc wh tax prin pen exc c1 p) (A' : Option Addr) (n' c' : Nat) : FS w (X.setCell ⟨gb, 3, none⟩ (.slice A' n' c')) B gb gr gl day bp cr A' n' c' per due filed inc wh tax prin pen exc c1 p := by
  have hk : ∀ g, g ≠ gb → (X.setCell ⟨gb, 3, none⟩ (.slice A' n' c')).heap[g]? = X.heap[g]? := fun g hg => Below.heap_setCell _ _ _ _ hg
  have := h.gB; have := h.gw; have := h.gr1; have := h.gl1
  exact ⟨h.m.keep (hk _ (by omega)), h.p.keep (hk _ (by omega)), h.mv.keep (hk _ (by omega)), by have := heap_setCell_same X gb 3 _ _ (.slice A' n' c') h.ab; simpa [AB] using this, (hk _ (by omega)).trans h.rb, (hk _ (by omega)).trans h.zb, h.below.setCell (p := ⟨gb, 3, none⟩) h.gB _, h.gB, h.gw, by simpa [World.setCell] using h.size, h.gr1, h.gl1⟩
theorem FS.credit (h : FS w X B gb gr gl day bp cr A n c per due filed inc wh tax prin pen exc c1 p) (x : Int) : FS w (X.setCell ⟨gb, 2, none⟩ (.int .i64 x)) B gb gr gl day bp x A n c per due filed inc wh tax prin pen exc c1 p := by
  have hk : ∀ g, g ≠ gb → (X.setCell ⟨gb, 2, none⟩ (.int .i64 x)).heap[g]? = X.heap[g]? := fun g hg => Below.heap_setCell _ _ _ _ hg
  have := h.gB; have := h.gw; have := h.gr1; have := h.gl1
  exact ⟨h.m.keep (hk _ (by omega)), h.p.keep (hk _ (by omega)), h.mv.keep (hk _ (by omega)), by have := heap_setCell_same X gb 2 _ _ (.int .i64 x) h.ab; simpa [AB] using this, (hk _ (by omega)).trans h.rb, (hk _ (by omega)).trans h.zb, h.below.setCell (p := ⟨gb, 2, none⟩) h.gB _, h.gB, h.gw, by simpa [World.setCell] using h.size, h.gr1, h.gl1⟩
theorem FS.S (h : FS w X B gb gr gl day bp cr A n c per due filed inc wh tax prin pen exc c1 p) : X.cell? ⟨gb, 3, none⟩ = some (.slice A n c) ∧ (X.cell? ⟨w.heap.size + 1, 0, none⟩ = some (.int .i64 p.per) ∧ X.cell? ⟨w.heap.size + 1, 1, none⟩ = some (.int .i64 p.due) ∧ X.cell? ⟨w.heap.size + 1, 2, none⟩ = some (.int .i64 p.filed) ∧ X.cell? ⟨w.heap.size + 1, 3, none⟩ = some (.int .i64 p.inc) ∧ X.cell? ⟨w.heap.size + 1, 4, none⟩ = some (.int .i64 p.wh) ∧
      X.cell? ⟨w.heap.size + 1, 5, none⟩ = some (.int .i64 p.o0) ∧ X.cell? ⟨w.heap.size + 1, 6, none⟩ = some (.int .i64 p.o1) ∧ X.cell? ⟨w.heap.size + 1, 7, none⟩ = some (.int .i64 p.o2) ∧ X.cell? ⟨w.heap.size + 1, 8, none⟩ = some (.int .i64 p.since) ∧ X.cell? ⟨w.heap.size + 1, 9, none⟩ = some (.int .i64 p.done) ∧ X.cell? ⟨w.heap.size + 1, 10, none⟩ = some (.int .i64 p.acc)) ∧ X.frozen? ⟨gb, 3, none⟩ = false := by
  obtain ⟨a0, a1, a2, a3, a4, af⟩ := h.ab.cells
  obtain ⟨q0, q1, q2, q3, q4, q5, q6, q7, q8, q9, q10, qf⟩ := h.p.cells
  exact ⟨a3, ⟨q0, q1, q2, q3, q4, q5, q6, q7, q8, q9, q10⟩, af 3⟩
theorem FS.new (h : FileIn w gb gr gl day bp per due filed inc wh tax prin pen exc) (hB : B ≤ gb) (hrb : gr < B) (hlb : gl < B) : ∃ W0 : World, ((w.alloc (.cells #[.int .i64 0, .int .i64 0, .int .i64 0, .int .i64 0, .int .i64 0, .int .i64 0] 38)).alloc (.cells #[.int .i64 per, .int .i64 due, .int .i64 filed, .int .i64 inc, .int .i64 wh, .int .i64 pen, .int .i64 0, .int .i64 prin, .int .i64 due, .int .i64 0, .int .i64 0] 60)).alloc (.cells #[.int .i64 pen, .int .i64 0, .int .i64 prin, .int .i64 0, .int .i64 exc, .int .i64 0] 38) = W0 ∧
    FS w W0 B gb gr gl day bp 0 none 0 0 per due filed inc wh tax prin pen exc 0 ⟨per, due, filed, inc, wh, pen, 0, prin, due, 0, 0⟩ := by
  have hgw := h.ab.lt
  have hb : Below w.heap.size w (((w.alloc (.cells #[.int .i64 0, .int .i64 0, .int .i64 0, .int .i64 0, .int .i64 0, .int .i64 0] 38)).alloc (.cells #[.int .i64 per, .int .i64 due, .int .i64 filed, .int .i64 inc, .int .i64 wh, .int .i64 pen, .int .i64 0, .int .i64 prin, .int .i64 due, .int .i64 0, .int .i64 0] 60)).alloc (.cells #[.int .i64 pen, .int .i64 0, .int .i64 prin, .int .i64 0, .int .i64 exc, .int .i64 0] 38)) :=
    (((Below.refl _ _).alloc (Nat.le_refl _) _).alloc (by simp) _).alloc (by simp; omega) _
  refine ⟨_, rfl, ?_, ?_, ?_, h.ab.on hb, h.rb.on hb, h.zb.on hb, hb.mono (by omega), hB, hgw, by simp, hrb, hlb⟩
  · unfold MB; rw [Below.heap_alloc _ _ _ (by simp; omega), Below.heap_alloc _ _ _ (by simp)]; exact heap_alloc_new w _
  · refine ⟨[], 60, ?_⟩
    rw [Below.heap_alloc _ _ _ (by simp)]
    have := heap_alloc_new (w.alloc (.cells #[.int .i64 0, .int .i64 0, .int .i64 0, .int .i64 0, .int .i64 0, .int .i64 0] 38)) (.cells #[.int .i64 per, .int .i64 due, .int .i64 filed, .int .i64 inc, .int .i64 wh, .int .i64 pen, .int .i64 0, .int .i64 prin, .int .i64 due, .int .i64 0, .int .i64 0] 60)
    simpa [Per.cells] using this
  · unfold MB
    have := heap_alloc_new ((w.alloc (.cells #[.int .i64 0, .int .i64 0, .int .i64 0, .int .i64 0, .int .i64 0, .int .i64 0] 38)).alloc (.cells #[.int .i64 per, .int .i64 due, .int .i64 filed, .int .i64 inc, .int .i64 wh, .int .i64 pen, .int .i64 0, .int .i64 prin, .int .i64 due, .int .i64 0, .int .i64 0] 60)) (.cells #[.int .i64 pen, .int .i64 0, .int .i64 prin, .int .i64 0, .int .i64 exc, .int .i64 0] 38)
    simpa using this
end
theorem file_end {w X : World} {B gb gr gl gq cq : Nat} {day bp cr : Int} {per due filed inc wh tax prin pen exc c1 : Int} {p p' : Per} (h : FS w X B gb gr gl day bp cr (some ⟨gq, 0, none⟩) 1 cq per due filed inc wh tax prin pen exc c1 p) (hq : PB X gq p') (hg : w.heap.size + 3 ≤ gq) {a b c d e f : Int} :
    StepOk B a b c d e f day bp cr p' gb w (.returned (.tuple #[.agg #[.int .i64 a, .int .i64 b, .int .i64 c, .int .i64 d, .int .i64 e, .int .i64 f], .int .i64 0])) ((((((X.setCell ⟨w.heap.size, 0, none⟩ (.int .i64 a)).setCell ⟨w.heap.size, 1, none⟩ (.int .i64 b)).setCell ⟨w.heap.size, 2, none⟩ (.int .i64 c)).setCell ⟨w.heap.size, 3, none⟩ (.int .i64 d)).setCell ⟨w.heap.size, 4, none⟩ (.int .i64 e)).setCell ⟨w.heap.size, 5, none⟩ (.int .i64 f)) := by
  have := h.gB; have := h.gw
  have h1 : gb ≠ w.heap.size := by omega
  have h2 : gq ≠ w.heap.size := by omega
  have hB : B ≤ w.heap.size := by omega
  refine ⟨rfl, ⟨gq, cq, ?_, ?_, by omega, by omega⟩, ?_⟩
  · exact (((((h.ab.other (a := ⟨w.heap.size, 0, none⟩) h1 _).other (a := ⟨w.heap.size, 1, none⟩) h1 _).other (a := ⟨w.heap.size, 2, none⟩) h1 _).other (a := ⟨w.heap.size, 3, none⟩) h1 _).other (a := ⟨w.heap.size, 4, none⟩) h1 _).other (a := ⟨w.heap.size, 5, none⟩) h1 _
  · exact (((((hq.other (a := ⟨w.heap.size, 0, none⟩) h2 _).other (a := ⟨w.heap.size, 1, none⟩) h2 _).other (a := ⟨w.heap.size, 2, none⟩) h2 _).other (a := ⟨w.heap.size, 3, none⟩) h2 _).other (a := ⟨w.heap.size, 4, none⟩) h2 _).other (a := ⟨w.heap.size, 5, none⟩) h2 _
  · exact (((((h.below.setCell (p := ⟨w.heap.size, 0, none⟩) hB _).setCell (p := ⟨w.heap.size, 1, none⟩) hB _).setCell (p := ⟨w.heap.size, 2, none⟩) hB _).setCell (p := ⟨w.heap.size, 3, none⟩) hB _).setCell (p := ⟨w.heap.size, 4, none⟩) hB _).setCell (p := ⟨w.heap.size, 5, none⟩) hB _
set_option maxHeartbeats 2000000 in
set_option maxRecDepth 100000 in
theorem file_step_ok (gb gr gl : Nat) (day bp per due filed inc wh tax prin pen exc v : Int) (B : Nat) (w : World) (h : FileIn w gb gr gl day bp per due filed inc wh tax prin pen exc) (hB : B ≤ gb) (hrb : gr < B) (hlb : gl < B) (hv : v = intV day bp due prin) (hv1 : v ≤ 4611686018427387904) :
    Calls Try.prog 17 #[.pointer (some ⟨gb, 0, none⟩), .pointer (some ⟨gr, 0, none⟩), .pointer (some ⟨gl, 0, none⟩)] w (StepOk B pen v prin 0 exc 0 day bp exc ⟨per, due, filed, inc, wh, pen, v, prin, due, 0, v⟩ gb w) := by
  obtain ⟨W0, hW0, hfs⟩ := FS.new h hB hrb hlb
  have HW0 := Lib.hid hW0; have HF0 := Lib.hid hfs
  clear hW0 hfs
  obtain ⟨ab, rb, zb, b0, b1, d0, d1, s0, p0, p1, x0, x1⟩ := h
  have hnn : 0 ≤ v := by rw [hv]; exact intV_nn _ _ _ _
  have KS : Hid (Calls Try.prog 18 #[.pointer (some ⟨gb, 0, none⟩), .pointer (some ⟨w.heap.size + 1, 0, none⟩)] W0 fun e w' => e = .returned (.int .i64 v) ∧ ∃ w1, Below W0.heap.size W0 w1 ∧ w' = (w1.setCell ⟨w.heap.size + 1, 6, none⟩ (.int .i64 v)).setCell ⟨w.heap.size + 1, 10, none⟩ (.int .i64 v)) :=
    Lib.hid ((settle_ok gb (w.heap.size + 1) day bp 0 none 0 0 _ v W0 HF0.out.ab HF0.out.p b0 b1 d0 d1 s0 p0 p1 rfl hv hv1 (by simp) (by simp) (by simp) (by simp) (by simp; exact hv1)).mono fun e w' ⟨he, w1, hb, hw⟩ => ⟨by rw [he]; simp, w1, hb, by rw [hw]; simp⟩)
  have KA : Hid (∀ w, Calls Try.prog 22 #[.int .i64 0, .int .i64 exc] w fun e w' => e = .returned (.int .i64 exc) ∧ Below w.heap.size w w') :=
    Lib.hid (fun w => (aadd_ok 0 exc (by omega) (by omega) (by omega) x1 (by omega) w).mono fun e w' ⟨he, hb⟩ => ⟨by rw [he]; simp, hb⟩)
  have r0 := cell_of_row w gr 0 _ _ (0, 0) rb
  have r1 := cell_of_row w gr 1 _ _ (0, 0) rb
  have r2 := cell_of_row w gr 2 _ _ (0, 0) rb
  have r3 := cell_of_row w gr 3 _ _ (0, 0) rb
  have r4 := cell_of_row w gr 4 _ _ (0, 0) rb
  simp at r0 r1 r2 r3 r4
  have z1 := cell_of_row w gl 1 _ _ (0, 0) zb
  have z2 := cell_of_row w gl 2 _ _ (0, 0) zb
  have z3 := cell_of_row w gl 3 _ _ (0, 0) zb
  simp at z1 z2 z3
  have hlr := heap_lt rb
  have hlz := heap_lt zb
  clear ab rb zb hv
  go_enter Try.func17, Try.ntmps17
  go_wp2_with fail
  rw [HW0.out]
  refine KS.out.mono ?_
  rintro e w' ⟨rfl, w1, hb1, rfl⟩
  have HF1 := Lib.hid ((HF0.out.on hb1).settle v v)
  obtain ⟨X1, hX1⟩ : ∃ X1, (w1.setCell ⟨w.heap.size + 1, 6, none⟩ (.int .i64 v)).setCell ⟨w.heap.size + 1, 10, none⟩ (.int .i64 v) = X1 := ⟨_, rfl⟩
  rw [hX1] at HF1 ⊢
  clear hX1 hb1 r0 r1 r2 r3 r4 z1 z2 z3 KS HF0 HW0
  have HF2 := Lib.hid (HF1.out.move v)
  obtain ⟨m0, m1, m2, m3, m4, m5, mf⟩ := HF1.out.mv.cells
  have mf1 := mf 1
  clear mf m0 m2 m3 m4 m5
  obtain ⟨X2, hX2⟩ : ∃ X2, X1.setCell ⟨w.heap.size + 1 + 1, 1, none⟩ (.int .i64 v) = X2 := ⟨_, rfl⟩
  rw [hX2] at HF2
  have HX2 := Lib.hid hX2
  clear hX2
  go_wp2_with fail
  rw [HX2.out]
  obtain ⟨a0, a1, a2, a3, a4, af⟩ := HF2.out.ab.cells
  have q0 := cell_of_row X2 gr 0 _ _ (0, 0) HF2.out.rb
  simp at q0
  go_quiet ((go_at_call 19; exact Calls.quiet_of_same ((bsearch_none _ _ _).mono fun _ _ ⟨h1, h2⟩ => ⟨h1, h2.symm⟩)))
  rename_i nq
  have HF3 := Lib.hid (HF2.out.on (below_dr (k := nq) (Below.refl _ _)))
  obtain ⟨X3, hX3⟩ : ∃ X3, X2.drewN nq = X3 := ⟨_, rfl⟩
  rw [hX3] at HF3 ⊢
  clear hX3 a0 a1 a2 a3 a4 af q0 m1 mf1 HF1 HX2
  obtain ⟨a0, a1, a2, a3, a4, af⟩ := HF3.out.ab.cells
  have af3 := af 3
  obtain ⟨q0, q1, q2, q3, q4, q5, q6, q7, q8, q9, q10, qf⟩ := HF3.out.p.cells
  simp only at q0 q1 q2 q3 q4 q5 q6 q7 q8 q9 q10
  clear af qf
  go_wp2_with fail
  have HD4 := Lib.hid (HF3.out.on ((Below.refl _ _).drew))
  have HE4 := Lib.hid (HF3.out.on (((Below.refl _ _).alloc (Nat.le_refl _) (.cells #[.int .i64 per, .int .i64 due, .int .i64 filed, .int .i64 inc, .int .i64 wh, .int .i64 pen, .int .i64 v, .int .i64 prin, .int .i64 due, .int .i64 0, .int .i64 v] 60)).drew))
  have KI := Lib.hid (insert_none X3.heap.size ⟨per, due, filed, inc, wh, pen, v, prin, due, 0, v⟩ (X3.alloc (.cells #[.int .i64 per, .int .i64 due, .int .i64 filed, .int .i64 inc, .int .i64 wh, .int .i64 pen, .int .i64 v, .int .i64 prin, .int .i64 due, .int .i64 0, .int .i64 v] 60)).drew (pb_new X3 ⟨per, due, filed, inc, wh, pen, v, prin, due, 0, v⟩))
  have hl1 := HF3.out.ab.lt
  have hl2 := HF3.out.p.lt
  go_region_with (go_at_call 21; (with_reducible refine KI.out.mono ?_); rintro e w5 ⟨gq, cq, rfl, hgq, hpq, hb5⟩; have HF5 := Lib.hid (HE4.out.on hb5); have HQ5 := Lib.hid hpq; have HG5 : Hid (w.heap.size + 3 ≤ gq) := Lib.hid (by have := HE4.out.size; exact Nat.le_trans this hgq); have y3 := HF5.out.ab.cells.2.2.2.1; have yf := HF5.out.ab.cells.2.2.2.2.2 3; clear hpq hgq hb5)
  all_goals
    obtain ⟨X6, hX6⟩ : ∃ X6, w5.setCell ⟨gb, 3, none⟩ (.slice (some ⟨gq, 0, none⟩) 1 cq) = X6 := ⟨_, rfl⟩
    have HF6 := Lib.hid (HF5.out.periods (some ⟨gq, 0, none⟩) 1 cq)
    have HQ6 := Lib.hid (HQ5.out.other (a := ⟨gb, 3, none⟩) (by show gq ≠ gb; have := HG5.out; have := HF5.out.gw; omega) (.slice (some ⟨gq, 0, none⟩) 1 cq))
    rw [hX6] at HF6 HQ6 ⊢
    clear hX6 a0 a1 a2 a3 a4 af3 q0 q1 q2 q3 q4 q5 q6 q7 q8 q9 q10 y3 yf hl1 hl2 HF5 HE4 HD4 KI HQ5
    have hl1 := HF6.out.ab.lt
    obtain ⟨a0, a1, a2, a3, a4, af⟩ := HF6.out.ab.cells
    have af2 := af 2
    have z3 := cell_of_row X6 gl 3 _ _ (0, 0) HF6.out.zb
    simp at z3
    clear af
    go_wp2_with fail
    go_region_with (go_at_call 22; (with_reducible refine (KA.out _).mono ?_); rintro e w7 ⟨rfl, hb7⟩; have HF7 := Lib.hid (HF6.out.on (((Below.refl _ _).drew).trans hb7)); have HQ7 := Lib.hid (HQ6.out.on (((Below.refl _ _).drew).trans hb7)); have y2 := HF7.out.ab.cells.2.2.1; have yf := HF7.out.ab.cells.2.2.2.2.2 2; clear hb7)
  all_goals
    obtain ⟨X8, hX8⟩ : ∃ X8, w7.setCell ⟨gb, 2, none⟩ (.int .i64 exc) = X8 := ⟨_, rfl⟩
    have HF8 := Lib.hid (HF7.out.credit exc)
    have HQ8 := Lib.hid (HQ7.out.other (a := ⟨gb, 2, none⟩) (by show gq ≠ gb; have := HG5.out; have := HF7.out.gw; omega) (.int .i64 exc))
    rw [hX8] at HF8 HQ8 ⊢
    clear hX8 a0 a1 a2 a3 a4 af2 z3 hl1 y2 yf HF7 HQ7 HF6 HQ6
    obtain ⟨m0, m1, m2, m3, m4, m5, mf⟩ := HF8.out.mv.cells
    obtain ⟨n0, n1, n2, n3, n4, n5, nf⟩ := HF8.out.m.cells
    have nf0 := nf 0; have nf1 := nf 1; have nf2 := nf 2; have nf3 := nf 3; have nf4 := nf 4; have nf5 := nf 5
    clear mf nf
    go_wp2_with fail
    refine bodyPost_ret (results_c2 rfl _ _ w.heap.size 38 #[.int .i64 pen, .int .i64 v, .int .i64 prin, .int .i64 0, .int .i64 exc, .int .i64 0] (0, 0) _ rfl ?hg Try.underlying38 rfl move_size) rfl ?_
    case hg => exact heap_set6 HF8.out.m
    exact file_end HF8.out HQ8.out HG5.out
set_option maxHeartbeats 2000000 in
set_option maxRecDepth 100000 in
theorem file_step_over (gb gr gl : Nat) (day bp per due filed inc wh tax prin pen exc : Int) (B : Nat) (w : World) (h : FileIn w gb gr gl day bp per due filed inc wh tax prin pen exc) (hB : B ≤ gb) (hrb : gr < B) (hlb : gl < B) (hv1 : 4611686018427387904 < intV day bp due prin) :
    Calls Try.prog 17 #[.pointer (some ⟨gb, 0, none⟩), .pointer (some ⟨gr, 0, none⟩), .pointer (some ⟨gl, 0, none⟩)] w (StepOver B w) := by
  obtain ⟨W0, hW0, hfs⟩ := FS.new h hB hrb hlb
  have HW0 := Lib.hid hW0; have HF0 := Lib.hid hfs
  clear hW0 hfs
  obtain ⟨ab, rb, zb, b0, b1, d0, d1, s0, p0, p1, x0, x1⟩ := h
  have KS := Lib.hid (settle_over gb (w.heap.size + 1) day bp 0 none 0 0 _ W0 HF0.out.ab HF0.out.p b0 b1 d0 d1 s0 p0 p1 rfl hv1)
  have r0 := cell_of_row w gr 0 _ _ (0, 0) rb
  have r1 := cell_of_row w gr 1 _ _ (0, 0) rb
  have r2 := cell_of_row w gr 2 _ _ (0, 0) rb
  have r3 := cell_of_row w gr 3 _ _ (0, 0) rb
  have r4 := cell_of_row w gr 4 _ _ (0, 0) rb
  simp at r0 r1 r2 r3 r4
  have z1 := cell_of_row w gl 1 _ _ (0, 0) zb
  have z2 := cell_of_row w gl 2 _ _ (0, 0) zb
  have z3 := cell_of_row w gl 3 _ _ (0, 0) zb
  simp at z1 z2 z3
  have hlr := heap_lt rb
  have hlz := heap_lt zb
  clear ab rb zb hv1
  go_enter Try.func17, Try.ntmps17
  go_wp2_with fail
  rw [HW0.out]
  refine KS.out.mono ?_
  rintro e w' ⟨rfl, hb1⟩
  exact ⟨rfl, And.intro rfl (HF0.out.on hb1).below⟩
end Go.Proofs.Ytkgoaodpjeonnaa
