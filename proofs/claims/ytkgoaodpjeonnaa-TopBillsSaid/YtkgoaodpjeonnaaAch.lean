/- The step of Advance. -/
import Derived.Test.YtkgoaodpjeonnaaAcf
import Derived.Test.YtkgoaodpjeonnaaBgR
import Derived.LoopTactic
import Derived.Deep.RegionLaw
namespace Go.Proofs.Ytkgoaodpjeonnaa
open Go.RowKit

/-- A number in a block of its own. -/
def NB (w : World) (g : Nat) (x : Int) : Prop := w.heap[g]? = some (.cells #[.int .i64 x] 3)
/-- What lies while Advance's step runs. -/
structure FA (w X : World) (B gb gq : Nat) (day bp cr : Int) (c : Nat) (c1 : Int) (p : Per) : Prop where
  m : MB X w.heap.size 0 0 0 0 0 0
  mv : MB X (w.heap.size + 1) 0 c1 0 0 0 0
  ab : AB X gb day bp cr (some ⟨gq, 0, none⟩) 1 c
  p : PB X gq p
  below : Below B w X
  gB : B ≤ gb
  gw : gb < w.heap.size
  qB : B ≤ gq
  qw : gq < w.heap.size
  qb : gq ≠ gb
  size : w.heap.size + 2 ≤ X.heap.size
section
variable {w X X' : World} {B gb gq : Nat} {day bp cr : Int} {c : Nat} {c1 : Int} {p : Per}
theorem FA.on (h : FA w X B gb gq day bp cr c c1 p) (hb : Below X.heap.size X X') : FA w X' B gb gq day bp cr c c1 p :=
  ⟨h.m.keep (hb.block _ h.m.lt), h.mv.keep (hb.block _ h.mv.lt), h.ab.on hb, h.p.on hb, h.below.trans (hb.mono (by have := h.size; have := h.gB; have := h.gw; omega)), h.gB, h.gw, h.qB, h.qw, h.qb, Nat.le_trans h.size hb.size⟩
theorem FA.settle (h : FA w X B gb gq day bp cr c c1 p) (x y : Int) : FA w ((X.setCell ⟨gq, 6, none⟩ (.int .i64 x)).setCell ⟨gq, 10, none⟩ (.int .i64 y)) B gb gq day bp cr c c1 { p with o1 := x, acc := y } := by
  have hk : ∀ g, g ≠ gq → ((X.setCell ⟨gq, 6, none⟩ (.int .i64 x)).setCell ⟨gq, 10, none⟩ (.int .i64 y)).heap[g]? = X.heap[g]? := fun g hg => by
    rw [Below.heap_setCell _ _ _ _ hg, Below.heap_setCell _ _ _ _ hg]
  have := h.gB; have := h.gw; have := h.qw; have := h.qb
  exact ⟨h.m.keep (hk _ (by omega)), h.mv.keep (hk _ (by omega)), h.ab.keep (hk _ (by omega)), h.p.set x y, (h.below.setCell (p := ⟨gq, 6, none⟩) h.qB _).setCell (p := ⟨gq, 10, none⟩) h.qB _, h.gB, h.gw, h.qB, h.qw, h.qb, by simpa [World.setCell] using h.size⟩
theorem FA.move (h : FA w X B gb gq day bp cr c c1 p) (x : Int) : FA w (X.setCell ⟨w.heap.size + 1, 1, none⟩ (.int .i64 x)) B gb gq day bp cr c x p := by
  have hk : ∀ g, g ≠ w.heap.size + 1 → (X.setCell ⟨w.heap.size + 1, 1, none⟩ (.int .i64 x)).heap[g]? = X.heap[g]? := fun g hg => Below.heap_setCell _ _ _ _ hg
  have := h.gB; have := h.gw; have := h.qw; have := h.qb
  exact ⟨h.m.keep (hk _ (by omega)), by have := heap_setCell_same X (w.heap.size + 1) 1 _ _ (.int .i64 x) h.mv; simpa [MB] using this, h.ab.keep (hk _ (by omega)), h.p.keep (hk _ (by omega)), h.below.setCell (p := ⟨w.heap.size + 1, 1, none⟩) (by show B ≤ w.heap.size + 1; omega) _, h.gB, h.gw, h.qB, h.qw, h.qb, by simpa [World.setCell] using h.size⟩
theorem FA.setDay (h : FA w X B gb gq day bp cr c c1 p) (x : Int) : FA w (X.setCell ⟨gb, 0, none⟩ (.int .i64 x)) B gb gq x bp cr c c1 p := by
  have hk : ∀ g, g ≠ gb → (X.setCell ⟨gb, 0, none⟩ (.int .i64 x)).heap[g]? = X.heap[g]? := fun g hg => Below.heap_setCell _ _ _ _ hg
  have := h.gB; have := h.gw; have := h.qw; have := h.qb
  exact ⟨h.m.keep (hk _ (by omega)), h.mv.keep (hk _ (by omega)), by have := heap_setCell_same X gb 0 _ _ (.int .i64 x) h.ab; simpa [AB] using this, h.p.keep (hk _ (by omega)), h.below.setCell (p := ⟨gb, 0, none⟩) h.gB _, h.gB, h.gw, h.qB, h.qw, h.qb, by simpa [World.setCell] using h.size⟩
theorem FA.new (ha : AB w gb day bp cr (some ⟨gq, 0, none⟩) 1 c) (hp : PB w gq p) (hB : B ≤ gb) (hq : B ≤ gq) (hne : gq ≠ gb) : ∃ W0 : World, (w.alloc (.cells #[.int .i64 0, .int .i64 0, .int .i64 0, .int .i64 0, .int .i64 0, .int .i64 0] 38)).alloc (.cells #[.int .i64 0, .int .i64 0, .int .i64 0, .int .i64 0, .int .i64 0, .int .i64 0] 38) = W0 ∧ FA w W0 B gb gq day bp cr c 0 p := by
  have hgw := ha.lt
  have hqw := hp.lt
  have hb : Below w.heap.size w ((w.alloc (.cells #[.int .i64 0, .int .i64 0, .int .i64 0, .int .i64 0, .int .i64 0, .int .i64 0] 38)).alloc (.cells #[.int .i64 0, .int .i64 0, .int .i64 0, .int .i64 0, .int .i64 0, .int .i64 0] 38)) :=
    ((Below.refl _ _).alloc (Nat.le_refl _) _).alloc (by simp) _
  refine ⟨_, rfl, ?_, ?_, ha.on hb, hp.on hb, hb.mono (by omega), hB, hgw, hq, hqw, hne, by simp⟩
  · unfold MB; rw [Below.heap_alloc _ _ _ (by simp)]; exact heap_alloc_new w _
  · unfold MB
    have := heap_alloc_new (w.alloc (.cells #[.int .i64 0, .int .i64 0, .int .i64 0, .int .i64 0, .int .i64 0, .int .i64 0] 38)) (.cells #[.int .i64 0, .int .i64 0, .int .i64 0, .int .i64 0, .int .i64 0, .int .i64 0] 38)
    simpa using this
end
theorem adv_end {w X : World} {B gb gq c : Nat} {day bp cr : Int} {c1 : Int} {p : Per} (h : FA w X B gb gq day bp cr c c1 p) {a b d e f g : Int} :
    StepOk B a b d e f g day bp cr p gb w (.returned (.tuple #[.agg #[.int .i64 a, .int .i64 b, .int .i64 d, .int .i64 e, .int .i64 f, .int .i64 g], .int .i64 0])) ((((((X.setCell ⟨w.heap.size, 0, none⟩ (.int .i64 a)).setCell ⟨w.heap.size, 1, none⟩ (.int .i64 b)).setCell ⟨w.heap.size, 2, none⟩ (.int .i64 d)).setCell ⟨w.heap.size, 3, none⟩ (.int .i64 e)).setCell ⟨w.heap.size, 4, none⟩ (.int .i64 f)).setCell ⟨w.heap.size, 5, none⟩ (.int .i64 g)) := by
  have := h.gB; have := h.gw; have := h.qw
  have h1 : gb ≠ w.heap.size := by omega
  have h2 : gq ≠ w.heap.size := by omega
  have hB : B ≤ w.heap.size := by omega
  refine ⟨rfl, ⟨gq, c, ?_, ?_, h.qB, h.qb⟩, ?_⟩
  · exact (((((h.ab.other (a := ⟨w.heap.size, 0, none⟩) h1 _).other (a := ⟨w.heap.size, 1, none⟩) h1 _).other (a := ⟨w.heap.size, 2, none⟩) h1 _).other (a := ⟨w.heap.size, 3, none⟩) h1 _).other (a := ⟨w.heap.size, 4, none⟩) h1 _).other (a := ⟨w.heap.size, 5, none⟩) h1 _
  · exact (((((h.p.other (a := ⟨w.heap.size, 0, none⟩) h2 _).other (a := ⟨w.heap.size, 1, none⟩) h2 _).other (a := ⟨w.heap.size, 2, none⟩) h2 _).other (a := ⟨w.heap.size, 3, none⟩) h2 _).other (a := ⟨w.heap.size, 4, none⟩) h2 _).other (a := ⟨w.heap.size, 5, none⟩) h2 _
  · exact (((((h.below.setCell (p := ⟨w.heap.size, 0, none⟩) hB _).setCell (p := ⟨w.heap.size, 1, none⟩) hB _).setCell (p := ⟨w.heap.size, 2, none⟩) hB _).setCell (p := ⟨w.heap.size, 3, none⟩) hB _).setCell (p := ⟨w.heap.size, 4, none⟩) hB _).setCell (p := ⟨w.heap.size, 5, none⟩) hB _
/-- What Advance's step is given. -/
structure AdvIn (W : World) (B gb gq gd : Nat) (day bp cr : Int) (c : Nat) (p : Per) (days : Int) : Prop where
  ab : AB W gb day bp cr (some ⟨gq, 0, none⟩) 1 c
  pb : PB W gq p
  nb : NB W gd days
  gB : B ≤ gb
  qB : B ≤ gq
  qb : gq ≠ gb
  b0 : 0 ≤ bp
  b1 : bp ≤ 100000
  d0 : 0 ≤ day
  y0 : 0 ≤ days
  d1 : day + days ≤ 3652058
  s0 : 0 ≤ p.since
  p0 : 0 ≤ p.o2
  p1 : p.o2 ≤ 4611686018427387904
  dn : p.done = 0
  a0 : 0 ≤ p.acc
  a1 : p.acc ≤ 4611686018427387904
  o1 : p.o1 = p.acc
set_option maxHeartbeats 2000000 in
set_option maxRecDepth 100000 in
theorem adv_step_ok (gb gq gd : Nat) (day bp cr : Int) (c : Nat) (p : Per) (days v : Int) (B : Nat) (w : World) (h : AdvIn w B gb gq gd day bp cr c p days) (hv : v = intV (day + days) bp p.since p.o2) (hv1 : v ≤ 4611686018427387904) :
    Calls Try.prog 23 #[.pointer (some ⟨gb, 0, none⟩), .pointer (some ⟨gd, 0, none⟩)] w (StepOk B 0 (v - p.acc) 0 0 0 0 (day + days) bp cr { p with o1 := v, acc := v } gb w) := by
  obtain ⟨ab, pb, nb, gB, qB, qb, b0, b1, d0, y0, d1, s0, p0, p1, dn, a0, a1, o1⟩ := h
  obtain ⟨W0, hW0, hfa⟩ := FA.new ab pb gB qB qb
  have HW0 := Lib.hid hW0; have HF0 := Lib.hid hfa
  obtain ⟨D, hD⟩ : ∃ D, D = day + days := ⟨_, rfl⟩
  have hD' : day + days = D := hD.symm
  rw [hD'] at hv d1 ⊢
  have hD0 : 0 ≤ D := by omega
  have HF1 := Lib.hid (hfa.setDay D)
  have hnn : 0 ≤ v := by rw [hv]; exact intV_nn _ _ _ _
  obtain ⟨a, ha⟩ : ∃ a, a = p.acc := ⟨_, rfl⟩
  obtain ⟨m, hm⟩ : ∃ m, m = v - a := ⟨_, rfl⟩
  rw [← ha] at a0 a1
  have KS : Hid (∀ X, FA w X B gb gq D bp cr c 0 p → Calls Try.prog 18 #[.pointer (some ⟨gb, 0, none⟩), .pointer (some ⟨gq, 0, none⟩)] X fun e w' => e = .returned (.int .i64 m) ∧ FA w w' B gb gq D bp cr c 0 { p with o1 := v, acc := v }) :=
    Lib.hid (fun X hX => (settle_ok gb gq D bp cr (some ⟨gq, 0, none⟩) 1 c p v X hX.ab hX.p b0 b1 hD0 d1 s0 p0 p1 dn hv hv1 (by rw [← ha]; exact a0) (by rw [← ha]; exact a1) (by rw [o1, ← ha]; exact a0) (by rw [o1, ← ha]; exact a1) (by rw [o1, ← ha]; omega)).mono fun e w' ⟨he, w1, hb, hw⟩ => ⟨by rw [he, hm, ha], by
      rw [hw]
      have e1 : p.o1 + (v - p.acc) = v := by rw [o1]; omega
      rw [e1]
      exact (hX.on hb).settle v v⟩)
  have KA : Hid (∀ w, Calls Try.prog 22 #[.int .i64 0, .int .i64 m] w fun e w' => e = .returned (.int .i64 m) ∧ Below w.heap.size w w') :=
    Lib.hid (fun w => (aadd_ok 0 m (by omega) (by omega) (by omega) (by omega) (by omega) w).mono fun e w' ⟨he, hb⟩ => ⟨by rw [he]; simp, hb⟩)
  rw [← ha, ← hm]
  have n0 := cell_of_row w gd 0 _ _ (0, 0) nb
  simp at n0
  have hld := heap_lt nb
  obtain ⟨c0, c1, c2, c3, c4, cf⟩ := ab.cells
  have cf0 := cf 0
  have hlb := ab.lt
  have n0' : W0.cell? ⟨gd, 0, none⟩ = some (.int .i64 days) := by rw [← hW0]; simp [hld, n0, World.cell?_alloc_lt, Nat.lt_succ_of_lt]
  obtain ⟨e0, e1, e2, e3, e4, ef⟩ := hfa.ab.cells
  have ef0 := ef 0
  clear hD cf ef ab pb nb hW0 hfa hv hm ha dn o1 s0 p0 p1 n0 c0 c1 c2 c3 c4 cf0
  have hlb0 := HF0.out.ab.lt
  go_enter Try.func23, Try.ntmps23
  go_wp2_with fail
  rw [HW0.out]
  go_region
  obtain ⟨X2, hX2⟩ : ∃ X2, (W0.setCell ⟨gb, 0, none⟩ (.int .i64 D)).drew = X2 := ⟨_, rfl⟩
  have HF2 := Lib.hid (HF1.out.on ((Below.refl _ _).drew))
  rw [hX2] at HF2 ⊢
  clear hX2 n0' e0 e1 e2 e3 e4 ef0 hlb0 HF1 HF0 HW0
  obtain ⟨e0, e1, e2, e3, e4, ef⟩ := HF2.out.ab.cells
  clear ef e0 e1 e2 e4
  go_wp2_with fail
  go_loopw [6, 20] (fun _ i wr => (i = .int .i64 0 ∧ wr = X2) ∨ (i = .int .i64 1 ∧ FA w wr B gb gq D bp cr c m { p with o1 := v, acc := v })) (fun _ i _ => 1 - (intOf i).toNat)
  case atStart => exact .inl ⟨rfl, rfl⟩
  case round =>
    rcases hrel with ⟨rfl, rfl⟩ | ⟨rfl, hF⟩
    · have hFd := HF2.out.on ((Below.refl wr.heap.size wr).drew)
      have HFD := Lib.hid hFd
      obtain ⟨m0, m1, m2, m3, m4, m5, mf⟩ := HF2.out.mv.cells
      obtain ⟨a0, a1, a2, a3, a4, af⟩ := HF2.out.ab.cells
      clear hFd mf af m0 m2 m3 m4 m5 a0 a1 a2 a4
      go_wp2_with fail
      go_region_with (first
        | (go_at_call 18; (with_reducible refine (KS.out _ HFD.out).mono ?_); rintro e w3 ⟨rfl, hf3⟩; have HF3 := Lib.hid hf3; have m1 := HF3.out.mv.cells.2.1; have hl3 := HF3.out.mv.lt; clear hf3)
        | (go_at_call 22; (with_reducible refine (KA.out _).mono ?_); rintro e w4 ⟨rfl, hb4⟩; have HF4 := Lib.hid (HF3.out.on hb4); have m1' := HF4.out.mv.cells.2.1; have mf1 := HF4.out.mv.cells.2.2.2.2.2.2 1; clear hb4))
      all_goals
        clear KS KA HFD HF3
        go_wp2_with fail
        go_roundw
        case rel => exact .inr ⟨by first | rfl | go_num, HF4.out.move m⟩
        case measure => simp [intOf]
    · obtain ⟨m0, m1, m2, m3, m4, m5, mf⟩ := hF.mv.cells
      obtain ⟨n0, n1, n2, n3, n4, n5, nf⟩ := hF.m.cells
      have nf0 := nf 0; have nf1 := nf 1; have nf2 := nf 2; have nf3 := nf 3; have nf4 := nf 4; have nf5 := nf 5
      have HF := Lib.hid hF
      clear mf nf hF
      go_wp2_with fail
      refine bodyPost_ret (results_c2 rfl _ _ w.heap.size 38 #[.int .i64 0, .int .i64 m, .int .i64 0, .int .i64 0, .int .i64 0, .int .i64 0] (0, 0) _ rfl ?hg Try.underlying38 rfl move_size) rfl ?_
      case hg => exact heap_set6 HF.out.m
      exact adv_end HF.out
/-- A call that ends in a panic, at a step of a region that draws its order (a way behind it is left, under False, for the walk's sake). -/
theorem step_call_panic {P : Program} {w : World} {ops : Array Oper} {o : Oper} {a : Act} {K : Act → World → Prop} {Q : Exit → Act → World → Prop} {E : Prop} (hgd : o.guard = none) (d : Option Tmp) (_ : o.dst = d) {f : Nat} (x y : Operand) {ats : Array TypeId}
    (ho : o.op = .call { callee := .value (.func f), args := #[x, y], argTypes := ats }) (vx vy : Value) (hx : a.eval x = vx) (hy : a.eval y = vy) (hen : ∀ args w, (callFunc f args).run P w = .ok (.enter f args) w) (R : Ending → World → Prop) (hc : Calls P f #[vx, vy] w R)
    (h : ∀ e w', R e w' → ∃ ch, e = .panicked ch ∧ Q (.panic ch) a w') (v : Value) (_ : Hid False → K (a.put d v) w) : if Region.wanted o (yielded ops a.tmps) = true then Oper.wp P o a w K Q else E := by
  subst hx hy
  have hw : Region.wanted o (yielded ops a.tmps) = true := by simp [Region.wanted, hgd]
  rw [if_pos hw]
  unfold Oper.wp execOp
  have e1 : a.eval (.func f) = .func (.func f) #[] #[] := rfl
  simp [ho, resolve, invoke, Deferred.ofValue, e1, hen]
  rw [Oper.upon_enter]
  refine hc.mono ?_
  intro e w' hr
  obtain ⟨v, rfl, hk⟩ := h e w' hr
  exact hk
set_option maxHeartbeats 2000000 in
set_option maxRecDepth 100000 in
theorem adv_step_over (gb gq gd : Nat) (day bp cr : Int) (c : Nat) (p : Per) (days : Int) (B : Nat) (w : World) (h : AdvIn w B gb gq gd day bp cr c p days) (hv1 : 4611686018427387904 < intV (day + days) bp p.since p.o2) :
    Calls Try.prog 23 #[.pointer (some ⟨gb, 0, none⟩), .pointer (some ⟨gd, 0, none⟩)] w (StepOver B w) := by
  obtain ⟨ab, pb, nb, gB, qB, qb, b0, b1, d0, y0, d1, s0, p0, p1, dn, a0, a1, o1⟩ := h
  obtain ⟨W0, hW0, hfa⟩ := FA.new ab pb gB qB qb
  have HW0 := Lib.hid hW0; have HF0 := Lib.hid hfa
  obtain ⟨D, hD⟩ : ∃ D, D = day + days := ⟨_, rfl⟩
  have hD' : day + days = D := hD.symm
  rw [hD'] at hv1 d1
  have hD0 : 0 ≤ D := by omega
  have HF1 := Lib.hid (hfa.setDay D)
  have KS : Hid (∀ X, FA w X B gb gq D bp cr c 0 p → Calls Try.prog 18 #[.pointer (some ⟨gb, 0, none⟩), .pointer (some ⟨gq, 0, none⟩)] X fun e w' => e = .panicked [{ v := .iface 29 (.int .i64 2), recovered := false }] ∧ Below B w w') :=
    Lib.hid (fun X hX => (settle_over gb gq D bp cr (some ⟨gq, 0, none⟩) 1 c p X hX.ab hX.p b0 b1 hD0 d1 s0 p0 p1 dn hv1).mono fun e w' ⟨he, hb⟩ => ⟨he, (hX.on hb).below⟩)
  have KA : Hid (∀ w, Calls Try.prog 22 #[.int .i64 0, .int .i64 0] w fun e w' => e = .returned (.int .i64 0) ∧ Below w.heap.size w w') :=
    Lib.hid (fun w => (aadd_ok 0 0 (by omega) (by omega) (by omega) (by omega) (by omega) w).mono fun e w' ⟨he, hb⟩ => ⟨by rw [he]; simp, hb⟩)
  have n0 := cell_of_row w gd 0 _ _ (0, 0) nb
  simp at n0
  have hld := heap_lt nb
  have hlb := ab.lt
  have n0' : W0.cell? ⟨gd, 0, none⟩ = some (.int .i64 days) := by rw [← hW0]; simp [hld, n0, World.cell?_alloc_lt, Nat.lt_succ_of_lt]
  obtain ⟨e0, e1, e2, e3, e4, ef⟩ := hfa.ab.cells
  have ef0 := ef 0
  clear hD ef ab pb nb hW0 hfa hv1 dn o1 s0 p0 p1 n0
  have hlb0 := HF0.out.ab.lt
  go_enter Try.func23, Try.ntmps23
  go_wp2_with fail
  rw [HW0.out]
  go_region
  obtain ⟨X2, hX2⟩ : ∃ X2, (W0.setCell ⟨gb, 0, none⟩ (.int .i64 D)).drew = X2 := ⟨_, rfl⟩
  have HF2 := Lib.hid (HF1.out.on ((Below.refl _ _).drew))
  rw [hX2] at HF2 ⊢
  clear hX2 n0' e0 e1 e2 e3 e4 ef0 hlb0 HF1 HF0 HW0
  obtain ⟨e0, e1, e2, e3, e4, ef⟩ := HF2.out.ab.cells
  clear ef e0 e1 e2 e4
  go_wp2_with fail
  go_loopw [6, 20] (fun _ i wr => i = .int .i64 0 ∧ wr = X2) (fun _ i _ => 1 - (intOf i).toNat)
  case atStart => exact ⟨rfl, rfl⟩
  case round =>
    obtain ⟨rfl, rfl⟩ := hrel
    have hFd := HF2.out.on ((Below.refl wr.heap.size wr).drew)
    have HFD := Lib.hid hFd
    obtain ⟨m0, m1, m2, m3, m4, m5, mf⟩ := HF2.out.mv.cells
    obtain ⟨a0, a1, a2, a3, a4, af⟩ := HF2.out.ab.cells
    clear hFd mf af m0 m2 m3 m4 m5 a0 a1 a2 a4
    have mf1 := HFD.out.mv.cells.2.2.2.2.2.2 1
    have hen : ∀ args w, (callFunc 18 args).run Try.prog w = .ok (.enter 18 args) w := enters_of Try.func18 (by kernel_rfl) rfl
    go_wp2_with fail
    go_region_law (first
      | (refine step_call_panic (by rfl) (some 33) (by rfl) (.tmp 26) (.tmp 32) (by rfl) (.pointer (some ⟨gb, 0, none⟩)) (.pointer (some ⟨gq, 0, none⟩)) rfl rfl hen _ (KS.out _ HFD.out) (fun e w3 h => ⟨_, h.1, rfl, And.intro rfl h.2⟩) (.int .i64 0) ?_
         intro HN)
      | (go_simp; go_at_call 22; (with_reducible refine (KA.out _).mono ?_); rintro e w4 ⟨rfl, hb4⟩; have HF4 := Lib.hid (HFD.out.on hb4); have m1' := HF4.out.mv.cells.2.1; have mf1 := HF4.out.mv.cells.2.2.2.2.2.2 1; clear hb4))
    all_goals exact HN.out.elim
end Go.Proofs.Ytkgoaodpjeonnaa
