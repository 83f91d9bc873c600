/- The account in memory; contracts of account.New, Credit, find (no period), interest, settle. -/
import Derived.Test.YtkgoaodpjeonnaaAcr
import Derived.Test.YtkgoaodpjeonnaaSti
import Derived.Below
import Derived.Laws.Rows
import Derived.BigRegion
import Derived.BigQuiet
import Derived.Deep.RegionWith
import Derived.Deep.RegionHeld
import Derived.IntWalk
import Derived.Deep.QuietTactic
namespace Go.Proofs.Ytkgoaodpjeonnaa
open Go.RowKit

/-- A period. -/
structure Per where
  per : Int
  due : Int
  filed : Int
  inc : Int
  wh : Int
  o0 : Int
  o1 : Int
  o2 : Int
  since : Int
  done : Int
  acc : Int
def Per.cells (p : Per) : List Value := [.int .i64 p.per, .int .i64 p.due, .int .i64 p.filed, .int .i64 p.inc, .int .i64 p.wh, .int .i64 p.o0, .int .i64 p.o1, .int .i64 p.o2, .int .i64 p.since, .int .i64 p.done, .int .i64 p.acc]
/-- Block g begins with the period p. -/
def PB (w : World) (g : Nat) (p : Per) : Prop := ∃ (rest : List Value) (T : TypeId), w.heap[g]? = some (.cells (p.cells ++ rest).toArray T)
/-- Block g is an account without payments. -/
def AB (w : World) (g : Nat) (day bp cr : Int) (A : Option Addr) (n c : Nat) : Prop := w.heap[g]? = some (.cells #[.int .i64 day, .int .i64 bp, .int .i64 cr, .slice A n c, .slice none 0 0] 50)
section
variable {w w' : World} {g : Nat} {p : Per} {day bp cr : Int} {A : Option Addr} {n c : Nat}
theorem PB.lt (h : PB w g p) : g < w.heap.size := by obtain ⟨_, _, h⟩ := h; exact heap_lt h
theorem PB.on (h : PB w g p) (hb : Below w.heap.size w w') : PB w' g p := by have hl := h.lt; obtain ⟨r, T, h⟩ := h; exact ⟨r, T, (hb.block _ hl).trans h⟩
theorem PB.keep (h : PB w g p) (hb : w'.heap[g]? = w.heap[g]?) : PB w' g p := by obtain ⟨r, T, h⟩ := h; exact ⟨r, T, hb.trans h⟩
theorem PB.cells (h : PB w g p) : w.cell? ⟨g, 0, none⟩ = some (.int .i64 p.per) ∧ w.cell? ⟨g, 1, none⟩ = some (.int .i64 p.due) ∧ w.cell? ⟨g, 2, none⟩ = some (.int .i64 p.filed) ∧ w.cell? ⟨g, 3, none⟩ = some (.int .i64 p.inc) ∧ w.cell? ⟨g, 4, none⟩ = some (.int .i64 p.wh) ∧
    w.cell? ⟨g, 5, none⟩ = some (.int .i64 p.o0) ∧ w.cell? ⟨g, 6, none⟩ = some (.int .i64 p.o1) ∧ w.cell? ⟨g, 7, none⟩ = some (.int .i64 p.o2) ∧ w.cell? ⟨g, 8, none⟩ = some (.int .i64 p.since) ∧ w.cell? ⟨g, 9, none⟩ = some (.int .i64 p.done) ∧ w.cell? ⟨g, 10, none⟩ = some (.int .i64 p.acc) ∧
    (∀ j, w.frozen? ⟨g, j, none⟩ = false) := by
  obtain ⟨r, T, h⟩ := h
  refine ⟨?_, ?_, ?_, ?_, ?_, ?_, ?_, ?_, ?_, ?_, ?_, fun j => frozen_of_row w g j _ _ h⟩
  all_goals (rw [cell_of_row w g _ _ T (0, 0) h]; simp [Per.cells])
theorem PB.set (h : PB w g p) (x y : Int) : PB ((w.setCell ⟨g, 6, none⟩ (.int .i64 x)).setCell ⟨g, 10, none⟩ (.int .i64 y)) g { p with o1 := x, acc := y } := by
  obtain ⟨r, T, h⟩ := h
  refine ⟨r, T, ?_⟩
  have h1 := heap_setCell_same w g 6 _ T (.int .i64 x) h
  have h2 := heap_setCell_same _ g 10 _ T (.int .i64 y) h1
  rw [h2]
  simp [Per.cells]
theorem PB.other (h : PB w g p) {a : Addr} (hne : g ≠ a.block) (v : Value) : PB (w.setCell a v) g p := h.keep (Below.heap_setCell w a v g hne)
theorem AB.lt (h : AB w g day bp cr A n c) : g < w.heap.size := heap_lt h
theorem AB.on (h : AB w g day bp cr A n c) (hb : Below w.heap.size w w') : AB w' g day bp cr A n c := (hb.block _ h.lt).trans h
theorem AB.keep (h : AB w g day bp cr A n c) (hb : w'.heap[g]? = w.heap[g]?) : AB w' g day bp cr A n c := hb.trans h
theorem AB.other (h : AB w g day bp cr A n c) {a : Addr} (hne : g ≠ a.block) (v : Value) : AB (w.setCell a v) g day bp cr A n c := h.keep (Below.heap_setCell w a v g hne)
theorem AB.cells (h : AB w g day bp cr A n c) : w.cell? ⟨g, 0, none⟩ = some (.int .i64 day) ∧ w.cell? ⟨g, 1, none⟩ = some (.int .i64 bp) ∧ w.cell? ⟨g, 2, none⟩ = some (.int .i64 cr) ∧ w.cell? ⟨g, 3, none⟩ = some (.slice A n c) ∧ w.cell? ⟨g, 4, none⟩ = some (.slice none 0 0) ∧ (∀ j, w.frozen? ⟨g, j, none⟩ = false) := by
  refine ⟨?_, ?_, ?_, ?_, ?_, fun j => frozen_of_row w g j _ _ h⟩
  all_goals (rw [cell_of_row w g _ _ _ (0, 0) h]; rfl)
end
/-- What an account's interest of a period is. -/
def intV (day bp since P : Int) : Int := if day < since then 0 else simV P bp (day - since)
def IntOf (v : Int) (e : Ending) : Prop := (v ≤ 4611686018427387904 ∧ e = .returned (.tuple #[.int .i64 v, .int .i64 0])) ∨ (4611686018427387904 < v ∧ e = .returned (.tuple #[.int .i64 0, .int .i64 2]))
theorem intV_nn (day bp since P : Int) : 0 ≤ intV day bp since P := by unfold intV; split <;> first | omega | exact simV_nn _ _ _
theorem int_keep {w w' : World} {ga gp : Nat} {o2 bp day since : Int} (hq : w.cell? ⟨gp, 7, none⟩ = some (.int .i64 o2) ∧ w.cell? ⟨gp, 8, none⟩ = some (.int .i64 since) ∧ w.cell? ⟨gp, 9, none⟩ = some (.int .i64 0)) (ha : w.cell? ⟨ga, 0, none⟩ = some (.int .i64 day) ∧ w.cell? ⟨ga, 1, none⟩ = some (.int .i64 bp)) (hp : gp < w.heap.size) (hg : ga < w.heap.size) (hb : Below w.heap.size w w') :
    w'.cell? ⟨gp, 7, none⟩ = some (.int .i64 o2) ∧ w'.cell? ⟨ga, 1, none⟩ = some (.int .i64 bp) ∧ w'.cell? ⟨ga, 0, none⟩ = some (.int .i64 day) ∧ w'.cell? ⟨gp, 8, none⟩ = some (.int .i64 since) ∧ w'.cell? ⟨gp, 9, none⟩ = some (.int .i64 0) ∧ Below w.heap.size w w' :=
  ⟨(hb.cell (p := ⟨gp, 7, none⟩) hp).trans hq.1, (hb.cell (p := ⟨ga, 1, none⟩) hg).trans ha.2, (hb.cell (p := ⟨ga, 0, none⟩) hg).trans ha.1, (hb.cell (p := ⟨gp, 8, none⟩) hp).trans hq.2.1, (hb.cell (p := ⟨gp, 9, none⟩) hp).trans hq.2.2, hb⟩
set_option maxHeartbeats 800000 in
set_option maxRecDepth 100000 in
theorem interest_any (ga gp : Nat) (day bp cr : Int) (A : Option Addr) (n c : Nat) (p : Per) (w : World) (ha : AB w ga day bp cr A n c) (hp : PB w gp p) (b0 : 0 ≤ bp) (b1 : bp ≤ 100000) (d0 : 0 ≤ day) (d1 : day ≤ 3652058) (s0 : 0 ≤ p.since) (p0 : 0 ≤ p.o2) (p1 : p.o2 ≤ 4611686018427387904) (hd : p.done = 0) :
    Calls Try.prog 36 #[.pointer (some ⟨ga, 0, none⟩), .pointer (some ⟨gp, 0, none⟩)] w fun e w' => IntOf (intV day bp p.since p.o2) e ∧ Below w.heap.size w w' := by
  obtain ⟨per, due, filed, inc, wh, o0, o1, o2, since, done, acc⟩ := p
  simp only at s0 p0 p1 hd ⊢
  subst hd
  obtain ⟨a0, a1, a2, a3, a4, af⟩ := ha.cells
  obtain ⟨q0, q1, q2, q3, q4, q5, q6, q7, q8, q9, q10, qf⟩ := hp.cells
  simp only at q0 q1 q2 q3 q4 q5 q6 q7 q8 q9 q10
  have HP := Lib.hid hp
  have HG := Lib.hid ha.lt
  clear a2 a3 a4 q0 q1 q2 q3 q4 q5 q6 q10 af qf ha hp
  by_cases hlt : day < since
  · have E : Hid (intV day bp since o2 = 0) := Lib.hid (by unfold intV; rw [if_pos hlt])
    go_enter Try.func36, Try.ntmps36
    go_wp2_with fail
    go_quiet (fail)
    go_wp2_with fail
    go_ret2
    exact ⟨by rw [E.out]; exact .inl ⟨by omega, rfl⟩, below_dr (Below.refl _ _)⟩
  · obtain ⟨d, hdd⟩ : ∃ d, d = day - since := ⟨_, rfl⟩
    have E : Hid (intV day bp since o2 = simV o2 bp d) := Lib.hid (by unfold intV; rw [if_neg hlt, hdd])
    have K := Lib.hid (simple_any o2 bp d p0 p1 b0 b1 (by omega) (by omega))
    obtain ⟨v, hv⟩ : ∃ v, v = simV o2 bp d := ⟨_, rfl⟩
    have hnn := simV_nn o2 bp d
    have HA := Lib.hid (show w.cell? ⟨ga, 0, none⟩ = some (.int .i64 day) ∧ w.cell? ⟨ga, 1, none⟩ = some (.int .i64 bp) from ⟨a0, a1⟩)
    have HQ := Lib.hid (show w.cell? ⟨gp, 7, none⟩ = some (.int .i64 o2) ∧ w.cell? ⟨gp, 8, none⟩ = some (.int .i64 since) ∧ w.cell? ⟨gp, 9, none⟩ = some (.int .i64 0) from ⟨q7, q8, q9⟩)
    rw [← hv] at hnn E
    have hdd2 : day - since = d := hdd.symm
    have hwd : IntKind.i64.wrap d = d := IntWalk.i64_in _ (by omega)
    clear hdd
    by_cases hle : v ≤ 4611686018427387904
    · have KQ : Hid (∀ w, Calls Try.prog 9 #[.int .i64 o2, .int .i64 bp, .int .i64 d] w fun e w' => e = .returned (.tuple #[.int .i64 v, .int .i64 0]) ∧ Below w.heap.size w w') := Lib.hid (fun w => (K.out w).mono fun e w' ⟨h, hb⟩ => ⟨by
        unfold SimOf at h; rw [← hv] at h
        rcases h with ⟨_, h⟩ | ⟨h, _⟩
        · exact h
        · omega, hb⟩)
      have KA := Lib.hid (nadd_ok 0 v (by omega) (by omega) (by omega) hle (by omega))
      clear hv K
      go_enter Try.func36, Try.ntmps36
      go_wp2_with fail
      go_quiet (fail)
      go_wp2_with fail
      go_region_held (fun w' => w'.cell? ⟨gp, 7, none⟩ = some (.int .i64 o2) ∧ w'.cell? ⟨ga, 1, none⟩ = some (.int .i64 bp) ∧ w'.cell? ⟨ga, 0, none⟩ = some (.int .i64 day) ∧ w'.cell? ⟨gp, 8, none⟩ = some (.int .i64 since) ∧ w'.cell? ⟨gp, 9, none⟩ = some (.int .i64 0) ∧ Below w.heap.size w w')
        (first | exact ⟨q7, a1, a0, q8, q9, (below_dr (Below.refl _ _)).drew⟩ | exact int_keep HQ.out HA.out HP.out.lt HG.out B3)
        (first | (go_at_call 9; (with_reducible refine (KQ.out _).mono ?_); rintro e w1 ⟨rfl, hb1⟩; have B3 := Below.trans (b := _) (by go_split_ands; assumption : Below w.heap.size w _) (hb1.mono (by go_split_ands; exact Below.size (by assumption)))))
      go_wp2_with fail
      refine (KA.out _).mono ?_
      rintro e w2 ⟨rfl, hb2⟩
      go_wp2_with fail
      go_ret2
      exact ⟨by rw [E.out]; exact .inl ⟨hle, by first | rfl | simp⟩, B3.trans (hb2.mono B3.size)⟩
    · have KQ : Hid (∀ w, Calls Try.prog 9 #[.int .i64 o2, .int .i64 bp, .int .i64 d] w fun e w' => e = .returned (.tuple #[.int .i64 0, .int .i64 2]) ∧ Below w.heap.size w w') := Lib.hid (fun w => (K.out w).mono fun e w' ⟨h, hb⟩ => ⟨by
        unfold SimOf at h; rw [← hv] at h
        rcases h with ⟨h, _⟩ | ⟨_, h⟩
        · omega
        · exact h, hb⟩)
      clear hv K
      go_enter Try.func36, Try.ntmps36
      go_wp2_with fail
      go_quiet (fail)
      go_wp2_with fail
      go_region_held (fun w' => w'.cell? ⟨gp, 7, none⟩ = some (.int .i64 o2) ∧ w'.cell? ⟨ga, 1, none⟩ = some (.int .i64 bp) ∧ w'.cell? ⟨ga, 0, none⟩ = some (.int .i64 day) ∧ w'.cell? ⟨gp, 8, none⟩ = some (.int .i64 since) ∧ w'.cell? ⟨gp, 9, none⟩ = some (.int .i64 0) ∧ Below w.heap.size w w')
        (first | exact ⟨q7, a1, a0, q8, q9, (below_dr (Below.refl _ _)).drew⟩ | exact int_keep HQ.out HA.out HP.out.lt HG.out B3)
        (first | (go_at_call 9; (with_reducible refine (KQ.out _).mono ?_); rintro e w1 ⟨rfl, hb1⟩; have B3 := Below.trans (b := _) (by go_split_ands; assumption : Below w.heap.size w _) (hb1.mono (by go_split_ands; exact Below.size (by assumption)))))
      go_wp2_with fail
      go_ret2
      exact ⟨by rw [E.out]; exact .inr ⟨by omega, rfl⟩, B3⟩
/-- What settling comes to, where the interest is an amount: two cells are set. -/
def SetlOf (w : World) (gp : Nat) (o1 acc v : Int) (e : Ending) (w' : World) : Prop := e = .returned (.int .i64 (v - acc)) ∧ ∃ w1, Below w.heap.size w w1 ∧ w' = (w1.setCell ⟨gp, 6, none⟩ (.int .i64 (o1 + (v - acc)))).setCell ⟨gp, 10, none⟩ (.int .i64 v)
theorem settle_keep {w w2 : World} {gp : Nat} {per due filed inc wh o0 o1 o2 since done acc : Int} (h : PB w gp ⟨per, due, filed, inc, wh, o0, o1, o2, since, done, acc⟩) (hb : Below w.drew.heap.size w.drew w2) :
    w2.cell? ⟨gp, 6, none⟩ = some (.int .i64 o1) ∧ w2.cell? ⟨gp, 10, none⟩ = some (.int .i64 acc) ∧ w2.frozen? ⟨gp, 6, none⟩ = false ∧ w2.frozen? ⟨gp, 10, none⟩ = false ∧ Below w.heap.size w w2 := by
  have hb' : Below w.heap.size w w2 := ((Below.refl _ _).drew).trans hb
  obtain ⟨r0, r1, r2, r3, r4, r5, r6, r7, r8, r9, r10, rf⟩ := (h.on hb').cells
  exact ⟨r6, r10, rf 6, rf 10, hb'⟩
set_option maxHeartbeats 800000 in
theorem settle_ok (ga gp : Nat) (day bp cr : Int) (A : Option Addr) (n c : Nat) (p : Per) (v : Int) (w : World) (ha : AB w ga day bp cr A n c) (hp : PB w gp p) (b0 : 0 ≤ bp) (b1 : bp ≤ 100000) (d0 : 0 ≤ day) (d1 : day ≤ 3652058) (s0 : 0 ≤ p.since) (p0 : 0 ≤ p.o2) (p1 : p.o2 ≤ 4611686018427387904) (hd : p.done = 0)
    (hv : v = intV day bp p.since p.o2) (hv1 : v ≤ 4611686018427387904) (c0 : 0 ≤ p.acc) (c1 : p.acc ≤ 4611686018427387904) (z0 : 0 ≤ p.o1) (z1 : p.o1 ≤ 4611686018427387904) (z2 : p.o1 + (v - p.acc) ≤ 4611686018427387904) :
    Calls Try.prog 18 #[.pointer (some ⟨ga, 0, none⟩), .pointer (some ⟨gp, 0, none⟩)] w (SetlOf w gp p.o1 p.acc v) := by
  have KI := Lib.hid (interest_any ga gp day bp cr A n c p w ha hp b0 b1 d0 d1 s0 p0 p1 hd)
  have hnn := intV_nn day bp p.since p.o2
  rw [← hv] at KI hnn
  have HP := Lib.hid hp
  clear hv ha hp hd s0
  obtain ⟨per, due, filed, inc, wh, o0, o1, o2, since, done, acc⟩ := p
  simp only at p0 p1 KI HP hnn c0 c1 z0 z1 z2 ⊢
  go_enter Try.func18, Try.ntmps18
  go_wp2_with fail
  refine KI.out.mono ?_
  rintro e w1 ⟨hs, hb1⟩
  have hs' : e = .returned (.tuple #[.int .i64 v, .int .i64 0]) := by
    rcases hs with ⟨_, h⟩ | ⟨h, _⟩
    · exact h
    · omega
  subst hs'
  clear hs
  have HP1 := Lib.hid (HP.out.on hb1)
  obtain ⟨q0, q1, q2, q3, q4, q5, q6, q7, q8, q9, q10, qf⟩ := HP1.out.cells
  simp only at q6 q10
  have f6 := qf 6
  have f10 := qf 10
  clear q0 q1 q2 q3 q4 q5 q7 q8 q9 qf
  obtain ⟨m, hm⟩ : ∃ m, v - acc = m := ⟨_, rfl⟩
  rw [hm] at z2
  have KA := Lib.hid (aadd_ok o1 m z0 z1 (by omega) (by omega) z2)
  have HM := Lib.hid hm
  have hlt1 := HP1.out.lt
  go_wp2_with fail
  go_region_with (go_at_call 22; (with_reducible refine (KA.out _).mono ?_); rintro e w2 ⟨rfl, hb2⟩; obtain ⟨r6, r10, g6, g10, hbb⟩ := settle_keep HP1.out hb2)
  all_goals
    go_wp2_with fail
    go_ret
    exact ⟨by rw [HM.out]; rfl, w2, hb1.trans (hbb.mono hb1.size), by rw [HM.out]⟩
/-- Where it is none: the step ends. -/
def OverOf (w : World) (e : Ending) (w' : World) : Prop := e = .panicked [{ v := .iface 29 (.int .i64 2), recovered := false }] ∧ Below w.heap.size w w'
set_option maxHeartbeats 800000 in
theorem settle_over (ga gp : Nat) (day bp cr : Int) (A : Option Addr) (n c : Nat) (p : Per) (w : World) (ha : AB w ga day bp cr A n c) (hp : PB w gp p) (b0 : 0 ≤ bp) (b1 : bp ≤ 100000) (d0 : 0 ≤ day) (d1 : day ≤ 3652058) (s0 : 0 ≤ p.since) (p0 : 0 ≤ p.o2) (p1 : p.o2 ≤ 4611686018427387904) (hd : p.done = 0)
    (hv1 : 4611686018427387904 < intV day bp p.since p.o2) :
    Calls Try.prog 18 #[.pointer (some ⟨ga, 0, none⟩), .pointer (some ⟨gp, 0, none⟩)] w (OverOf w) := by
  have KI := Lib.hid (interest_any ga gp day bp cr A n c p w ha hp b0 b1 d0 d1 s0 p0 p1 hd)
  have HV := Lib.hid hv1
  clear ha hp hd s0 hv1
  go_enter Try.func18, Try.ntmps18
  go_wp2_with fail
  refine KI.out.mono ?_
  rintro e w1 ⟨hs, hb1⟩
  have hs' : e = .returned (.tuple #[.int .i64 0, .int .i64 2]) := by
    rcases hs with ⟨h, _⟩ | ⟨_, h⟩
    · have := HV.out; omega
    · exact h
  subst hs'
  clear hs
  go_wp2_with fail
  exact ⟨rfl, And.intro rfl hb1⟩
set_option maxHeartbeats 400000 in
theorem idx_none (fv : Value) (w : World) : Calls Try.prog 32 #[.slice none 0 0, fv] w fun e w' => e = .returned (.int .i64 (-1)) ∧ w = w' := by
  go_enter Try.func32, Try.ntmps32
  go_wp2
  go_loop [8] (fun i => i = .int .i64 0) (fun _ => 0)
  case atStart => rfl
  case round =>
    subst hrel
    go_wp2
    go_ret
    exact ⟨rfl, rfl⟩
set_option maxHeartbeats 400000 in
theorem find_none (ga : Nat) (day bp cr k : Int) (w : World) (ha : AB w ga day bp cr none 0 0) :
    Calls Try.prog 15 #[.pointer (some ⟨ga, 0, none⟩), .int .i64 k] w fun e w' => e = .returned (.pointer none) ∧ Below w.heap.size w w' := by
  have hmf : ∀ (fn : Fn) (first cap : Array Value) (w : World), (Instr.makeFunc fn first cap).run Try.prog w = .ok (.func fn first cap) w := fun _ _ _ _ => rfl
  obtain ⟨a0, a1, a2, a3, a4, af⟩ := ha.cells
  have a3' := (World.cell?_alloc_lt w (.cells #[.int .i64 k] 3) ⟨ga, 3, none⟩ ha.lt).trans a3
  clear a0 a1 a2 a4 af ha
  go_enter Try.func15, Try.ntmps15
  go_wp2_with fail
  refine (idx_none _ _).mono ?_
  rintro e w1 ⟨rfl, rfl⟩
  go_wp2_with fail
  go_ret
  exact ⟨rfl, (Below.refl _ _).alloc (Nat.le_refl _) _⟩
theorem credit_any (ga : Nat) (day bp cr : Int) (A : Option Addr) (n c : Nat) (w : World) (ha : AB w ga day bp cr A n c) :
    Calls Try.prog 7 #[.pointer (some ⟨ga, 0, none⟩)] w fun e w' => e = .returned (.int .i64 cr) ∧ w = w' := by
  obtain ⟨a0, a1, a2, a3, a4, af⟩ := ha.cells
  clear a0 a1 a3 a4 af ha
  go_enter Try.func7, Try.ntmps7
  go_wp2
  go_ret
  exact ⟨rfl, rfl⟩
/-- What New hands back. -/
def NewOf (w : World) (day bp : Int) (e : Ending) (w' : World) : Prop := (0 ≤ day ∧ day ≤ 3652058 ∧ 0 ≤ bp ∧ bp ≤ 100000 ∧ e = .returned (.tuple #[.pointer (some ⟨w.heap.size, 0, none⟩), .int .i64 0]) ∧ w' = w.alloc (.cells #[.int .i64 day, .int .i64 bp, .int .i64 0, .slice none 0 0, .slice none 0 0] 50)) ∨
  (e = .returned (.tuple #[.pointer none, .int .i64 1]) ∧ w' = w)
set_option maxHeartbeats 400000 in
theorem new_any (day bp : Int) (w : World) : Calls Try.prog 4 #[.int .i64 day, .int .i64 bp] w (NewOf w day bp) := by
  obtain ⟨x, hx⟩ : ∃ x, x = (decide (0 ≤ day) && decide (day ≤ 3652058)) := ⟨_, rfl⟩
  obtain ⟨y, hy⟩ : ∃ y, y = (decide (0 ≤ bp) && decide (bp ≤ 100000)) := ⟨_, rfl⟩
  have KX := Lib.hid (within_b day 0 3652058 x hx)
  have KY := Lib.hid (within_b bp 0 100000 y hy)
  have HX := Lib.hid hx
  have HY := Lib.hid hy
  clear hx hy
  cases x with
  | false =>
    go_enter Try.func4, Try.ntmps4
    go_wp2_with fail
    refine (KX.out _).mono ?_
    rintro e w1 ⟨rfl, rfl⟩
    go_wp2_with fail
    go_ret2
    exact .inr ⟨rfl, rfl⟩
  | true =>
    cases y with
    | false =>
      go_enter Try.func4, Try.ntmps4
      go_wp2_with fail
      refine (KX.out _).mono ?_
      rintro e w1 ⟨rfl, rfl⟩
      go_wp2_with fail
      refine (KY.out _).mono ?_
      rintro e w1 ⟨rfl, rfl⟩
      go_wp2_with fail
      go_ret2
      exact .inr ⟨rfl, rfl⟩
    | true =>
      have hd := HX.out
      have hb := HY.out
      simp at hd hb
      have HR : Hid (0 ≤ day ∧ day ≤ 3652058 ∧ 0 ≤ bp ∧ bp ≤ 100000) := Lib.hid ⟨hd.1, hd.2, hb.1, hb.2⟩
      clear hd hb
      go_enter Try.func4, Try.ntmps4
      go_wp2_with fail
      refine (KX.out _).mono ?_
      rintro e w1 ⟨rfl, rfl⟩
      go_wp2_with fail
      refine (KY.out _).mono ?_
      rintro e w1 ⟨rfl, rfl⟩
      go_wp2_with fail
      go_ret2
      exact .inl ⟨HR.out.1, HR.out.2.1, HR.out.2.2.1, HR.out.2.2.2, rfl, rfl⟩
end Go.Proofs.Ytkgoaodpjeonnaa
