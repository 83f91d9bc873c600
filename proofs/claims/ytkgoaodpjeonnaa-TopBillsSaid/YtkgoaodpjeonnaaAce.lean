/- Contracts: copied with one period; the deferred closure of does. -/
import Derived.Test.YtkgoaodpjeonnaaAcd
import Derived.Defers
import Derived.Recover
import Derived.RegionTactic
namespace Go.Proofs.Ytkgoaodpjeonnaa
open Go.RowKit

def OneOf (w : World) (p : Per) (W : World) (A : Option Addr) (gb : Nat) : Prop := ∃ gq, A = some ⟨gq, 0, none⟩ ∧ gq ≠ gb ∧ w.heap.size ≤ gq ∧ PB W gq p
set_option maxHeartbeats 800000 in
theorem copied_one (ga gp : Nat) (day bp cr : Int) (c : Nat) (p : Per) (w : World) (ha : AB w ga day bp cr (some ⟨gp, 0, none⟩) 1 c) (hp : PB w gp p) :
    Calls Try.prog 34 #[.pointer (some ⟨ga, 0, none⟩)] w (CopOf w day bp cr (OneOf w p) 1) := by
  have hlt := ha.lt
  have hal : Below w.heap.size w (w.alloc (.cells #[.int .i64 day, .int .i64 bp, .int .i64 cr, .slice (some ⟨gp, 0, none⟩) 1 c, .slice none 0 0] 50)) := (Below.refl _ _).alloc (Nat.le_refl _) _
  have HG : Hid (AB (w.alloc (.cells #[.int .i64 day, .int .i64 bp, .int .i64 cr, .slice (some ⟨gp, 0, none⟩) 1 c, .slice none 0 0] 50)) w.heap.size day bp cr (some ⟨gp, 0, none⟩) 1 c) := Lib.hid (heap_alloc_new w _)
  have HA1 := Lib.hid (ha.on hal)
  have HP1 := Lib.hid (hp.on hal)
  have HAL := Lib.hid hal
  obtain ⟨a0, a1, a2, a3, a4, af⟩ := ha.cells
  clear ha af hp hal
  have a3' := HA1.out.cells.2.2.2.1
  go_enter Try.func34, Try.ntmps34
  go_wp2_with fail
  refine (clone_one gp c p _ HP1.out).mono ?_
  rintro e w1 ⟨gq, c1, rfl, hgq, hpq, hb1⟩
  have HA2 := Lib.hid (HA1.out.on hb1)
  have HG2 := Lib.hid (HG.out.on hb1)
  have HB2 := Lib.hid (HAL.out.trans (hb1.mono (by simp)))
  have HPQ := Lib.hid hpq
  have hgq' : w.heap.size + 1 ≤ gq := by simpa using hgq
  clear hgq hpq hb1 a0 a1 a2 a3 a4 a3'
  have hltG := HG2.out.lt
  obtain ⟨c0, c1', c2', c3, c4, cf⟩ := HG2.out.cells
  have cf3 := cf 3
  have cf4 := cf 4
  clear c0 c1' c2' cf
  go_wp2_with fail
  refine (payments_nil ga day bp cr (some ⟨gp, 0, none⟩) 1 c _ HA2.out).mono ?_
  rintro e w' ⟨rfl, rfl⟩
  go_wp2_with fail
  go_ret
  exact ⟨w.heap.size, some ⟨gq, 0, none⟩, c1, rfl, Nat.le_refl _, heap_set5 HG2.out, ⟨gq, rfl, by omega, by omega, (HPQ.out.other (by show gq ≠ w.heap.size; omega) _).other (by show gq ≠ w.heap.size; omega) _⟩, (HB2.out.setCell (Nat.le_refl _) _).setCell (Nat.le_refl _) _⟩
/-- All blocks but these are as they were. -/
structure But (bs : List Nat) (w w' : World) : Prop where
  os : w'.os = w.os
  tape : w'.tape = w.tape
  output : w'.output = w.output
  size : w.heap.size ≤ w'.heap.size
  block : ∀ k, k < w.heap.size → k ∉ bs → w'.heap[k]? = w.heap[k]?
theorem But.refl (bs : List Nat) (w : World) : But bs w w := ⟨rfl, rfl, rfl, Nat.le_refl _, fun _ _ _ => rfl⟩
theorem But.trans {bs : List Nat} {a b c : World} (h : But bs a b) (k : But bs b c) : But bs a c :=
  ⟨k.os.trans h.os, k.tape.trans h.tape, k.output.trans h.output, Nat.le_trans h.size k.size, fun i hi hn => (k.block i (Nat.lt_of_lt_of_le hi h.size) hn).trans (h.block i hi hn)⟩
theorem But.drew {bs : List Nat} {a b : World} (h : But bs a b) : But bs a b.drew := ⟨h.os, h.tape, h.output, h.size, h.block⟩
theorem But.of_below {bs : List Nat} {a b : World} (h : Below a.heap.size a b) : But bs a b := ⟨h.os, h.tape, h.output, h.size, fun k hk _ => h.block k hk⟩
theorem But.setCell {bs : List Nat} {a w : World} (h : But bs a w) {p : Addr} (hp : p.block ∈ bs) (u : Value) : But bs a (w.setCell p u) :=
  h.trans ⟨rfl, rfl, rfl, by simp [World.setCell], fun k _ hn => Below.heap_setCell _ _ _ _ (fun e => hn (by rw [e]; exact hp))⟩
theorem But.below {bs : List Nat} {a b : World} (h : But bs a b) {B : Nat} (hB : B ≤ a.heap.size) (hbs : ∀ k ∈ bs, B ≤ k) : Below B a b :=
  ⟨h.os, h.tape, h.output, h.size, fun k hk => h.block k (by omega) (fun hm => by have := hbs k hm; omega)⟩
theorem But.more {bs cs : List Nat} {a b : World} (h : But bs a b) (hs : ∀ k ∈ bs, k ∈ cs) : But cs a b := ⟨h.os, h.tape, h.output, h.size, fun k hk hn => h.block k hk (fun hm => hn (hs k hm))⟩
/-- A move in memory. -/
def MB (w : World) (g : Nat) (c0 c1 c2 paid cr cash : Int) : Prop := w.heap[g]? = some (.cells #[.int .i64 c0, .int .i64 c1, .int .i64 c2, .int .i64 paid, .int .i64 cr, .int .i64 cash] 38)
def EB (w : World) (g : Nat) (x : Int) : Prop := w.heap[g]? = some (.cells #[.int .i64 x] 29)
theorem MB.cells {w : World} {g : Nat} {c0 c1 c2 paid cr cash : Int} (h : MB w g c0 c1 c2 paid cr cash) : w.cell? ⟨g, 0, none⟩ = some (.int .i64 c0) ∧ w.cell? ⟨g, 1, none⟩ = some (.int .i64 c1) ∧ w.cell? ⟨g, 2, none⟩ = some (.int .i64 c2) ∧ w.cell? ⟨g, 3, none⟩ = some (.int .i64 paid) ∧ w.cell? ⟨g, 4, none⟩ = some (.int .i64 cr) ∧ w.cell? ⟨g, 5, none⟩ = some (.int .i64 cash) ∧ (∀ j, w.frozen? ⟨g, j, none⟩ = false) := by
  refine ⟨?_, ?_, ?_, ?_, ?_, ?_, fun j => frozen_of_row w g j _ _ h⟩
  all_goals (rw [cell_of_row w g _ _ _ (0, 0) h]; rfl)
theorem EB.cell {w : World} {g : Nat} {x : Int} (h : EB w g x) : w.cell? ⟨g, 0, none⟩ = some (.int .i64 x) := by rw [cell_of_row w g _ _ _ (0, 0) h]; rfl
theorem EB.frz {w : World} {g : Nat} {x : Int} (h : EB w g x) : w.frozen? ⟨g, 0, none⟩ = false := frozen_of_row w g 0 _ _ h
def CaughtOf (gm ge : Nat) (w w' : World) : Prop := MB w' gm 0 0 0 0 0 0 ∧ EB w' ge 2 ∧ But [gm, ge] w w'
theorem heap_set6 {w : World} {g : Nat} {x0 x1 x2 x3 x4 x5 a b c d e f : Value} {T : TypeId} (h : w.heap[g]? = some (.cells #[x0, x1, x2, x3, x4, x5] T)) : ((((((w.setCell ⟨g, 0, none⟩ a).setCell ⟨g, 1, none⟩ b).setCell ⟨g, 2, none⟩ c).setCell ⟨g, 3, none⟩ d).setCell ⟨g, 4, none⟩ e).setCell ⟨g, 5, none⟩ f).heap[g]? = some (.cells #[a, b, c, d, e, f] T) := by
  have h1 := heap_setCell_same w g 0 _ T a h
  have h2 := heap_setCell_same _ g 1 _ T b h1
  have h3 := heap_setCell_same _ g 2 _ T c h2
  have h4 := heap_setCell_same _ g 3 _ T d h3
  have h5 := heap_setCell_same _ g 4 _ T e h4
  have h6 := heap_setCell_same _ g 5 _ T f h5
  simpa using h6
theorem EB.set {w : World} {g : Nat} {x : Int} (h : EB w g x) (y : Int) : EB (w.setCell ⟨g, 0, none⟩ (.int .i64 y)) g y := by
  have h1 := heap_setCell_same w g 0 _ _ (.int .i64 y) h
  simpa [EB] using h1
theorem EB.keep {w w' : World} {g : Nat} {x : Int} (h : EB w g x) (hk : w'.heap[g]? = w.heap[g]?) : EB w' g x := hk.trans h
theorem MB.keep {w w' : World} {g : Nat} {c0 c1 c2 paid cr cash : Int} (h : MB w g c0 c1 c2 paid cr cash) (hk : w'.heap[g]? = w.heap[g]?) : MB w' g c0 c1 c2 paid cr cash := hk.trans h
theorem EB.lt {w : World} {g : Nat} {x : Int} (h : EB w g x) : g < w.heap.size := heap_lt h
theorem MB.lt {w : World} {g : Nat} {c0 c1 c2 paid cr cash : Int} (h : MB w g c0 c1 c2 paid cr cash) : g < w.heap.size := heap_lt h
/-- A move and an error stored. -/
theorem stored_me {w : World} {gm ge : Nat} {c0 c1 c2 paid cr cash x : Int} (hm : MB w gm c0 c1 c2 paid cr cash) (he : EB w ge x) (hne : gm ≠ ge) (a b c d e f y : Int) :
    MB (((((((w.setCell ⟨gm, 0, none⟩ (.int .i64 a)).setCell ⟨gm, 1, none⟩ (.int .i64 b)).setCell ⟨gm, 2, none⟩ (.int .i64 c)).setCell ⟨gm, 3, none⟩ (.int .i64 d)).setCell ⟨gm, 4, none⟩ (.int .i64 e)).setCell ⟨gm, 5, none⟩ (.int .i64 f)).setCell ⟨ge, 0, none⟩ (.int .i64 y)) gm a b c d e f ∧
    EB (((((((w.setCell ⟨gm, 0, none⟩ (.int .i64 a)).setCell ⟨gm, 1, none⟩ (.int .i64 b)).setCell ⟨gm, 2, none⟩ (.int .i64 c)).setCell ⟨gm, 3, none⟩ (.int .i64 d)).setCell ⟨gm, 4, none⟩ (.int .i64 e)).setCell ⟨gm, 5, none⟩ (.int .i64 f)).setCell ⟨ge, 0, none⟩ (.int .i64 y)) ge y ∧
    But [gm, ge] w (((((((w.setCell ⟨gm, 0, none⟩ (.int .i64 a)).setCell ⟨gm, 1, none⟩ (.int .i64 b)).setCell ⟨gm, 2, none⟩ (.int .i64 c)).setCell ⟨gm, 3, none⟩ (.int .i64 d)).setCell ⟨gm, 4, none⟩ (.int .i64 e)).setCell ⟨gm, 5, none⟩ (.int .i64 f)).setCell ⟨ge, 0, none⟩ (.int .i64 y)) := by
  have hne' : ge ≠ gm := Ne.symm hne
  refine ⟨?_, ?_, ?_⟩
  · exact (Below.heap_setCell _ _ _ _ hne).trans (heap_set6 hm)
  · refine EB.set (x := x) ?_ y
    refine he.keep ?_
    rw [Below.heap_setCell _ _ _ _ hne', Below.heap_setCell _ _ _ _ hne', Below.heap_setCell _ _ _ _ hne', Below.heap_setCell _ _ _ _ hne', Below.heap_setCell _ _ _ _ hne', Below.heap_setCell _ _ _ _ hne']
  · have hm1 : gm ∈ [gm, ge] := by simp
    have he1 : ge ∈ [gm, ge] := by simp
    exact (((((((But.refl [gm, ge] w).setCell hm1 _).setCell hm1 _).setCell hm1 _).setCell hm1 _).setCell hm1 _).setCell hm1 _).setCell he1 _
theorem caught_drew {gm ge : Nat} {w X : World} (h : MB X gm 0 0 0 0 0 0 ∧ EB X ge 2 ∧ But [gm, ge] w X) : CaughtOf gm ge w X.drew := ⟨h.1, h.2.1, h.2.2.drew⟩
theorem as_errno (v : Value) (w : World) : (Instr.typeAssert (.iface 29 v) 20 29 false).run Try.prog w = .ok v w := by kernel_rfl
set_option maxHeartbeats 800000 in
theorem catch_panicking (gm ge : Nat) (c0 c1 c2 paid cr cash x : Int) (older : List PanicEntry) (w : World) (hm : MB w gm c0 c1 c2 paid cr cash) (he : EB w ge x) (hne : gm ≠ ge) :
    CallsD Try.prog 35 #[.pointer (some ⟨gm, 0, none⟩), .pointer (some ⟨ge, 0, none⟩)] (.panicking ({ v := .iface 29 (.int .i64 2), recovered := false } :: older)) w fun e u' w' =>
      e = .returned (.tuple #[]) ∧ u' = .panicking ({ v := .iface 29 (.int .i64 2), recovered := true } :: older) ∧ CaughtOf gm ge w w' := by
  refine callsD_of_wpS Try.func35 rfl fun c₀ cs hu => ?_
  apply wpS_seq
  apply wpS_region
  simp [wpOpsS, go_sem, recoverD, hu, Try.ntmps35, Exit.thenS]
  refine wpS_of_wp ?_
  simp only [Array.replicate, List.replicate]
  obtain ⟨m0, m1, m2, m3, m4, m5, mf⟩ := MB.cells hm
  have e0 := EB.cell he
  have ef := EB.frz he
  have mf0 := mf 0; have mf1 := mf 1; have mf2 := mf 2; have mf3 := mf 3; have mf4 := mf 4; have mf5 := mf 5
  have has := as_errno (.int .i64 2)
  go_wp2_with fail
  have HC := Lib.hid (stored_me hm he hne 0 0 0 0 0 0 2)
  go_region
  change bodyPostS _ _ _ _ _ _ _ _ _
  cases c₀
  simp [bodyPostS, results, Try.results35]
  exact caught_drew HC.out
theorem catch_idle (gm ge : Nat) (w : World) :
    CallsD Try.prog 35 #[.pointer (some ⟨gm, 0, none⟩), .pointer (some ⟨ge, 0, none⟩)] .returning w fun e u' w' => e = .returned (.tuple #[]) ∧ u' = .returning ∧ w' = w := by
  refine callsD_of_wpS Try.func35 rfl fun c₀ cs hu => ?_
  apply wpS_seq
  apply wpS_region
  simp [wpOpsS, go_sem, recoverD, hu, Try.ntmps35, Exit.thenS]
  refine wpS_of_wp ?_
  simp only [Array.replicate, List.replicate]
  go_wp2_with fail
  cases c₀
  simp_all [bodyPostS, results, Try.results35]
end Go.Proofs.Ytkgoaodpjeonnaa
