/- The reference's whole numbers (a sign, four digits of base 2^32) as integers; contracts of Of, plus, less, minus, Add, Told. -/
import Derived.Test.YtcegcgbcffdjjaaDoorProg
import Derived.Test.YtcegcgbcffdjjaaDoorByt
import Derived.Below
import Derived.BigRegion
import Derived.BigQuiet
import Derived.Deep.QuietTactic
import Derived.Outline
import Derived.Laws.Rows
namespace Go.Proofs.YtcegcgbcffdjjaaDoor
open Go.RowKit

/-- Four digits as a number. -/
def mag (a b c d : Nat) : Nat := a + 4294967296 * b + 18446744073709551616 * c + 79228162514264337593543950336 * d
structure Wd where
  neg : Bool
  a : Nat
  b : Nat
  c : Nat
  d : Nat
def Wd.v (x : Wd) : Value := .agg #[.bool x.neg, .int .u64 (x.a : Int), .int .u64 (x.b : Int), .int .u64 (x.c : Int), .int .u64 (x.d : Int)]
def Wd.ok (x : Wd) : Prop := x.a < 4294967296 ∧ x.b < 4294967296 ∧ x.c < 4294967296 ∧ x.d < 4294967296
def Wd.mag (x : Wd) : Nat := Go.Proofs.YtcegcgbcffdjjaaDoor.mag x.a x.b x.c x.d
def Wd.int (x : Wd) : Int := if x.neg then -(x.mag : Int) else (x.mag : Int)
theorem wide_size : (Tryd.prog.info? 34).map (fun x => x.size) = some 5 := by kernel_rfl
theorem heap_set5 {w : World} {g : Nat} {x y z u v a b c d e : Value} {T : TypeId} (h : w.heap[g]? = some (.cells #[x, y, z, u, v] T)) : (((((w.setCell ⟨g, 0, none⟩ a).setCell ⟨g, 1, none⟩ b).setCell ⟨g, 2, none⟩ c).setCell ⟨g, 3, none⟩ d).setCell ⟨g, 4, none⟩ e).heap[g]? = some (.cells #[a, b, c, d, e] T) := by
  have h1 := heap_setCell_same w g 0 _ T a h
  have h2 := heap_setCell_same _ g 1 _ T b h1
  have h3 := heap_setCell_same _ g 2 _ T c h2
  have h4 := heap_setCell_same _ g 3 _ T d h3
  have h5 := heap_setCell_same _ g 4 _ T e h4
  simpa using h5
set_option maxHeartbeats 400000 in
theorem of_pos (x p q : Nat) (hx : x < 9223372036854775808) (hp : p = x % 4294967296) (hq : q = x / 4294967296) (w : World) :
    Calls Tryd.prog 7 #[.int .i64 (x : Int)] w fun e w' => e = .returned (Wd.v ⟨false, p, q, 0, 0⟩) ∧ Below w.heap.size w w' := by
  have t1 : ¬ ((x : Int) < 0) := by omega
  have e1 : IntKind.u64.wrap (x : Int) = (x : Int) := IntWalk.u64_in _ (by omega)
  have e2 : ((x : Int).tmod 4294967296) = (p : Int) := by rw [Int.tmod_eq_emod_of_nonneg (by omega)]; omega
  have e3 : ((x : Int).tdiv 4294967296) = (q : Int) := by rw [Int.tdiv_eq_ediv_of_nonneg (by omega)]; omega
  have e4 : IntKind.u64.wrap (q : Int) = (q : Int) := IntWalk.u64_in _ (by omega)
  clear hp hq
  go_enter Tryd.func7, Tryd.ntmps7
  go_wp2_with fail
  refine bodyPost_ret (results_cell_row rfl _ _ w.heap.size 34 #[.bool false, .int .u64 (p : Int), .int .u64 (q : Int), .int .u64 0, .int .u64 0] (0, 0) _ rfl ?hg Tryd.underlying34 rfl wide_size) rfl ?_
  case hg => rw [Below.heap_alloc _ _ _ (by simp)]; exact heap_alloc_new w _
  exact ⟨rfl, ((Below.refl _ _).alloc (Nat.le_refl _) _).alloc (by simp) _⟩
set_option maxHeartbeats 400000 in
theorem of_neg (x p q : Nat) (hx : x ≤ 9223372036854775808) (h0 : 0 < x) (hp : p = x % 4294967296) (hq : q = x / 4294967296) (w : World) :
    Calls Tryd.prog 7 #[.int .i64 (-(x : Int))] w fun e w' => e = .returned (Wd.v ⟨true, p, q, 0, 0⟩) ∧ Below w.heap.size w w' := by
  obtain ⟨y, hy⟩ : ∃ y : Int, y = -(x : Int) := ⟨_, rfl⟩
  obtain ⟨z, hz⟩ : ∃ z : Int, IntKind.u64.wrap y = z := ⟨_, rfl⟩
  rw [← hy]
  have t1 : y < 0 := by omega
  have e0 : IntKind.i64.wrap (y + 1) = y + 1 := IntWalk.i64_in _ (by omega)
  have e1 : IntKind.i64.wrap (-(y + 1)) = -(y + 1) := IntWalk.i64_in _ (by omega)
  have e1a : IntKind.u64.wrap (-(y + 1)) = -(y + 1) := IntWalk.u64_in _ (by omega)
  have e1b : IntKind.u64.wrap (-(y + 1) + 1) = (x : Int) := by rw [IntWalk.u64_in _ (by omega)]; omega
  have e2 : ((x : Int).tmod 4294967296) = (p : Int) := by rw [Int.tmod_eq_emod_of_nonneg (by omega)]; omega
  have e3 : ((x : Int).tdiv 4294967296) = (q : Int) := by rw [Int.tdiv_eq_ediv_of_nonneg (by omega)]; omega
  have e4 : IntKind.u64.wrap (q : Int) = (q : Int) := IntWalk.u64_in _ (by omega)
  clear hp hq hy
  go_enter Tryd.func7, Tryd.ntmps7
  go_wp2_with fail
  refine bodyPost_ret (results_cell_row rfl _ _ w.heap.size 34 #[.bool true, .int .u64 (p : Int), .int .u64 (q : Int), .int .u64 0, .int .u64 0] (0, 0) _ rfl ?hg Tryd.underlying34 rfl wide_size) rfl ?_
  case hg => rw [Below.heap_alloc _ _ _ (by simp)]; exact heap_alloc_new w _
  exact ⟨rfl, ((Below.refl _ _).alloc (Nat.le_refl _) _).alloc (by simp) _⟩
theorem of_any (a : Int) (h0 : -9223372036854775808 ≤ a) (h1 : a ≤ 9223372036854775807) (w : World) :
    Calls Tryd.prog 7 #[.int .i64 a] w fun e w' => (∃ x : Wd, x.ok ∧ x.int = a ∧ e = .returned x.v) ∧ Below w.heap.size w w' := by
  by_cases ha : a < 0
  · obtain ⟨x, rfl⟩ : ∃ x : Nat, a = -(x : Int) := ⟨a.natAbs, by omega⟩
    refine (of_neg x _ _ (by omega) (by omega) rfl rfl w).mono ?_
    rintro e w' ⟨rfl, hb⟩
    exact ⟨⟨_, ⟨by show x % 4294967296 < 4294967296; omega, by show x / 4294967296 < 4294967296; omega, by show 0 < 4294967296; omega, by show 0 < 4294967296; omega⟩, by simp only [Wd.int, Wd.mag, mag, if_true]; omega, rfl⟩, hb⟩
  · obtain ⟨x, rfl⟩ : ∃ x : Nat, a = (x : Int) := ⟨a.natAbs, by omega⟩
    refine (of_pos x _ _ (by omega) rfl rfl w).mono ?_
    rintro e w' ⟨rfl, hb⟩
    exact ⟨⟨_, ⟨by show x % 4294967296 < 4294967296; omega, by show x / 4294967296 < 4294967296; omega, by show 0 < 4294967296; omega, by show 0 < 4294967296; omega⟩, by simp [Wd.int, Wd.mag, mag]; omega, rfl⟩, hb⟩
end Go.Proofs.YtcegcgbcffdjjaaDoor
