/- Parts of the proof, one behind the other: Contracts of statement.Closing, few, awake. -/
import Derived.Test.YtlmejpkngnilcaaGreatDoorMrg35
import Derived.Test.YtlmejpkngnilcaaGreatDoorMrg11
namespace Go.Proofs.YtlmejpkngnilcaaGreatDoor
open Go.RowKit

def CloseP (O C : List Int) (w : World) (e : Ending) (w' : World) : Prop := Below w.heap.size w w' ∧ (e = .returned (.tuple #[.int .i64 0, .int .i64 0, .int .i64 1]) ∨
  ∃ a b : Int, e = .returned (.tuple #[.int .i64 a, .int .i64 b, .int .i64 0]) ∧ sumV O = .tuple #[.int .i64 a, .int .i64 0] ∧ sumV C = .tuple #[.int .i64 b, .int .i64 0])
def fewB (n m : Nat) : Bool := decide (n ≤ 600) && decide (m ≤ 250)
theorem few_any (id fr to_ owed credit : Int) (A A2 : Option Addr) (c c2 n m : Nat) (w : World) :
    Calls Tryz.prog 6 #[.agg #[.int .i64 id, .int .i64 fr, .int .i64 to_, .int .i64 owed, .int .i64 credit, .slice A n c, .slice A2 m c2]] w fun e w' => e = .returned (.bool (fewB n m)) ∧ Below w.heap.size w w' := by
  by_cases h1 : n ≤ 600
  · have d1 : decide ((n : Int) ≤ 600) = true := by rw [decide_eq_true_eq]; omega
    by_cases h2 : m ≤ 250
    · have d2 : decide ((m : Int) ≤ 250) = true := by rw [decide_eq_true_eq]; omega
      have E : Hid (fewB n m = true) := Lib.hid (by simp [fewB, h1, h2])
      clear h1 h2
      go_enter Tryz.func6, Tryz.ntmps6
      go_wp2
      go_ret
      exact ⟨ret_bo E.out.symm, (Below.refl _ _).alloc (Nat.le_refl _) _⟩
    · have d2 : decide ((m : Int) ≤ 250) = false := by rw [decide_eq_false_iff_not]; omega
      have E : Hid (fewB n m = false) := Lib.hid (by simp [fewB, h2])
      clear h1 h2
      go_enter Tryz.func6, Tryz.ntmps6
      go_wp2
      go_ret
      exact ⟨ret_bo E.out.symm, (Below.refl _ _).alloc (Nat.le_refl _) _⟩
  · have d1 : decide ((n : Int) ≤ 600) = false := by rw [decide_eq_false_iff_not]; omega
    have E : Hid (fewB n m = false) := Lib.hid (by simp [fewB, h1])
    clear h1
    go_enter Tryz.func6, Tryz.ntmps6
    go_wp2
    go_ret
    exact ⟨ret_bo E.out.symm, (Below.refl _ _).alloc (Nat.le_refl _) _⟩
theorem money_awake : moneyL (-1234567) = [45, 49, 50, 44, 51, 52, 53, 46, 54, 55] := by
  have e : Lib.decDigits 12345 = [49, 50, 51, 52, 53] := by
    simp [Lib.decDigits]
  show [45] ++ (grp (Lib.decDigits (1234567 / 100)) ++ [46, UInt8.ofNat (48 + 1234567 % 100 / 10), UInt8.ofNat (48 + 1234567 % 10)]) = _
  rw [show 1234567 / 100 = 12345 from rfl, e]
  rfl
theorem awake_any (w : World) (ht : Tab w) : Calls Tryz.prog 5 #[] w fun e w' => e = .returned (.bool true) ∧ Below w.heap.size w w' := by
  have K := Lib.hid (money_any (-1234567) (by decide) (by decide) w ht)
  rw [money_awake] at K
  go_enter Tryz.func5, Tryz.ntmps5
  go_wp2_with fail
  refine K.out.mono ?_
  rintro e w1 ⟨rfl, hb1⟩
  have HB1 := Lib.hid hb1; clear hb1
  go_wp2_with fail
  go_ret
  exact ⟨rfl, HB1.out⟩
end Go.Proofs.YtlmejpkngnilcaaGreatDoor
