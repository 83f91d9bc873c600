/- Contracts of the program's and the reference's small calendar functions: long, Last, Weekday, year. -/
import Derived.Test.YtkgoaodpjeonnaaProg
import Derived.Test.YtkgoaodpjeonnaaCal
import Derived.WalkKit
import Derived.WalkSpells
import Derived.WalkLawsBesides
import Derived.Deep.QuietTactic
import Derived.BigQuiet
import Derived.Lib.Hide
namespace Go.Proofs.Ytkgoaodpjeonnaa
open Go.RowKit

theorem ret_bool {a b : Bool} (h : a = b) : Ending.returned (.bool a) = .returned (.bool b) := by rw [h]
theorem ret_int {k : IntKind} {a b : Int} (h : a = b) : Ending.returned (.int k a) = .returned (.int k b) := by rw [h]
theorem ret_two {k l : IntKind} {a b c : Int} (h : a = b) : Ending.returned (.tuple #[.int k a, .int l c]) = .returned (.tuple #[.int k b, .int l c]) := by rw [h]
theorem leap_4 {y : Int} (h : ¬ y % 4 = 0) : Cal.leap y = false := by simp [Cal.leap, h]
theorem leap_100 {y : Int} (h : y % 4 = 0) (h2 : ¬ y % 100 = 0) : Cal.leap y = true := by simp [Cal.leap, h, h2]
theorem leap_400 {y : Int} (h : y % 4 = 0) (h2 : y % 100 = 0) : Cal.leap y = (y % 400 == 0) := by simp [Cal.leap, h, h2]

theorem long_any (y : Int) (h1 : 1 ≤ y) (h2 : y ≤ 9999) (w : World) :
    Calls Try.prog 57 #[.int .i64 y] w fun e w' => e = .returned (.bool (Cal.leap y)) ∧ w = w' := by
  by_cases a4 : y % 4 = 0
  · by_cases a100 : y % 100 = 0
    · go_enter Try.func57, Try.ntmps57
      go_wp2
      go_ret
      exact ⟨ret_bool (leap_400 a4 a100).symm, rfl⟩
    · go_enter Try.func57, Try.ntmps57
      go_wp2
      go_ret
      exact ⟨ret_bool (leap_100 a4 a100).symm, rfl⟩
  · go_enter Try.func57, Try.ntmps57
    go_wp2
    go_ret
    exact ⟨ret_bool (leap_4 a4).symm, rfl⟩

/-- The twelve lengths, as the program's table has them. -/
theorem table (k : Nat) (h : k < 12) (w : World) : (Instr.index 114 (.agg #[.int .i64 31, .int .i64 28, .int .i64 31, .int .i64 30, .int .i64 31, .int .i64 30, .int .i64 31, .int .i64 31, .int .i64 30, .int .i64 31, .int .i64 30, .int .i64 31]) (.int .i64 k)).run Try.prog w =
    .ok (.int .i64 (if k = 1 then 28 else if k = 3 ∨ k = 5 ∨ k = 8 ∨ k = 10 then 30 else 31)) w := by
  have hk : k = 0 ∨ k = 1 ∨ k = 2 ∨ k = 3 ∨ k = 4 ∨ k = 5 ∨ k = 6 ∨ k = 7 ∨ k = 8 ∨ k = 9 ∨ k = 10 ∨ k = 11 := by omega
  rcases hk with rfl | rfl | rfl | rfl | rfl | rfl | rfl | rfl | rfl | rfl | rfl | rfl <;> (show _ = _; kernel_rfl)

theorem last_no (y m : Int) (h : ¬ (1 ≤ y ∧ y ≤ 9999 ∧ 1 ≤ m ∧ m ≤ 12)) (w : World) :
    Calls Try.prog 51 #[.int .i64 y, .int .i64 m] w fun e w' => e = .returned (.tuple #[.int .i64 0, .int .i64 1]) ∧ w = w' := by
  by_cases c1 : y < 1
  · go_enter Try.func51, Try.ntmps51
    go_wp2
    go_ret2
    exact ⟨rfl, rfl⟩
  · by_cases c2 : 9999 < y
    · go_enter Try.func51, Try.ntmps51
      go_wp2
      go_ret2
      exact ⟨rfl, rfl⟩
    · by_cases c3 : m < 1
      · go_enter Try.func51, Try.ntmps51
        go_wp2
        go_ret2
        exact ⟨rfl, rfl⟩
      · have c4 : 12 < m := by omega
        go_enter Try.func51, Try.ntmps51
        go_wp2
        go_ret2
        exact ⟨rfl, rfl⟩

theorem last_yes (y m : Int) (h1 : 1 ≤ y) (h2 : y ≤ 9999) (h3 : 1 ≤ m) (h4 : m ≤ 12) (w : World) :
    Calls Try.prog 51 #[.int .i64 y, .int .i64 m] w fun e w' => e = .returned (.tuple #[.int .i64 (Cal.dim y m), .int .i64 0]) ∧ w = w' := by
  by_cases c : m = 2
  · subst c
    by_cases hl : Cal.leap y = true
    · have e : (29 : Int) = Cal.dim y 2 := by simp [Cal.dim, Cal.lp, hl]
      have E := Lib.hid e; clear e
      go_enter Try.func51, Try.ntmps51
      go_wp2_with (go_at_call 57; refine (long_any _ h1 h2 _).mono ?_; rintro e w' ⟨rfl, rfl⟩)
      go_ret2
      exact ⟨ret_two E.out, rfl⟩
    · have e : (28 : Int) = Cal.dim y 2 := by simp [Cal.dim, Cal.lp, hl]
      have E := Lib.hid e; clear e
      have hl' : Cal.leap y = false := by simpa using hl
      have i1 := table 1 (by omega)
      simp only [if_pos, Int.cast_ofNat_Int] at i1
      go_enter Try.func51, Try.ntmps51
      go_wp2_with (go_at_call 57; refine (long_any _ h1 h2 _).mono ?_; rintro e w' ⟨rfl, rfl⟩)
      go_ret2
      exact ⟨ret_two E.out, rfl⟩
  · obtain ⟨k, rfl⟩ : ∃ k : Nat, m = (k : Int) + 1 := ⟨(m - 1).toNat, by omega⟩
    have i1 := table k (by omega)
    have e : (if k = 1 then 28 else if k = 3 ∨ k = 5 ∨ k = 8 ∨ k = 10 then 30 else 31) = Cal.dim y ((k : Int) + 1) := by
      have hk1 : ¬ k = 1 := by omega
      have hk2 : ¬ (k : Int) + 1 = 2 := by omega
      unfold Cal.dim
      rw [if_neg hk1, if_neg hk2]
      by_cases hh : k = 3 ∨ k = 5 ∨ k = 8 ∨ k = 10
      · rw [if_pos hh, if_pos (by omega)]
      · rw [if_neg hh, if_neg (by omega)]
    rw [e] at i1
    clear e
    go_enter Try.func51, Try.ntmps51
    go_wp2_with (go_at_call 57; refine (long_any _ h1 h2 _).mono ?_; rintro e w' ⟨rfl, rfl⟩)
    go_ret2
    exact ⟨rfl, rfl⟩

end Go.Proofs.Ytkgoaodpjeonnaa
