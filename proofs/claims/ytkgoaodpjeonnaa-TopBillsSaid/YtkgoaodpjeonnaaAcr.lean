/- Contracts: accrue.Simple of numbers that may be; num.Add, account.add where the sum is an amount. -/
import Derived.Test.YtkgoaodpjeonnaaNumA
import Derived.Test.YtkgoaodpjeonnaaRat
namespace Go.Proofs.Ytkgoaodpjeonnaa
open Go.RowKit

theorem prin_yes (a : Int) (h0 : 0 ≤ a) (h1 : a ≤ 4611686018427387904) (w : World) : Calls Try.prog 24 #[.int .i64 a] w fun e w' => e = .returned (.bool true) ∧ w = w' := by
  go_enter Try.func24, Try.ntmps24
  go_wp2
  go_ret
  exact ⟨rfl, rfl⟩
theorem rate_yes (a : Int) (h0 : 0 ≤ a) (h1 : a ≤ 100000) (w : World) : Calls Try.prog 25 #[.int .i64 a] w fun e w' => e = .returned (.bool true) ∧ w = w' := by
  go_enter Try.func25, Try.ntmps25
  go_wp2
  go_ret
  exact ⟨rfl, rfl⟩
theorem aday_yes (a : Int) (h0 : 0 ≤ a) (h1 : a ≤ 3652058) (w : World) : Calls Try.prog 26 #[.int .i64 a] w fun e w' => e = .returned (.bool true) ∧ w = w' := by
  go_enter Try.func26, Try.ntmps26
  go_wp2
  go_ret
  exact ⟨rfl, rfl⟩
/-- Interest: principal, rate, days. -/
def simV (P bp d : Int) : Int := ((P.toNat * (bp.toNat * d.toNat) / 3650000 : Nat) : Int)
def SimOf (P bp d : Int) (e : Ending) : Prop := (simV P bp d ≤ 4611686018427387904 ∧ e = .returned (.tuple #[.int .i64 (simV P bp d), .int .i64 0])) ∨ (4611686018427387904 < simV P bp d ∧ e = .returned (.tuple #[.int .i64 0, .int .i64 2]))
theorem simV_nn (P bp d : Int) : 0 ≤ simV P bp d := by unfold simV; omega
theorem sim_prod (bp d : Nat) (hb : bp ≤ 100000) (hd : d ≤ 3652058) : bp * d ≤ 365205800000 := by
  have := Nat.mul_le_mul hb hd; omega
theorem simV_zero (P bp : Int) : simV P bp 0 = 0 := by unfold simV; simp
set_option maxHeartbeats 400000 in
theorem simple_any (P bp d : Int) (p0 : 0 ≤ P) (p1 : P ≤ 4611686018427387904) (b0 : 0 ≤ bp) (b1 : bp ≤ 100000) (d0 : 0 ≤ d) (d1 : d ≤ 3652058) (w : World) :
    Calls Try.prog 9 #[.int .i64 P, .int .i64 bp, .int .i64 d] w fun e w' => SimOf P bp d e ∧ Below w.heap.size w w' := by
  have HE : Hid (∀ e, MulOf P.toNat (bp.toNat * d.toNat) 3650000 e → SimOf P bp d e) := Lib.hid (fun e h => by
    unfold MulOf at h
    unfold SimOf simV
    generalize P.toNat * (bp.toNat * d.toNat) / 3650000 = q at *
    rcases h with ⟨h, rfl⟩ | ⟨h, rfl⟩
    · exact .inl ⟨by omega, rfl⟩
    · exact .inr ⟨by omega, rfl⟩)
  obtain ⟨P, rfl⟩ := Int.eq_ofNat_of_zero_le p0
  obtain ⟨bp, rfl⟩ := Int.eq_ofNat_of_zero_le b0
  obtain ⟨d, rfl⟩ := Int.eq_ofNat_of_zero_le d0
  have hp := sim_prod bp d (by omega) (by omega)
  obtain ⟨X, hX⟩ : ∃ X, bp * d = X := ⟨_, rfl⟩
  rw [hX] at hp
  have hXi : (bp : Int) * (d : Int) = (X : Int) := by rw [← hX]; simp
  have K := Lib.hid (muldiv_any P X 3650000 (by omega) (by omega) (by omega) (by omega))
  have HX := Lib.hid hX
  clear hX
  go_enter Try.func9, Try.ntmps9
  go_wp2_with fail
  refine (prin_yes _ (by omega) (by omega) _).mono ?_
  rintro e w' ⟨rfl, rfl⟩
  go_wp2_with fail
  refine (rate_yes _ (by omega) (by omega) _).mono ?_
  rintro e w' ⟨rfl, rfl⟩
  go_wp2_with fail
  refine (aday_yes _ (by omega) (by omega) _).mono ?_
  rintro e w' ⟨rfl, rfl⟩
  go_wp2_with fail
  refine (K.out _).mono ?_
  rintro e w1 ⟨hm, hb1⟩
  have HM : Hid (SimOf P bp d e) := Lib.hid (HE.out e (by rw [Int.toNat_natCast, Int.toNat_natCast, Int.toNat_natCast, HX.out]; exact hm))
  have hm' := hm
  unfold MulOf at hm'
  generalize P * X / 3650000 = q at *
  clear hm
  rcases hm' with ⟨hq, rfl⟩ | ⟨hq, rfl⟩
  · go_wp2_with fail
    go_ret2
    exact ⟨HM.out, hb1⟩
  · go_wp2_with fail
    go_ret2
    exact ⟨HM.out, hb1⟩
theorem is2 (a b : Int) (h : allIn (-4611686018427387904) 4611686018427387904 [a, b] = true) (w : World) (H : Nat) (hH : w.heap.size = H) :
    Calls Try.prog 30 #[.slice (some ⟨H, 0, none⟩) 2 2] (w.alloc (.cells #[.int .i64 a, .int .i64 b] 2)) fun e w' => e = .returned (.bool true) ∧ Below w.heap.size w w' := by
  subst hH
  refine (is_any w.heap.size [a, b] (by simp) _ (holds_new w [a, b] 2)).mono ?_
  rintro e w' ⟨rfl, rfl⟩
  exact ⟨by rw [h], (Below.refl _ _).alloc (Nat.le_refl _) _⟩
set_option maxHeartbeats 400000 in
theorem nadd_ok (a b : Int) (a0 : 0 ≤ a) (a1 : a ≤ 4611686018427387904) (b0 : -4611686018427387904 ≤ b) (b1 : b ≤ 4611686018427387904) (hs : a + b ≤ 4611686018427387904) (w : World) :
    Calls Try.prog 39 #[.int .i64 a, .int .i64 b] w fun e w' => e = .returned (.tuple #[.int .i64 (a + b), .int .i64 0]) ∧ Below w.heap.size w w' := by
  have hin : allIn (-4611686018427387904) 4611686018427387904 [a, b] = true := allIn_iff.2 (by
    intro x hx; simp at hx; rcases hx with rfl | rfl <;> omega)
  have HI := Lib.hid hin; clear hin
  by_cases h0 : 0 < a
  · have h1 : ¬ a < 0 := by omega
    have h2 : ¬ 4611686018427387904 - a < b := by omega
    go_enter Try.func39, Try.ntmps39
    go_wp2_with fail
    refine (is2 _ _ HI.out _ _ rfl).mono ?_
    rintro e w1 ⟨rfl, hb1⟩
    go_wp2_with fail
    go_ret2
    exact ⟨rfl, hb1⟩
  · have h1 : ¬ a < 0 := by omega
    go_enter Try.func39, Try.ntmps39
    go_wp2_with fail
    refine (is2 _ _ HI.out _ _ rfl).mono ?_
    rintro e w1 ⟨rfl, hb1⟩
    go_wp2_with fail
    go_ret2
    exact ⟨rfl, hb1⟩
theorem aadd_ok (a b : Int) (a0 : 0 ≤ a) (a1 : a ≤ 4611686018427387904) (b0 : -4611686018427387904 ≤ b) (b1 : b ≤ 4611686018427387904) (hs : a + b ≤ 4611686018427387904) (w : World) :
    Calls Try.prog 22 #[.int .i64 a, .int .i64 b] w fun e w' => e = .returned (.int .i64 (a + b)) ∧ Below w.heap.size w w' := by
  have K := Lib.hid (nadd_ok a b a0 a1 b0 b1 hs)
  go_enter Try.func22, Try.ntmps22
  go_wp2_with fail
  refine (K.out _).mono ?_
  rintro e w1 ⟨rfl, hb1⟩
  go_wp2_with fail
  go_ret
  exact ⟨rfl, hb1⟩
theorem within_b (n lo hi : Int) (b : Bool) (h : b = (decide (lo ≤ n) && decide (n ≤ hi))) (w : World) : Calls Try.prog 10 #[.int .i64 n, .int .i64 lo, .int .i64 hi] w fun e w' => e = .returned (.bool b) ∧ w = w' := by
  by_cases h0 : lo ≤ n
  · by_cases h1 : n ≤ hi
    · obtain rfl : b = true := by rw [h]; simp [h0, h1]
      clear h
      go_enter Try.func10, Try.ntmps10
      go_wp2
      go_ret
      exact ⟨rfl, rfl⟩
    · obtain rfl : b = false := by rw [h]; simp [h1]
      clear h
      go_enter Try.func10, Try.ntmps10
      go_wp2
      go_ret
      exact ⟨rfl, rfl⟩
  · obtain rfl : b = false := by rw [h]; simp [h0]
    clear h
    go_enter Try.func10, Try.ntmps10
    go_wp2
    go_ret
    exact ⟨rfl, rfl⟩
end Go.Proofs.Ytkgoaodpjeonnaa
