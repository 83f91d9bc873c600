/- Contracts of the program's and the reference's Days. -/
import Derived.Test.YtkgoaodpjeonnaaCivA
namespace Go.Proofs.Ytkgoaodpjeonnaa
open Go.RowKit

theorem cum_lo (y k : Int) (h1 : 1 ≤ k) (h2 : k ≤ 12) : 0 ≤ Cal.cum y k ∧ Cal.cum y k ≤ 366 := by
  have := Cal.cum_bd y k h1 (by omega); have := Cal.lp_01 y; omega
theorem days_start (y d : Int) : (y - 1) * 365 + (y - 1) / 4 - (y - 1) / 100 + (y - 1) / 400 + d - 1 = Cal.dby y + Cal.cum y 1 + d - 1 := by
  rw [Cal.cum_one]; unfold Cal.dby; omega
theorem dby_lo (y : Int) (h1 : 1 ≤ y) (h2 : y ≤ 9999) : 0 ≤ Cal.dby y ∧ Cal.dby y ≤ 3652059 := by
  have := Cal.dby_mono 1 y h1; have := Cal.dby_mono y 10000 (by omega); rw [Cal.dby_one] at *; rw [Cal.dby_max] at *; omega

theorem days_yes (y m d : Int) (hv : Cal.Valid y m d) (w : World) :
    Calls Try.prog 52 #[.int .i64 y, .int .i64 m, .int .i64 d] w fun e w' => e = .returned (.tuple #[.int .i64 (Cal.num y m d), .int .i64 0]) ∧ w = w' := by
  obtain ⟨h1, h2, h3, h4, h5, h6⟩ := hv
  have hdim := Cal.dim_bd y m
  have hnd : ¬ Cal.dim y m < d := by omega
  go_enter Try.func52, Try.ntmps52
  go_wp2_with (go_at_call 51; refine (last_yes _ _ h1 h2 h3 h4 _).mono ?_; rintro e w' ⟨rfl, rfl⟩)
  go_loop [11, 50] (fun o i => ∃ k : Nat, (k : Int) + 1 ≤ m ∧ i = .int .i64 k ∧ o = .int .i64 (Cal.dby y + Cal.cum y (k + 1) + d - 1)) (fun _ i => (m - intOf i).toNat)
  case atStart => exact ⟨0, by omega, rfl, by rw [days_start]; rfl⟩
  case round =>
    obtain ⟨k, hk, rfl, rfl⟩ := hrel
    have hb := dby_lo y h1 h2
    have hc := cum_lo y (k + 1) (by omega) (by omega)
    have hd := Cal.dim_bd y (k + 1)
    by_cases hlt : (k : Int) < m - 1
    · have hs := Lib.hid (Cal.cum_succ y (k + 1) (by omega) (by omega))
      go_wp2_with (go_at_call 51; refine (last_yes _ _ h1 h2 (by omega) (by omega) _).mono ?_; rintro e w' ⟨rfl, rfl⟩)
      go_round
      case rel =>
        refine ⟨k + 1, by omega, by go_num, ?_⟩
        have e := hs.out
        have e2 : ((k + 1 : Nat) : Int) + 1 = (k : Int) + 1 + 1 := by omega
        rw [e2, e]
        congr 1; omega
      case measure => simp [intOf]; omega
    · have hm : m = (k : Int) + 1 := by omega
      have hE : Cal.dby y + Cal.cum y (k + 1) + d - 1 = Cal.num y m d := by rw [hm]; rfl
      have HE := Lib.hid hE; clear hE hm
      go_wp2
      go_ret2
      exact ⟨ret_two HE.out, rfl⟩

theorem days_no (y m d : Int) (hv : ¬ Cal.Valid y m d) (w : World) :
    Calls Try.prog 52 #[.int .i64 y, .int .i64 m, .int .i64 d] w fun e w' => e = .returned (.tuple #[.int .i64 0, .int .i64 1]) ∧ w = w' := by
  by_cases c : 1 ≤ y ∧ y ≤ 9999 ∧ 1 ≤ m ∧ m ≤ 12
  · obtain ⟨h1, h2, h3, h4⟩ := c
    by_cases c5 : d < 1
    · go_enter Try.func52, Try.ntmps52
      go_wp2_with (go_at_call 51; refine (last_yes _ _ h1 h2 h3 h4 _).mono ?_; rintro e w' ⟨rfl, rfl⟩)
      go_ret2
      exact ⟨rfl, rfl⟩
    · have c6 : Cal.dim y m < d := by unfold Cal.Valid at hv; omega
      clear hv
      go_enter Try.func52, Try.ntmps52
      go_wp2_with (go_at_call 51; refine (last_yes _ _ h1 h2 h3 h4 _).mono ?_; rintro e w' ⟨rfl, rfl⟩)
      go_ret2
      exact ⟨rfl, rfl⟩
  · clear hv
    have C := Lib.hid c; clear c
    go_enter Try.func52, Try.ntmps52
    go_wp2_with (go_at_call 51; refine (last_no _ _ C.out _).mono ?_; rintro e w' ⟨rfl, rfl⟩)
    go_ret2
    exact ⟨rfl, rfl⟩
end Go.Proofs.Ytkgoaodpjeonnaa
