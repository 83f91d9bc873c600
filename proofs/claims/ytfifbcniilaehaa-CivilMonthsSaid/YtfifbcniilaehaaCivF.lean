/- Contracts of the reference's Months. -/
import Derived.Test.YtfifbcniilaehaaCivE
namespace Go.Proofs.Ytfifbcniilaehaa
open Go.RowKit

theorem rmonths_no (n later : Int) (h : ¬ (0 ≤ n ∧ n ≤ 3652058) ∨ ¬ (-120000 ≤ later ∧ later ≤ 120000)) (w : World) :
    Calls Try.prog 15 #[.int .i64 n, .int .i64 later] w fun e w' => e = .returned (.tuple #[.int .i64 0, .int .i64 1]) ∧ w = w' := by
  by_cases hn : 0 ≤ n ∧ n ≤ 3652058
  · have hl : ¬ (-120000 ≤ later ∧ later ≤ 120000) := by
      rcases h with h | h
      · exact absurd hn h
      · exact h
    clear h
    obtain ⟨h1, h2⟩ := hn
    by_cases c : later < -120000
    · clear hl
      go_enter Try.func15, Try.ntmps15
      go_wp2_with fail
      refine (rdate_yes n h1 h2 _).mono ?_
      rintro e w1 ⟨⟨y, m, d, hd, rfl⟩, rfl⟩
      go_wp2_with fail
      go_ret2
      exact ⟨rfl, rfl⟩
    · have c2 : 120000 < later := by omega
      clear hl
      go_enter Try.func15, Try.ntmps15
      go_wp2_with fail
      refine (rdate_yes n h1 h2 _).mono ?_
      rintro e w1 ⟨⟨y, m, d, hd, rfl⟩, rfl⟩
      go_wp2_with fail
      go_ret2
      exact ⟨rfl, rfl⟩
  · have H := Lib.hid hn; clear hn h
    go_enter Try.func15, Try.ntmps15
    go_wp2_with fail
    refine (rdate_no n H.out _).mono ?_
    rintro e w1 ⟨rfl, rfl⟩
    go_wp2_with fail
    go_ret2
    exact ⟨rfl, rfl⟩

set_option maxHeartbeats 1000000 in
theorem rmonths_yes (n later : Int) (h1 : 0 ≤ n) (h2 : n ≤ 3652058) (h3 : -120000 ≤ later) (h4 : later ≤ 120000) (w : World) :
    Calls Try.prog 15 #[.int .i64 n, .int .i64 later] w fun e w' => MonthsOk n later e ∧ w = w' := by
  go_enter Try.func15, Try.ntmps15
  go_wp2_with fail
  refine (rdate_yes n h1 h2 _).mono ?_
  rintro e w1 ⟨⟨y, m, d, hd, rfl⟩, rfl⟩
  obtain ⟨g1, g2, g3, g4, g5, g6⟩ := hd.1
  go_wp2_with fail
  go_loop [6, 7] (fun a b => ∃ Y M : Int, Hid (Y * 12 + M = y * 12 + m + later) ∧ 1 ≤ Y ∧ Y ≤ 20000 ∧ (M ≤ 12 ∨ Y * 12 + M ≤ 240000) ∧ -130000 ≤ M ∧ M ≤ 130000 ∧ a = .int .i64 Y ∧ b = .int .i64 M) (fun _ b => (intOf b).toNat)
  case atStart => exact ⟨y, m + later, Lib.hid (by omega), by omega, by omega, by omega, by omega, by omega, rfl, rfl⟩
  case round =>
    obtain ⟨Y, M, HE, b1, b2, b5, b3, b4, rfl, rfl⟩ := hrel
    by_cases hM : 12 < M
    · go_wp2_with fail
      go_round
      case rel =>
        have e := HE.out
        exact ⟨Y + 1, M - 12, Lib.hid (by omega), by omega, by omega, by omega, by omega, by omega, rfl, rfl⟩
      case measure => simp [intOf]; omega
    · have hE := HE.out
      clear b5
      go_wp2_with fail
      go_loop [6, 7] (fun a b => ∃ Y M : Int, Hid (Y * 12 + M = y * 12 + m + later) ∧ -20000 ≤ Y ∧ Y ≤ 20000 ∧ -130000 ≤ M ∧ M ≤ 12 ∧ a = .int .i64 Y ∧ b = .int .i64 M) (fun _ b => (12 - intOf b).toNat)
      case atStart => exact ⟨Y, M, HE, by omega, by omega, by omega, by omega, rfl, rfl⟩
      case round =>
        clear hE HE hM b1 b2 b3 b4
        obtain ⟨Y, M, HE, b1, b2, b3, b4, rfl, rfl⟩ := hrel
        by_cases hM : M < 1
        · go_wp2_with fail
          go_round
          case rel =>
            have e := HE.out
            exact ⟨Y - 1, M + 12, Lib.hid (by omega), by omega, by omega, by omega, by omega, rfl, rfl⟩
          case measure => simp [intOf]; omega
        · by_cases c2 : 1 ≤ Y ∧ Y ≤ 9999
          · obtain ⟨c3, c4⟩ := c2
            go_wp2_with fail
            refine (rlast_yes _ _ c3 c4 (by omega) (by omega) _).mono ?_
            rintro e w2 ⟨rfl, rfl⟩
            by_cases c5 : Cal.dim Y M < d
            · go_wp2_with fail
              refine (rdays_yes _ _ _ (min_valid (d := d) c3 c4 (by omega) (by omega) (by omega) _ (by omega)) _).mono ?_
              rintro e w2 ⟨rfl, rfl⟩
              go_wp2_with fail
              go_ret2
              exact ⟨monthsOk_yes hd (by have := HE.out; omega) (by omega) (by omega) c3 c4 (by omega), rfl⟩
            · go_wp2_with fail
              refine (rdays_yes _ _ _ (min_valid (d := d) c3 c4 (by omega) (by omega) (by omega) _ (by omega)) _).mono ?_
              rintro e w2 ⟨rfl, rfl⟩
              go_wp2_with fail
              go_ret2
              exact ⟨monthsOk_yes hd (by have := HE.out; omega) (by omega) (by omega) c3 c4 (by omega), rfl⟩
          · have C := Lib.hid c2; clear c2
            go_wp2_with fail
            refine (rlast_no _ _ (by have := C.out; omega) _).mono ?_
            rintro e w2 ⟨rfl, rfl⟩
            go_wp2_with fail
            go_ret2
            exact ⟨monthsOk_no hd (Y := Y) (M := M) (by have := HE.out; omega) (by omega) (by omega) C.out, rfl⟩
end Go.Proofs.Ytfifbcniilaehaa
