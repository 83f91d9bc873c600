/- Contracts of Months (both), and of 'awake'. -/
import Derived.Test.YtkgoaodpjeonnaaCivD
namespace Go.Proofs.Ytkgoaodpjeonnaa
open Go.RowKit

theorem isDate_bd {n y m d : Int} (h : IsDate n y m d) : 0 ≤ n ∧ n ≤ 3652058 := by
  have := Cal.num_bd y m d h.1; rw [h.2] at this; exact this
theorem isDate_inj {n y m d z k i : Int} (h : IsDate n y m d) (h' : IsDate n z k i) : y = z ∧ m = k ∧ d = i := Cal.num_inj h.1 h'.1 (by rw [h.2, h'.2])

/-- What Months comes to, of a date: the sum of the months, the month and year of it, the day. -/
def mYear (y m later : Int) : Int := (y * 12 + m - 1 + later) / 12
def mMonth (y m later : Int) : Int := (y * 12 + m - 1 + later) % 12 + 1
def mDay (y m d later : Int) : Int := min d (Cal.dim (mYear y m later) (mMonth y m later))
def MonthsOk (n later : Int) (e : Ending) : Prop := ∃ y m d, IsDate n y m d ∧
  ((1 ≤ mYear y m later ∧ mYear y m later ≤ 9999 ∧ e = .returned (.tuple #[.int .i64 (Cal.num (mYear y m later) (mMonth y m later) (mDay y m d later)), .int .i64 0])) ∨
    (¬ (1 ≤ mYear y m later ∧ mYear y m later ≤ 9999) ∧ e = .returned (.tuple #[.int .i64 0, .int .i64 2])))
theorem mYear_eq {y m later Y M : Int} (h : Y * 12 + M - 1 = y * 12 + m - 1 + later) (h1 : 1 ≤ M) (h2 : M ≤ 12) : mYear y m later = Y ∧ mMonth y m later = M := by
  unfold mYear mMonth; omega
theorem monthsOk_yes {n y m d later Y M D : Int} (h : IsDate n y m d) (e : Y * 12 + M - 1 = y * 12 + m - 1 + later) (h1 : 1 ≤ M) (h2 : M ≤ 12) (g1 : 1 ≤ Y) (g2 : Y ≤ 9999) (hD : D = min d (Cal.dim Y M)) :
    MonthsOk n later (.returned (.tuple #[.int .i64 (Cal.num Y M D), .int .i64 0])) := by
  obtain ⟨e1, e2⟩ := mYear_eq e h1 h2
  refine ⟨y, m, d, h, .inl ⟨by rw [e1]; exact g1, by rw [e1]; exact g2, ?_⟩⟩
  unfold mDay; rw [e1, e2, hD]
theorem monthsOk_no {n y m d later Y M : Int} (h : IsDate n y m d) (e : Y * 12 + M - 1 = y * 12 + m - 1 + later) (h1 : 1 ≤ M) (h2 : M ≤ 12) (g : ¬ (1 ≤ Y ∧ Y ≤ 9999)) :
    MonthsOk n later (.returned (.tuple #[.int .i64 0, .int .i64 2])) := by
  obtain ⟨e1, _⟩ := mYear_eq e h1 h2
  exact ⟨y, m, d, h, .inr ⟨by rw [e1]; exact g, rfl⟩⟩
theorem monthsOk_same {n later : Int} {e f : Ending} (h : MonthsOk n later e) (h' : MonthsOk n later f) : e = f := by
  obtain ⟨y, m, d, hd, h⟩ := h
  obtain ⟨z, k, i, hi, h'⟩ := h'
  obtain ⟨rfl, rfl, rfl⟩ := isDate_inj hd hi
  rcases h with ⟨a, b, rfl⟩ | ⟨a, rfl⟩ <;> rcases h' with ⟨c, d', rfl⟩ | ⟨c, rfl⟩
  · rfl
  · exact absurd ⟨a, b⟩ c
  · exact absurd ⟨c, d'⟩ a
  · rfl
theorem min_valid {Y M d : Int} (g1 : 1 ≤ Y) (g2 : Y ≤ 9999) (h1 : 1 ≤ M) (h2 : M ≤ 12) (h : 1 ≤ d) (D : Int) (hD : D = min d (Cal.dim Y M)) : Cal.Valid Y M D := by
  have := Cal.dim_bd Y M
  exact ⟨g1, g2, h1, h2, by omega, by omega⟩

theorem months_no (n later : Int) (h : ¬ (0 ≤ n ∧ n ≤ 3652058) ∨ ¬ (-120000 ≤ later ∧ later ≤ 120000)) (w : World) :
    Calls Try.prog 44 #[.int .i64 n, .int .i64 later] w fun e w' => e = .returned (.tuple #[.int .i64 0, .int .i64 1]) ∧ Below w.heap.size w w' := by
  by_cases hn : 0 ≤ n ∧ n ≤ 3652058
  · have hl : ¬ (-120000 ≤ later ∧ later ≤ 120000) := by
      rcases h with h | h
      · exact absurd hn h
      · exact h
    clear h
    obtain ⟨h1, h2⟩ := hn
    by_cases c : later < -120000
    · clear hl
      go_enter Try.func44, Try.ntmps44
      go_wp2_with fail
      refine (date_yes n h1 h2 _).mono ?_
      rintro e w1 ⟨⟨y, m, d, hd, rfl⟩, hb⟩
      go_wp2_with fail
      go_ret2
      exact ⟨rfl, hb⟩
    · have c2 : 120000 < later := by omega
      clear hl
      go_enter Try.func44, Try.ntmps44
      go_wp2_with fail
      refine (date_yes n h1 h2 _).mono ?_
      rintro e w1 ⟨⟨y, m, d, hd, rfl⟩, hb⟩
      go_wp2_with fail
      go_ret2
      exact ⟨rfl, hb⟩
  · have H := Lib.hid hn; clear hn h
    go_enter Try.func44, Try.ntmps44
    go_wp2_with fail
    refine (date_no n H.out _).mono ?_
    rintro e w1 ⟨rfl, rfl⟩
    go_wp2_with fail
    go_ret2
    exact ⟨rfl, Below.refl _ _⟩

set_option maxHeartbeats 1000000 in
theorem months_yes (n later : Int) (h1 : 0 ≤ n) (h2 : n ≤ 3652058) (h3 : -120000 ≤ later) (h4 : later ≤ 120000) (w : World) :
    Calls Try.prog 44 #[.int .i64 n, .int .i64 later] w fun e w' => MonthsOk n later e ∧ Below w.heap.size w w' := by
  go_enter Try.func44, Try.ntmps44
  go_wp2_with fail
  refine (date_yes n h1 h2 _).mono ?_
  rintro e w1 ⟨⟨y, m, d, hd, rfl⟩, hb⟩
  obtain ⟨g1, g2, g3, g4, g5, g6⟩ := hd.1
  by_cases c : y * 12 + m - 1 + later < 12
  · go_wp2_with fail
    go_ret2
    exact ⟨monthsOk_no (Y := (y * 12 + m - 1 + later) / 12) (M := (y * 12 + m - 1 + later) % 12 + 1) hd (by omega) (by omega) (by omega) (by omega), hb⟩
  · by_cases c2 : (y * 12 + m - 1 + later) / 12 ≤ 9999
    · go_wp2_with fail
      refine (last_yes _ _ (by omega) c2 (by omega) (by omega) _).mono ?_
      rintro e w2 ⟨rfl, rfl⟩
      by_cases c3 : Cal.dim ((y * 12 + m - 1 + later) / 12) ((y * 12 + m - 1 + later) % 12 + 1) < d
      · go_wp2_with fail
        refine (days_yes _ _ _ (min_valid (d := d) (by omega) c2 (by omega) (by omega) (by omega) _ (by omega)) _).mono ?_
        rintro e w2 ⟨rfl, rfl⟩
        go_wp2_with fail
        go_ret2
        exact ⟨monthsOk_yes hd (by omega) (by omega) (by omega) (by omega) c2 (by omega), hb⟩
      · go_wp2_with fail
        refine (days_yes _ _ _ (min_valid (d := d) (by omega) c2 (by omega) (by omega) (by omega) _ (by omega)) _).mono ?_
        rintro e w2 ⟨rfl, rfl⟩
        go_wp2_with fail
        go_ret2
        exact ⟨monthsOk_yes hd (by omega) (by omega) (by omega) (by omega) c2 (by omega), hb⟩
    · go_wp2_with fail
      refine (last_no _ _ (by omega) _).mono ?_
      rintro e w2 ⟨rfl, rfl⟩
      go_wp2_with fail
      go_ret2
      exact ⟨monthsOk_no hd (Y := (y * 12 + m - 1 + later) / 12) (M := (y * 12 + m - 1 + later) % 12 + 1) (by omega) (by omega) (by omega) (by omega), hb⟩
end Go.Proofs.Ytkgoaodpjeonnaa
