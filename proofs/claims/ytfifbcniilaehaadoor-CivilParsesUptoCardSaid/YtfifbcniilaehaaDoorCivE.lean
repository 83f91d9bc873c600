/- Contracts of Months (both), and of 'awake'. -/
import Derived.Test.YtfifbcniilaehaaDoorCivD
namespace Go.Proofs.YtfifbcniilaehaaDoor
open Go.RowKit

theorem isDate_bd {n y m d : Int} (h : IsDate n y m d) : 0 ≤ n ∧ n ≤ 3652058 := by
  have := Cal.num_bd y m d h.1; rw [h.2] at this; exact this
theorem isDate_inj {n y m d z k i : Int} (h : IsDate n y m d) (h' : IsDate n z k i) : y = z ∧ m = k ∧ d = i := Cal.num_inj h.1 h'.1 (by rw [h.2, h'.2])

theorem awake_any (w : World) : Calls Tryd.prog 7 #[] w fun e w' => e = .returned (.bool true) ∧ w = w' := by
  have e1 : Cal.num 1970 1 1 = 719162 := by decide
  have D := days_yes 1970 1 1 (by decide) w
  rw [e1] at D
  have H := Lib.hid D; clear D e1
  go_enter Tryd.func7, Tryd.ntmps7
  go_wp2_with fail
  refine (H.out).mono ?_
  rintro e w' ⟨rfl, rfl⟩
  clear H
  go_wp2_with fail
  refine (week_yes 719162 (by omega) (by omega) _).mono ?_
  rintro e w' ⟨rfl, rfl⟩
  go_wp2_with fail
  go_ret
  exact ⟨rfl, rfl⟩

/-- What Months comes to, of a date: the sum of the months, the month and year of it, the day. -/
def mYear (y m later : Int) : Int := (y * 12 + m - 1 + later) / 12
def mMonth (y m later : Int) : Int := (y * 12 + m - 1 + later) % 12 + 1
def mDay (y m d later : Int) : Int := min d (Cal.dim (mYear y m later) (mMonth y m later))
def MonthsOk (n later : Int) (e : Ending) : Prop := ∃ y m d, IsDate n y m d ∧
  ((1 ≤ mYear y m later ∧ mYear y m later ≤ 9999 ∧ e = .returned (.tuple #[.int .i64 (Cal.num (mYear y m later) (mMonth y m later) (mDay y m d later)), .int .i64 0])) ∨
    (¬ (1 ≤ mYear y m later ∧ mYear y m later ≤ 9999) ∧ e = .returned (.tuple #[.int .i64 0, .int .i64 2])))
theorem mYear_eq {y m later Y M : Int} (h : Y * 12 + M - 1 = y * 12 + m - 1 + later) (h1 : 1 ≤ M) (h2 : M ≤ 12) : mYear y m later = Y ∧ mMonth y m later = M := by
  unfold mYear mMonth; omega
theorem monthsOk_yes {n y m d later Y M D : Int} (h : IsDate n y m d) (e : Y * 12 + M - 1 = y * 12 + m - 1 + later) (h1 : 1 ≤ M) (h2 : M ≤ 12) (g1 : 1 ≤ Y) (g2 : Y ≤ 9999) (hD : D = min d (Cal.dim Y M)) :
    MonthsOk n later (.returned (.tuple #[.int .i64 (Cal.num Y M D), .int .i64 0])) := by
  obtain ⟨e1, e2⟩ := mYear_eq e h1 h2
  refine ⟨y, m, d, h, .inl ⟨by rw [e1]; exact g1, by rw [e1]; exact g2, ?_⟩⟩
  unfold mDay; rw [e1, e2, hD]
theorem monthsOk_no {n y m d later Y M : Int} (h : IsDate n y m d) (e : Y * 12 + M - 1 = y * 12 + m - 1 + later) (h1 : 1 ≤ M) (h2 : M ≤ 12) (g : ¬ (1 ≤ Y ∧ Y ≤ 9999)) :
    MonthsOk n later (.returned (.tuple #[.int .i64 0, .int .i64 2])) := by
  obtain ⟨e1, _⟩ := mYear_eq e h1 h2
  exact ⟨y, m, d, h, .inr ⟨by rw [e1]; exact g, rfl⟩⟩
theorem monthsOk_same {n later : Int} {e f : Ending} (h : MonthsOk n later e) (h' : MonthsOk n later f) : e = f := by
  obtain ⟨y, m, d, hd, h⟩ := h
  obtain ⟨z, k, i, hi, h'⟩ := h'
  obtain ⟨rfl, rfl, rfl⟩ := isDate_inj hd hi
  rcases h with ⟨a, b, rfl⟩ | ⟨a, rfl⟩ <;> rcases h' with ⟨c, d', rfl⟩ | ⟨c, rfl⟩
  · rfl
  · exact absurd ⟨a, b⟩ c
  · exact absurd ⟨c, d'⟩ a
  · rfl
theorem min_valid {Y M d : Int} (g1 : 1 ≤ Y) (g2 : Y ≤ 9999) (h1 : 1 ≤ M) (h2 : M ≤ 12) (h : 1 ≤ d) (D : Int) (hD : D = min d (Cal.dim Y M)) : Cal.Valid Y M D := by
  have := Cal.dim_bd Y M
  exact ⟨g1, g2, h1, h2, by omega, by omega⟩

end Go.Proofs.YtfifbcniilaehaaDoor
