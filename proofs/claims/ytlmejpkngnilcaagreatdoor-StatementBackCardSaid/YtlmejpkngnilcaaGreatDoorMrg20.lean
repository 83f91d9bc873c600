/- Parts of the proof, one behind the other: The plain calendar: leap years, lengths of months, days before a year and a month, the number of a date; that the number of a valid date determines it. No Go in sight. -/

namespace Go.Proofs.YtlmejpkngnilcaaGreatDoor.Cal

/-- Is the year long? -/
def leap (y : Int) : Bool := y % 4 == 0 && (!(y % 100 == 0) || y % 400 == 0)
/-- 1 in a long year, else 0. -/
def lp (y : Int) : Int := if leap y then 1 else 0
/-- The last day of a month. -/
def dim (y m : Int) : Int := if m = 2 then 28 + lp y else if m = 4 ∨ m = 6 ∨ m = 9 ∨ m = 11 then 30 else 31
/-- Days ahead of a year. -/
def dby (y : Int) : Int := (y - 1) * 365 + (y - 1) / 4 - (y - 1) / 100 + (y - 1) / 400
/-- Days of a year ahead of a month. -/
def cum (y m : Int) : Int :=
  if m ≤ 1 then 0 else if m = 2 then 31 else if m = 3 then 59 + lp y else if m = 4 then 90 + lp y else if m = 5 then 120 + lp y
  else if m = 6 then 151 + lp y else if m = 7 then 181 + lp y else if m = 8 then 212 + lp y else if m = 9 then 243 + lp y
  else if m = 10 then 273 + lp y else if m = 11 then 304 + lp y else if m = 12 then 334 + lp y else 365 + lp y
/-- The number of a date. -/
def num (y m d : Int) : Int := dby y + cum y m + d - 1
/-- A date that there is. -/
def Valid (y m d : Int) : Prop := 1 ≤ y ∧ y ≤ 9999 ∧ 1 ≤ m ∧ m ≤ 12 ∧ 1 ≤ d ∧ d ≤ dim y m
instance (y m d : Int) : Decidable (Valid y m d) := by unfold Valid; infer_instance

theorem lp_01 (y : Int) : 0 ≤ lp y ∧ lp y ≤ 1 := by unfold lp; split <;> omega
theorem leap_iff (y : Int) : leap y = true ↔ (y % 4 = 0 ∧ (y % 100 ≠ 0 ∨ y % 400 = 0)) := by
  unfold leap; simp
theorem lp_eq (y : Int) : (lp y = 1 ∧ y % 4 = 0 ∧ (y % 100 ≠ 0 ∨ y % 400 = 0)) ∨ (lp y = 0 ∧ (y % 4 ≠ 0 ∨ (y % 100 = 0 ∧ y % 400 ≠ 0))) := by
  unfold lp
  by_cases h : leap y = true
  · rw [if_pos h]; have := (leap_iff y).1 h; omega
  · rw [if_neg h]; have h2 : ¬ _ := fun x => h ((leap_iff y).2 x); omega
theorem dby_succ (y : Int) : dby (y + 1) = dby y + 365 + lp y := by
  have := lp_eq y
  unfold dby
  have e : y + 1 - 1 = y := by omega
  rw [e]
  omega
theorem dby_one : dby 1 = 0 := by decide
theorem dby_max : dby 10000 = 3652059 := by decide
theorem dby_mono (a b : Int) (h : a ≤ b) : dby a ≤ dby b := by unfold dby; omega
theorem dby_lt (a b : Int) (h : a < b) : dby a + 365 + lp a ≤ dby b := by
  rw [← dby_succ]; exact dby_mono _ _ (by omega)
theorem cum_succ (y m : Int) (h : 1 ≤ m) (h' : m ≤ 12) : cum y (m + 1) = cum y m + dim y m := by
  have hm : m = 1 ∨ m = 2 ∨ m = 3 ∨ m = 4 ∨ m = 5 ∨ m = 6 ∨ m = 7 ∨ m = 8 ∨ m = 9 ∨ m = 10 ∨ m = 11 ∨ m = 12 := by omega
  rcases hm with rfl | rfl | rfl | rfl | rfl | rfl | rfl | rfl | rfl | rfl | rfl | rfl <;> simp [cum, dim] <;> omega
theorem cum_one (y : Int) : cum y 1 = 0 := by simp [cum]
theorem cum_end (y : Int) : cum y 13 = 365 + lp y := by simp [cum]
theorem dim_bd (y m : Int) : 28 ≤ dim y m ∧ dim y m ≤ 31 := by
  have := lp_01 y
  unfold dim; split
  · omega
  · split <;> omega
theorem cum_bd (y m : Int) (h : 1 ≤ m) (h' : m ≤ 13) : 0 ≤ cum y m ∧ cum y m ≤ 365 + lp y := by
  have hm : m = 1 ∨ m = 2 ∨ m = 3 ∨ m = 4 ∨ m = 5 ∨ m = 6 ∨ m = 7 ∨ m = 8 ∨ m = 9 ∨ m = 10 ∨ m = 11 ∨ m = 12 ∨ m = 13 := by omega
  have := lp_01 y
  rcases hm with rfl | rfl | rfl | rfl | rfl | rfl | rfl | rfl | rfl | rfl | rfl | rfl | rfl <;> simp [cum] <;> omega
theorem cum_mono (y a b : Int) (ha : 1 ≤ a) (hb : b ≤ 13) (h : a ≤ b) : cum y a ≤ cum y b := by
  have key : ∀ k : Nat, a + k ≤ 13 → cum y a ≤ cum y (a + k) := by
    intro k
    induction k with
    | zero => intro _; simp
    | succ k ih =>
      intro hk
      have h1 := ih (by omega)
      have h2 := cum_succ y (a + k) (by omega) (by omega)
      have h3 := dim_bd y (a + k)
      have e : a + ((k + 1 : Nat) : Int) = a + k + 1 := by omega
      rw [e]; omega
  have := key (b - a).toNat (by omega)
  have e : a + ((b - a).toNat : Int) = b := by omega
  rwa [e] at this
/-- Day of the year, from 0 on. -/
theorem doy_bd (y m d : Int) (h : Valid y m d) : 0 ≤ cum y m + d - 1 ∧ cum y m + d - 1 < 365 + lp y := by
  obtain ⟨_, _, h1, h2, h3, h4⟩ := h
  have a := cum_succ y m h1 h2
  have b := cum_mono y (m + 1) 13 (by omega) (by omega) (by omega)
  have c := cum_bd y m h1 (by omega)
  rw [cum_end] at b
  omega
theorem num_bd (y m d : Int) (h : Valid y m d) : 0 ≤ num y m d ∧ num y m d ≤ 3652058 := by
  have a := doy_bd y m d h
  obtain ⟨h1, h2, _⟩ := h
  have b := dby_mono 1 y h1
  have c := dby_lt y 10000 (by omega)
  rw [dby_one] at b; rw [dby_max] at c
  unfold num; omega
theorem year_eq (y z a b : Int) (ha : 0 ≤ a) (ha' : a < 365 + lp y) (hb : 0 ≤ b) (hb' : b < 365 + lp z) (h : dby y + a = dby z + b) : y = z := by
  rcases Int.lt_trichotomy y z with hl | rfl | hl
  · have := dby_lt y z hl; omega
  · rfl
  · have := dby_lt z y hl; omega
/-- The number determines the date. -/
theorem num_inj {y m d z k i : Int} (h : Valid y m d) (h' : Valid z k i) (e : num y m d = num z k i) : y = z ∧ m = k ∧ d = i := by
  have a := doy_bd y m d h
  have b := doy_bd z k i h'
  unfold num at e
  have hy : y = z := year_eq y z (cum y m + d - 1) (cum z k + i - 1) a.1 a.2 b.1 b.2 (by omega)
  subst hy
  obtain ⟨_, _, h1, h2, h3, h4⟩ := h
  obtain ⟨_, _, g1, g2, g3, g4⟩ := h'
  have hm : m = k := by
    rcases Int.lt_trichotomy m k with hl | rfl | hl
    · have := cum_mono y (m + 1) k (by omega) (by omega) (by omega)
      have := cum_succ y m h1 h2; omega
    · rfl
    · have := cum_mono y (k + 1) m (by omega) (by omega) (by omega)
      have := cum_succ y k g1 g2; omega
  subst hm
  exact ⟨rfl, rfl, by omega⟩
/-- The cycle of 400 years. -/
theorem lp_400 (y : Int) : lp (y + 400) = lp y := by have := lp_eq y; have := lp_eq (y + 400); omega
theorem dim_400 (y m : Int) : dim (y + 400) m = dim y m := by unfold dim; rw [lp_400]
theorem cum_400 (y m : Int) : cum (y + 400) m = cum y m := by unfold cum; rw [lp_400]
theorem dby_400 (y : Int) : dby (y + 400) = dby y + 146097 := by unfold dby; omega
theorem num_400 (y m d : Int) : num (y + 400) m d = num y m d + 146097 := by unfold num; rw [cum_400, dby_400]; omega

/-- The program's four steps: ages, hundreds, fours, years. -/
theorem steps (n a b c d n1 n2 n3 n4 : Int) (h0 : 0 ≤ n) (h1 : n ≤ 3652058) (ha : a = n / 146097) (e1 : n1 = n - a * 146097)
    (hb : b = min (n1 / 36524) 3) (e2 : n2 = n1 - b * 36524) (hc : c = n2 / 1461) (e3 : n3 = n2 - c * 1461) (hd : d = min (n3 / 365) 3) (e4 : n4 = n3 - d * 365) :
    1 ≤ 1 + a * 400 + b * 100 + c * 4 + d ∧ 1 + a * 400 + b * 100 + c * 4 + d ≤ 9999 ∧ 0 ≤ n4 ∧ n4 < 365 + lp (1 + a * 400 + b * 100 + c * 4 + d) ∧
      n = dby (1 + a * 400 + b * 100 + c * 4 + d) + n4 := by
  have := lp_eq (1 + a * 400 + b * 100 + c * 4 + d)
  have a1 : 0 ≤ a ∧ a ≤ 24 ∧ 0 ≤ n1 ∧ n1 ≤ 146096 := by omega
  have b1 : 0 ≤ b ∧ b ≤ 3 ∧ 0 ≤ n2 ∧ n2 ≤ 36524 ∧ (b < 3 → n2 ≤ 36523) := by omega
  have c1 : 0 ≤ c ∧ c ≤ 24 ∧ 0 ≤ n3 ∧ n3 ≤ 1460 ∧ (b < 3 → c = 24 → n3 ≤ 1459) := by omega
  have d1 : 0 ≤ d ∧ d ≤ 3 ∧ 0 ≤ n4 ∧ n4 ≤ 365 ∧ (d < 3 → n4 ≤ 364) ∧ (d = 3 → b < 3 → c = 24 → n4 ≤ 364) := by omega
  have hn : n = a * 146097 + b * 36524 + c * 1461 + d * 365 + n4 := by omega
  clear ha e1 hb e2 hc e3 hd e4
  have q4 : (1 + a * 400 + b * 100 + c * 4 + d - 1) / 4 = 100 * a + 25 * b + c := by omega
  have q100 : (1 + a * 400 + b * 100 + c * 4 + d - 1) / 100 = 4 * a + b := by omega
  have q400 : (1 + a * 400 + b * 100 + c * 4 + d - 1) / 400 = a := by omega
  have hdby : dby (1 + a * 400 + b * 100 + c * 4 + d) = a * 146097 + b * 36524 + c * 1461 + d * 365 := by unfold dby; rw [q4, q100, q400]; omega
  clear q4 q100 q400
  refine ⟨by omega, by omega, by omega, ?_, by omega⟩
  omega
#print axioms steps
#print axioms num_inj
end Go.Proofs.YtlmejpkngnilcaaGreatDoor.Cal
