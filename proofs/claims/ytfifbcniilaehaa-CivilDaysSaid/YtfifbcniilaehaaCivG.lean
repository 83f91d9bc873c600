/- The walks of the laws CivilDays, CivilAges, CivilMonths, CivilTwelve: each returns true. -/
import Derived.Test.YtfifbcniilaehaaCivF
namespace Go.Proofs.Ytfifbcniilaehaa
open Go.RowKit

theorem civilDays_walk (y m d : Int) (_w0 : (Lit.int .i64 y).wf = true) (_w1 : (Lit.int .i64 m).wf = true) (_w2 : (Lit.int .i64 d).wf = true) (w : World) :
    Calls Try.prog 3 #[.int .i64 y, .int .i64 m, .int .i64 d] w fun e w' => e = .returned (.bool true) ∧ Below w.heap.size w w' := by
  clear _w0 _w1 _w2
  by_cases c : 1 ≤ y ∧ y ≤ 9999 ∧ 1 ≤ m ∧ m ≤ 12
  · obtain ⟨h1, h2, h3, h4⟩ := c
    by_cases v : Cal.Valid y m d
    · have V := Lib.hid v; clear v
      go_enter Try.func3, Try.ntmps3
      go_wp2_with fail
      refine (awake_any _).mono ?_
      rintro e w' ⟨rfl, rfl⟩
      go_wp2_with fail
      refine (days_yes _ _ _ V.out _).mono ?_
      rintro e w' ⟨rfl, rfl⟩
      go_wp2_with fail
      refine (rdays_yes _ _ _ V.out _).mono ?_
      rintro e w' ⟨rfl, rfl⟩
      go_wp2_with fail
      refine (last_yes _ _ h1 h2 h3 h4 _).mono ?_
      rintro e w' ⟨rfl, rfl⟩
      go_wp2_with fail
      refine (rlast_yes _ _ h1 h2 h3 h4 _).mono ?_
      rintro e w' ⟨rfl, rfl⟩
      go_wp2_with fail
      go_ret
      exact ⟨rfl, Below.refl _ _⟩
    · have V := Lib.hid v; clear v
      go_enter Try.func3, Try.ntmps3
      go_wp2_with fail
      refine (awake_any _).mono ?_
      rintro e w' ⟨rfl, rfl⟩
      go_wp2_with fail
      refine (days_no _ _ _ V.out _).mono ?_
      rintro e w' ⟨rfl, rfl⟩
      go_wp2_with fail
      refine (rdays_no _ _ _ V.out _).mono ?_
      rintro e w' ⟨rfl, rfl⟩
      go_wp2_with fail
      refine (last_yes _ _ h1 h2 h3 h4 _).mono ?_
      rintro e w' ⟨rfl, rfl⟩
      go_wp2_with fail
      refine (rlast_yes _ _ h1 h2 h3 h4 _).mono ?_
      rintro e w' ⟨rfl, rfl⟩
      go_wp2_with fail
      go_ret
      exact ⟨rfl, Below.refl _ _⟩
  · have v : ¬ Cal.Valid y m d := fun h => c ⟨h.1, h.2.1, h.2.2.1, h.2.2.2.1⟩
    have V := Lib.hid v; clear v
    have C := Lib.hid c; clear c
    go_enter Try.func3, Try.ntmps3
    go_wp2_with fail
    refine (awake_any _).mono ?_
    rintro e w' ⟨rfl, rfl⟩
    go_wp2_with fail
    refine (days_no _ _ _ V.out _).mono ?_
    rintro e w' ⟨rfl, rfl⟩
    go_wp2_with fail
    refine (rdays_no _ _ _ V.out _).mono ?_
    rintro e w' ⟨rfl, rfl⟩
    go_wp2_with fail
    refine (last_no _ _ C.out _).mono ?_
    rintro e w' ⟨rfl, rfl⟩
    go_wp2_with fail
    refine (rlast_no _ _ C.out _).mono ?_
    rintro e w' ⟨rfl, rfl⟩
    go_wp2_with fail
    go_ret
    exact ⟨rfl, Below.refl _ _⟩

theorem civilMonths_walk (n later : Int) (_w0 : (Lit.int .i64 n).wf = true) (_w1 : (Lit.int .i64 later).wf = true) (w : World) :
    Calls Try.prog 5 #[.int .i64 n, .int .i64 later] w fun e w' => e = .returned (.bool true) ∧ Below w.heap.size w w' := by
  clear _w0 _w1
  by_cases c : ¬ (0 ≤ n ∧ n ≤ 3652058) ∨ ¬ (-120000 ≤ later ∧ later ≤ 120000)
  · have C := Lib.hid c; clear c
    go_enter Try.func5, Try.ntmps5
    go_wp2_with fail
    refine (awake_any _).mono ?_
    rintro e w' ⟨rfl, rfl⟩
    go_wp2_with fail
    refine (months_no _ _ C.out _).mono ?_
    rintro e w' ⟨rfl, hb⟩
    go_wp2_with fail
    refine (rmonths_no _ _ C.out _).mono ?_
    rintro e w' ⟨rfl, rfl⟩
    go_wp2_with fail
    go_ret
    exact ⟨rfl, hb⟩
  · obtain ⟨h1, h2, h3, h4⟩ : 0 ≤ n ∧ n ≤ 3652058 ∧ -120000 ≤ later ∧ later ≤ 120000 := by omega
    clear c
    go_enter Try.func5, Try.ntmps5
    go_wp2_with fail
    refine (awake_any _).mono ?_
    rintro e w' ⟨rfl, rfl⟩
    go_wp2_with fail
    refine (months_yes _ _ h1 h2 h3 h4 _).mono ?_
    rintro e w' ⟨he, hb⟩
    obtain ⟨y, m, d, hd, hc⟩ := he
    rcases hc with ⟨g1, g2, rfl⟩ | ⟨g, rfl⟩
    · have hok : MonthsOk n later (.returned (.tuple #[.int .i64 (Cal.num (mYear y m later) (mMonth y m later) (mDay y m d later)), .int .i64 0])) := ⟨y, m, d, hd, .inl ⟨g1, g2, rfl⟩⟩
      have HO := Lib.hid hok; clear hok
      go_wp2_with fail
      refine (rmonths_yes _ _ h1 h2 h3 h4 _).mono ?_
      rintro e w2 ⟨he, rfl⟩
      have e2 := monthsOk_same he HO.out
      subst e2
      go_wp2_with fail
      go_ret
      exact ⟨rfl, hb⟩
    · have hok : MonthsOk n later (.returned (.tuple #[.int .i64 0, .int .i64 2])) := ⟨y, m, d, hd, .inr ⟨g, rfl⟩⟩
      have HO := Lib.hid hok; clear hok
      clear g
      go_wp2_with fail
      refine (rmonths_yes _ _ h1 h2 h3 h4 _).mono ?_
      rintro e w2 ⟨he, rfl⟩
      have e2 := monthsOk_same he HO.out
      subst e2
      go_wp2_with fail
      go_ret
      exact ⟨rfl, hb⟩

theorem isDate_age {n y m d z k i : Int} (h : IsDate n y m d) (h' : IsDate (n + 146097) z k i) : z = y + 400 ∧ k = m ∧ i = d := by
  obtain ⟨⟨a1, a2, a3, a4, a5, a6⟩, e⟩ := h
  have hn := Cal.num_bd z k i h'.1
  have hy : y + 400 ≤ 9999 := by
    have := h'.2
    rcases Int.lt_or_le 9599 y with hl | hl
    · exfalso
      have d1 := Cal.dby_mono 9600 y (by omega)
      have d2 := Cal.cum_bd y m a3 (by omega)
      have d3 : Cal.dby 9600 = 3505961 + 1 := by decide
      unfold Cal.num at e
      omega
    · omega
  have hv : Cal.Valid (y + 400) m d := ⟨by omega, hy, a3, a4, a5, by rw [Cal.dim_400]; exact a6⟩
  exact Cal.num_inj h'.1 hv (by rw [h'.2, Cal.num_400, e])

theorem civilAges_walk (n : Int) (_w0 : (Lit.int .i64 n).wf = true) (w : World) :
    Calls Try.prog 4 #[.int .i64 n] w fun e w' => e = .returned (.bool true) ∧ Below w.heap.size w w' := by
  clear _w0
  by_cases c1 : n < 0
  · go_enter Try.func4, Try.ntmps4
    go_wp2_with fail
    refine (awake_any _).mono ?_
    rintro e w' ⟨rfl, rfl⟩
    go_wp2_with fail
    go_ret
    exact ⟨rfl, Below.refl _ _⟩
  · by_cases c2 : 3505961 < n
    · go_enter Try.func4, Try.ntmps4
      go_wp2_with fail
      refine (awake_any _).mono ?_
      rintro e w' ⟨rfl, rfl⟩
      go_wp2_with fail
      go_ret
      exact ⟨rfl, Below.refl _ _⟩
    · go_enter Try.func4, Try.ntmps4
      go_wp2_with fail
      refine (awake_any _).mono ?_
      rintro e w' ⟨rfl, rfl⟩
      go_wp2_with fail
      refine (date_yes n (by omega) (by omega) _).mono ?_
      rintro e w1 ⟨⟨y, m, d, hd, rfl⟩, hb⟩
      go_wp2_with fail
      refine (date_yes (n + 146097) (by omega) (by omega) _).mono ?_
      rintro e w2 ⟨⟨z, k, i, hi, rfl⟩, hb2⟩
      obtain ⟨rfl, rfl, rfl⟩ := isDate_age hd hi
      have hbb := hb.trans (hb2.mono hb.size)
      obtain ⟨g1, g2, _⟩ := hd.1
      clear hb hb2 hi hd
      go_wp2_with fail
      refine (week_yes n (by omega) (by omega) _).mono ?_
      rintro e w3 ⟨rfl, rfl⟩
      go_wp2_with fail
      refine (week_yes (n + 146097) (by omega) (by omega) _).mono ?_
      rintro e w3 ⟨rfl, rfl⟩
      have e7 : (n + 146097) % 7 = n % 7 := by omega
      rw [e7]
      go_wp2_with fail
      go_ret
      exact ⟨rfl, hbb⟩

/-- Twelve months later. -/
theorem twelve_date {n y m d x : Int} (h : IsDate n y m d) (hy : y < 9999) (he : MonthsOk n 12 (.returned (.tuple #[.int .i64 x, .int .i64 0]))) :
    IsDate x (y + 1) m (if m = 2 ∧ d = 29 then 28 else d) := by
  obtain ⟨y', m', d', h', hc⟩ := he
  obtain ⟨rfl, rfl, rfl⟩ := isDate_inj h h'
  obtain ⟨⟨a1, a2, a3, a4, a5, a6⟩, _⟩ := h
  obtain ⟨e1, e2⟩ := mYear_eq (y := y) (m := m) (later := 12) (Y := y + 1) (M := m) (by omega) a3 a4
  rw [e1, e2] at hc
  unfold mDay at hc
  rw [e1, e2] at hc
  have l0 := Cal.lp_01 y
  have l1 := Cal.lp_01 (y + 1)
  have l2 : Cal.lp y = 1 → Cal.lp (y + 1) = 0 := by have := Cal.lp_eq y; have := Cal.lp_eq (y + 1); omega
  have hmin : min d (Cal.dim (y + 1) m) = if m = 2 ∧ d = 29 then 28 else d := by
    unfold Cal.dim at a6 ⊢
    by_cases c : m = 2
    · rw [if_pos c] at a6 ⊢
      by_cases c2 : d = 29
      · rw [if_pos ⟨c, c2⟩]; omega
      · rw [if_neg (by omega)]; omega
    · rw [if_neg c] at a6 ⊢
      rw [if_neg (fun h => c h.1 : ¬ (m = 2 ∧ d = 29))]
      omega
  rw [hmin] at hc
  have hv : Cal.Valid (y + 1) m (if m = 2 ∧ d = 29 then 28 else d) := by
    rw [← hmin]
    exact min_valid (by omega) (by omega) a3 a4 a5 _ rfl
  rcases hc with ⟨_, _, hx⟩ | ⟨_, hx⟩
  · injection hx with hx; injection hx with hx
    have hx' : x = Cal.num (y + 1) m (if m = 2 ∧ d = 29 then 28 else d) := by simpa using hx
    exact ⟨hv, hx'.symm⟩
  · exfalso
    injection hx with hx; injection hx with hx
    simp at hx
theorem twelve_end {n y m d : Int} {e : Ending} (h : IsDate n y m d) (he : MonthsOk n 12 e) :
    (y = 9999 ∧ e = .returned (.tuple #[.int .i64 0, .int .i64 2])) ∨ (y < 9999 ∧ ∃ x, e = .returned (.tuple #[.int .i64 x, .int .i64 0])) := by
  obtain ⟨y', m', d', h', hc⟩ := he
  obtain ⟨rfl, rfl, rfl⟩ := isDate_inj h h'
  obtain ⟨⟨a1, a2, a3, a4, a5, a6⟩, _⟩ := h
  obtain ⟨e1, e2⟩ := mYear_eq (y := y) (m := m) (later := 12) (Y := y + 1) (M := m) (by omega) a3 a4
  rw [e1] at hc
  rcases hc with ⟨_, g, hx⟩ | ⟨g, hx⟩
  · exact .inr ⟨by omega, _, hx⟩
  · exact .inl ⟨by omega, hx⟩

theorem civilTwelve_walk (n : Int) (_w0 : (Lit.int .i64 n).wf = true) (w : World) :
    Calls Try.prog 6 #[.int .i64 n] w fun e w' => e = .returned (.bool true) ∧ Below w.heap.size w w' := by
  clear _w0
  by_cases c : 0 ≤ n ∧ n ≤ 3652058
  · obtain ⟨h1, h2⟩ := c
    go_enter Try.func6, Try.ntmps6
    go_wp2_with fail
    refine (awake_any _).mono ?_
    rintro e w' ⟨rfl, rfl⟩
    go_wp2_with fail
    refine (date_yes n h1 h2 _).mono ?_
    rintro e w1 ⟨⟨y, m, d, hd, rfl⟩, hb⟩
    obtain ⟨a1, a2, a3, a4, a5, a6⟩ := hd.1
    have hdim := Cal.dim_bd y m
    go_wp2_with fail
    refine (months_yes n 12 h1 h2 (by omega) (by omega) _).mono ?_
    rintro e w2 ⟨he, hb2⟩
    have hbb := hb.trans (hb2.mono hb.size)
    clear hb hb2
    rcases twelve_end hd he with ⟨rfl, rfl⟩ | ⟨hy, x, rfl⟩
    · clear he
      go_wp2_with fail
      go_ret
      exact ⟨rfl, hbb⟩
    · have hx := twelve_date hd hy he
      have hxb := isDate_bd hx
      clear he
      have HX := Lib.hid hx; clear hx
      have hy9 : ¬ y = 9999 := by omega
      go_wp2_with fail
      refine (date_yes x hxb.1 hxb.2 _).mono ?_
      rintro e w3 ⟨⟨z, k, i, hi, rfl⟩, hb3⟩
      have hbb3 := hbb.trans (hb3.mono hbb.size)
      clear hbb hb3
      obtain ⟨rfl, rfl, e3⟩ := isDate_inj hi HX.out
      by_cases c2 : k = 2
      · by_cases c3 : d = 29
        · have e4 : i = 28 := by rw [e3, if_pos ⟨c2, c3⟩]
          clear e3 HX hi hd
          subst c2 c3 e4
          go_wp2_with fail
          go_ret
          exact ⟨rfl, hbb3⟩
        · have e4 : i = d := by rw [e3, if_neg (by omega)]
          clear e3 HX hi hd
          subst c2 e4
          go_wp2_with fail
          go_ret
          exact ⟨rfl, hbb3⟩
      · have e4 : i = d := by rw [e3, if_neg (by omega)]
        clear e3 HX hi hd
        subst e4
        go_wp2_with fail
        go_ret
        exact ⟨rfl, hbb3⟩
  · have C := Lib.hid c; clear c
    go_enter Try.func6, Try.ntmps6
    go_wp2_with fail
    refine (awake_any _).mono ?_
    rintro e w' ⟨rfl, rfl⟩
    go_wp2_with fail
    refine (date_no n C.out _).mono ?_
    rintro e w1 ⟨rfl, rfl⟩
    go_wp2_with fail
    refine (months_no n 12 (.inl C.out) _).mono ?_
    rintro e w2 ⟨rfl, hb⟩
    go_wp2_with fail
    go_ret
    exact ⟨rfl, hb⟩
end Go.Proofs.Ytfifbcniilaehaa
