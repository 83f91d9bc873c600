/- Contracts of the reference's Days and Date. -/
import Derived.Test.YtfifbcniilaehaaDoorCivB
namespace Go.Proofs.YtfifbcniilaehaaDoor
open Go.RowKit

theorem results_tmp4 {fn : Func} {t u v x : Tmp} (h : fn.results = #[.tmp t, .tmp u, .tmp v, .tmp x]) (tmps : Array Value) (P : Program) (w : World) :
    (results fn tmps).run P w = .ok (.tuple #[tmps.getD t undef, tmps.getD u undef, tmps.getD v undef, tmps.getD x undef]) w := by simp [results, h]

theorem rdays_yes (y m d : Int) (hv : Cal.Valid y m d) (w : World) :
    Calls Tryd.prog 27 #[.int .i64 y, .int .i64 m, .int .i64 d] w fun e w' => e = .returned (.tuple #[.int .i64 (Cal.num y m d), .int .i64 0]) ∧ w = w' := by
  obtain ⟨h1, h2, h3, h4, h5, h6⟩ := hv
  have hdim := Cal.dim_bd y m
  have hnd : ¬ Cal.dim y m < d := by omega
  go_enter Tryd.func27, Tryd.ntmps27
  go_wp2_with (go_at_call 19; refine (rlast_yes _ _ h1 h2 h3 h4 _).mono ?_; rintro e w' ⟨rfl, rfl⟩)
  go_loop [10, 11] (fun o i => ∃ k : Int, 1 ≤ k ∧ k ≤ y ∧ i = .int .i64 k ∧ o = .int .i64 (d - 1 + Cal.dby k)) (fun _ i => (y - intOf i).toNat)
  case atStart => exact ⟨1, by omega, by omega, rfl, by rw [Cal.dby_one]; congr 1; omega⟩
  case round =>
    obtain ⟨k, hk1, hk2, rfl, rfl⟩ := hrel
    have hb := dby_lo k hk1 (by omega)
    have hl := Cal.lp_01 k
    by_cases hlt : k < y
    · have hs := Lib.hid (Cal.dby_succ k)
      go_wp2_with (go_at_call 18; refine (year_any _ hk1 (by omega) _).mono ?_; rintro e w' ⟨rfl, rfl⟩)
      go_round
      case rel =>
        refine ⟨k + 1, by omega, by omega, rfl, ?_⟩
        rw [hs.out]
        congr 1; omega
      case measure => simp [intOf]; omega
    · obtain rfl : k = y := by omega
      clear hlt
      go_wp2
      go_loop [10, 12] (fun o i => ∃ j : Int, 1 ≤ j ∧ j ≤ m ∧ i = .int .i64 j ∧ o = .int .i64 (Cal.dby k + Cal.cum k j + d - 1)) (fun _ i => (m - intOf i).toNat)
      case atStart => exact ⟨1, by omega, by omega, rfl, by rw [Cal.cum_one]; congr 1; omega⟩
      case round =>
        obtain ⟨j, hj1, hj2, rfl, rfl⟩ := hrel
        have hc := cum_lo k j hj1 (by omega)
        have hd := Cal.dim_bd k j
        by_cases hlt : j < m
        · have hs := Lib.hid (Cal.cum_succ k j hj1 (by omega))
          go_wp2_with (go_at_call 19; refine (rlast_yes _ _ h1 h2 hj1 (by omega) _).mono ?_; rintro e w' ⟨rfl, rfl⟩)
          go_round
          case rel =>
            refine ⟨j + 1, by omega, by omega, rfl, ?_⟩
            rw [hs.out]
            congr 1; omega
          case measure => simp [intOf]; omega
        · obtain rfl : j = m := by omega
          clear hlt
          go_wp2
          go_ret2
          exact ⟨rfl, rfl⟩

theorem rdays_no (y m d : Int) (hv : ¬ Cal.Valid y m d) (w : World) :
    Calls Tryd.prog 27 #[.int .i64 y, .int .i64 m, .int .i64 d] w fun e w' => e = .returned (.tuple #[.int .i64 0, .int .i64 1]) ∧ w = w' := by
  by_cases c : 1 ≤ y ∧ y ≤ 9999 ∧ 1 ≤ m ∧ m ≤ 12
  · obtain ⟨h1, h2, h3, h4⟩ := c
    by_cases c5 : d < 1
    · go_enter Tryd.func27, Tryd.ntmps27
      go_wp2_with (go_at_call 19; refine (rlast_yes _ _ h1 h2 h3 h4 _).mono ?_; rintro e w' ⟨rfl, rfl⟩)
      go_ret2
      exact ⟨rfl, rfl⟩
    · have c6 : Cal.dim y m < d := by unfold Cal.Valid at hv; omega
      clear hv
      go_enter Tryd.func27, Tryd.ntmps27
      go_wp2_with (go_at_call 19; refine (rlast_yes _ _ h1 h2 h3 h4 _).mono ?_; rintro e w' ⟨rfl, rfl⟩)
      go_ret2
      exact ⟨rfl, rfl⟩
  · clear hv
    have C := Lib.hid c; clear c
    go_enter Tryd.func27, Tryd.ntmps27
    go_wp2_with (go_at_call 19; refine (rlast_no _ _ C.out _).mono ?_; rintro e w' ⟨rfl, rfl⟩)
    go_ret2
    exact ⟨rfl, rfl⟩

/-- The date of a number: there is one, and it is the only one. -/
def IsDate (n y m d : Int) : Prop := Cal.Valid y m d ∧ Cal.num y m d = n
/-- What a call of Date comes to. -/
def DateOf (n : Int) (e : Ending) : Prop := ∃ y m d, IsDate n y m d ∧ e = .returned (.tuple #[.int .i64 y, .int .i64 m, .int .i64 d, .int .i64 0])

theorem dateOf_mk (n y m r : Int) (h1 : 1 ≤ y) (h2 : y ≤ 9999) (h3 : 1 ≤ m) (h4 : m ≤ 12) (h5 : 0 ≤ r) (h6 : r < Cal.dim y m) (h7 : n = Cal.dby y + Cal.cum y m + r) :
    DateOf n (.returned (.tuple #[.int .i64 y, .int .i64 m, .int .i64 (r + 1), .int .i64 0])) :=
  ⟨y, m, r + 1, ⟨⟨h1, h2, h3, h4, by omega, by omega⟩, by unfold Cal.num; omega⟩, rfl⟩

theorem rdate_no (n : Int) (h : ¬ (0 ≤ n ∧ n ≤ 3652058)) (w : World) :
    Calls Tryd.prog 9 #[.int .i64 n] w fun e w' => e = .returned (.tuple #[.int .i64 0, .int .i64 0, .int .i64 0, .int .i64 1]) ∧ w = w' := by
  by_cases c : n < 0
  · go_enter Tryd.func9, Tryd.ntmps9
    go_wp2
    exact bodyPost_ret (results_tmp4 rfl _ _ _) rfl ⟨rfl, rfl⟩
  · have c2 : 3652058 < n := by omega
    go_enter Tryd.func9, Tryd.ntmps9
    go_wp2
    exact bodyPost_ret (results_tmp4 rfl _ _ _) rfl ⟨rfl, rfl⟩

theorem rdate_yes (n : Int) (h1 : 0 ≤ n) (h2 : n ≤ 3652058) (w : World) :
    Calls Tryd.prog 9 #[.int .i64 n] w fun e w' => DateOf n e ∧ w = w' := by
  go_enter Tryd.func9, Tryd.ntmps9
  go_wp2
  go_loop [0, 6] (fun r i => ∃ y : Int, 1 ≤ y ∧ y ≤ 9999 ∧ Cal.dby y ≤ n ∧ i = .int .i64 y ∧ r = .int .i64 (n - Cal.dby y)) (fun _ i => (9999 - intOf i).toNat)
  case atStart => exact ⟨1, by omega, by omega, by rw [Cal.dby_one]; omega, rfl, by rw [Cal.dby_one]; congr 1; omega⟩
  case round =>
    obtain ⟨y, hy1, hy2, hyn, rfl, rfl⟩ := hrel
    have hb := dby_lo y hy1 (by omega)
    have hl := Cal.lp_01 y
    by_cases hlt : n - Cal.dby y < 365 + Cal.lp y
    · have hce := Lib.hid (Cal.cum_end y)
      go_wp2_with (go_at_call 18; refine (year_any _ hy1 hy2 _).mono ?_; rintro e w' ⟨rfl, rfl⟩)
      go_loop [0, 7] (fun r i => ∃ m : Int, 1 ≤ m ∧ m ≤ 12 ∧ Cal.dby y + Cal.cum y m ≤ n ∧ i = .int .i64 m ∧ r = .int .i64 (n - Cal.dby y - Cal.cum y m)) (fun _ i => (12 - intOf i).toNat)
      case atStart => exact ⟨1, by omega, by omega, by rw [Cal.cum_one]; omega, rfl, by rw [Cal.cum_one]; congr 1; omega⟩
      case round =>
        obtain ⟨m, hm1, hm2, hmn, rfl, rfl⟩ := hrel
        have hc := cum_lo y m hm1 hm2
        have hd := Cal.dim_bd y m
        by_cases hlt2 : n - Cal.dby y - Cal.cum y m < Cal.dim y m
        · go_wp2_with (go_at_call 19; refine (rlast_yes _ _ hy1 hy2 hm1 hm2 _).mono ?_; rintro e w' ⟨rfl, rfl⟩)
          refine bodyPost_ret (results_tmp4 rfl _ _ _) rfl ⟨?_, rfl⟩
          exact dateOf_mk n y m _ hy1 hy2 hm1 hm2 (by omega) hlt2 (by omega)
        · have hs := Cal.cum_succ y m hm1 hm2
          have hm12 : m < 12 := by
            rcases Int.lt_or_eq_of_le hm2 with h | rfl
            · exact h
            · have := hce.out; have e : Cal.cum y (12 + 1) = Cal.cum y 13 := rfl; omega
          have HS := Lib.hid hs; clear hs
          go_wp2_with (go_at_call 19; refine (rlast_yes _ _ hy1 hy2 hm1 hm2 _).mono ?_; rintro e w' ⟨rfl, rfl⟩)
          go_round
          case rel =>
            have e := HS.out
            refine ⟨m + 1, by omega, by omega, by omega, rfl, ?_⟩
            rw [e]; congr 1; omega
          case measure => simp [intOf]; omega
    · have hs := Cal.dby_succ y
      have hy : y < 9999 := by
        rcases Int.lt_or_eq_of_le hy2 with h | rfl
        · exact h
        · have := Cal.dby_max; have e : Cal.dby (9999 + 1) = Cal.dby 10000 := rfl; omega
      have HS := Lib.hid hs; clear hs
      go_wp2_with (go_at_call 18; refine (year_any _ hy1 hy2 _).mono ?_; rintro e w' ⟨rfl, rfl⟩)
      go_round
      case rel =>
        have e := HS.out
        refine ⟨y + 1, by omega, by omega, by omega, rfl, ?_⟩
        rw [e]; congr 1; omega
      case measure => simp [intOf]; omega
end Go.Proofs.YtfifbcniilaehaaDoor
