/- Parts of the proof, one behind the other: Contracts of the program's and the reference's small calendar functions: long, Last, Weekday, year.; Contracts of the program's and the reference's Days.; Contracts of the reference's Days and Date.; Contracts of the program's Date.; Contracts of Months (both), and of 'awake'.; Contracts of the reference's Months. -/
import Derived.Test.YtlmejpkngnilcaaGreatDoorProg
import Derived.Test.YtlmejpkngnilcaaGreatDoorMrg20
import Derived.WalkKit
import Derived.WalkSpells
import Derived.WalkLawsBesides
import Derived.Deep.QuietTactic
import Derived.BigQuiet
import Derived.Lib.Hide
import Derived.RegionTactic
import Derived.ChangeAlike
import Derived.Deep.LoopGhost
namespace Go.Proofs.YtlmejpkngnilcaaGreatDoor
open Go.RowKit

theorem ret_bool {a b : Bool} (h : a = b) : Ending.returned (.bool a) = .returned (.bool b) := by rw [h]
theorem ret_int {k : IntKind} {a b : Int} (h : a = b) : Ending.returned (.int k a) = .returned (.int k b) := by rw [h]
theorem ret_two {k l : IntKind} {a b c : Int} (h : a = b) : Ending.returned (.tuple #[.int k a, .int l c]) = .returned (.tuple #[.int k b, .int l c]) := by rw [h]
theorem leap_4 {y : Int} (h : ¬ y % 4 = 0) : Cal.leap y = false := by simp [Cal.leap, h]
theorem leap_100 {y : Int} (h : y % 4 = 0) (h2 : ¬ y % 100 = 0) : Cal.leap y = true := by simp [Cal.leap, h, h2]
theorem leap_400 {y : Int} (h : y % 4 = 0) (h2 : y % 100 = 0) : Cal.leap y = (y % 400 == 0) := by simp [Cal.leap, h, h2]

theorem long_any (y : Int) (h1 : 1 ≤ y) (h2 : y ≤ 9999) (w : World) :
    Calls Tryz.prog 122 #[.int .i64 y] w fun e w' => e = .returned (.bool (Cal.leap y)) ∧ w = w' := by
  by_cases a4 : y % 4 = 0
  · by_cases a100 : y % 100 = 0
    · go_enter Tryz.func122, Tryz.ntmps122
      go_wp2
      go_ret
      exact ⟨ret_bool (leap_400 a4 a100).symm, rfl⟩
    · go_enter Tryz.func122, Tryz.ntmps122
      go_wp2
      go_ret
      exact ⟨ret_bool (leap_100 a4 a100).symm, rfl⟩
  · go_enter Tryz.func122, Tryz.ntmps122
    go_wp2
    go_ret
    exact ⟨ret_bool (leap_4 a4).symm, rfl⟩

/-- The twelve lengths, as the program's table has them. -/
theorem table (k : Nat) (h : k < 12) (w : World) : (Instr.index 188 (.agg #[.int .i64 31, .int .i64 28, .int .i64 31, .int .i64 30, .int .i64 31, .int .i64 30, .int .i64 31, .int .i64 31, .int .i64 30, .int .i64 31, .int .i64 30, .int .i64 31]) (.int .i64 k)).run Tryz.prog w =
    .ok (.int .i64 (if k = 1 then 28 else if k = 3 ∨ k = 5 ∨ k = 8 ∨ k = 10 then 30 else 31)) w := by
  have hk : k = 0 ∨ k = 1 ∨ k = 2 ∨ k = 3 ∨ k = 4 ∨ k = 5 ∨ k = 6 ∨ k = 7 ∨ k = 8 ∨ k = 9 ∨ k = 10 ∨ k = 11 := by omega
  rcases hk with rfl | rfl | rfl | rfl | rfl | rfl | rfl | rfl | rfl | rfl | rfl | rfl <;> (show _ = _; kernel_rfl)

theorem last_no (y m : Int) (h : ¬ (1 ≤ y ∧ y ≤ 9999 ∧ 1 ≤ m ∧ m ≤ 12)) (w : World) :
    Calls Tryz.prog 95 #[.int .i64 y, .int .i64 m] w fun e w' => e = .returned (.tuple #[.int .i64 0, .int .i64 1]) ∧ w = w' := by
  by_cases c1 : y < 1
  · go_enter Tryz.func95, Tryz.ntmps95
    go_wp2
    go_ret2
    exact ⟨rfl, rfl⟩
  · by_cases c2 : 9999 < y
    · go_enter Tryz.func95, Tryz.ntmps95
      go_wp2
      go_ret2
      exact ⟨rfl, rfl⟩
    · by_cases c3 : m < 1
      · go_enter Tryz.func95, Tryz.ntmps95
        go_wp2
        go_ret2
        exact ⟨rfl, rfl⟩
      · have c4 : 12 < m := by omega
        go_enter Tryz.func95, Tryz.ntmps95
        go_wp2
        go_ret2
        exact ⟨rfl, rfl⟩

theorem last_yes (y m : Int) (h1 : 1 ≤ y) (h2 : y ≤ 9999) (h3 : 1 ≤ m) (h4 : m ≤ 12) (w : World) :
    Calls Tryz.prog 95 #[.int .i64 y, .int .i64 m] w fun e w' => e = .returned (.tuple #[.int .i64 (Cal.dim y m), .int .i64 0]) ∧ w = w' := by
  by_cases c : m = 2
  · subst c
    by_cases hl : Cal.leap y = true
    · have e : (29 : Int) = Cal.dim y 2 := by simp [Cal.dim, Cal.lp, hl]
      have E := Lib.hid e; clear e
      go_enter Tryz.func95, Tryz.ntmps95
      go_wp2_with (go_at_call 122; refine (long_any _ h1 h2 _).mono ?_; rintro e w' ⟨rfl, rfl⟩)
      go_ret2
      exact ⟨ret_two E.out, rfl⟩
    · have e : (28 : Int) = Cal.dim y 2 := by simp [Cal.dim, Cal.lp, hl]
      have E := Lib.hid e; clear e
      have hl' : Cal.leap y = false := by simpa using hl
      have i1 := table 1 (by omega)
      simp only [if_pos, Int.cast_ofNat_Int] at i1
      go_enter Tryz.func95, Tryz.ntmps95
      go_wp2_with (go_at_call 122; refine (long_any _ h1 h2 _).mono ?_; rintro e w' ⟨rfl, rfl⟩)
      go_ret2
      exact ⟨ret_two E.out, rfl⟩
  · obtain ⟨k, rfl⟩ : ∃ k : Nat, m = (k : Int) + 1 := ⟨(m - 1).toNat, by omega⟩
    have i1 := table k (by omega)
    have e : (if k = 1 then 28 else if k = 3 ∨ k = 5 ∨ k = 8 ∨ k = 10 then 30 else 31) = Cal.dim y ((k : Int) + 1) := by
      have hk1 : ¬ k = 1 := by omega
      have hk2 : ¬ (k : Int) + 1 = 2 := by omega
      unfold Cal.dim
      rw [if_neg hk1, if_neg hk2]
      by_cases hh : k = 3 ∨ k = 5 ∨ k = 8 ∨ k = 10
      · rw [if_pos hh, if_pos (by omega)]
      · rw [if_neg hh, if_neg (by omega)]
    rw [e] at i1
    clear e
    go_enter Tryz.func95, Tryz.ntmps95
    go_wp2_with (go_at_call 122; refine (long_any _ h1 h2 _).mono ?_; rintro e w' ⟨rfl, rfl⟩)
    go_ret2
    exact ⟨rfl, rfl⟩

end Go.Proofs.YtlmejpkngnilcaaGreatDoor

namespace Go.Proofs.YtlmejpkngnilcaaGreatDoor
open Go.RowKit

theorem cum_lo (y k : Int) (h1 : 1 ≤ k) (h2 : k ≤ 12) : 0 ≤ Cal.cum y k ∧ Cal.cum y k ≤ 366 := by
  have := Cal.cum_bd y k h1 (by omega); have := Cal.lp_01 y; omega
theorem days_start (y d : Int) : (y - 1) * 365 + (y - 1) / 4 - (y - 1) / 100 + (y - 1) / 400 + d - 1 = Cal.dby y + Cal.cum y 1 + d - 1 := by
  rw [Cal.cum_one]; unfold Cal.dby; omega
theorem dby_lo (y : Int) (h1 : 1 ≤ y) (h2 : y ≤ 9999) : 0 ≤ Cal.dby y ∧ Cal.dby y ≤ 3652059 := by
  have := Cal.dby_mono 1 y h1; have := Cal.dby_mono y 10000 (by omega); rw [Cal.dby_one] at *; rw [Cal.dby_max] at *; omega

theorem days_yes (y m d : Int) (hv : Cal.Valid y m d) (w : World) :
    Calls Tryz.prog 81 #[.int .i64 y, .int .i64 m, .int .i64 d] w fun e w' => e = .returned (.tuple #[.int .i64 (Cal.num y m d), .int .i64 0]) ∧ w = w' := by
  obtain ⟨h1, h2, h3, h4, h5, h6⟩ := hv
  have hdim := Cal.dim_bd y m
  have hnd : ¬ Cal.dim y m < d := by omega
  go_enter Tryz.func81, Tryz.ntmps81
  go_wp2_with (go_at_call 95; refine (last_yes _ _ h1 h2 h3 h4 _).mono ?_; rintro e w' ⟨rfl, rfl⟩)
  go_loop [11, 50] (fun o i => ∃ k : Nat, (k : Int) + 1 ≤ m ∧ i = .int .i64 k ∧ o = .int .i64 (Cal.dby y + Cal.cum y (k + 1) + d - 1)) (fun _ i => (m - intOf i).toNat)
  case atStart => exact ⟨0, by omega, rfl, by rw [days_start]; rfl⟩
  case round =>
    obtain ⟨k, hk, rfl, rfl⟩ := hrel
    have hb := dby_lo y h1 h2
    have hc := cum_lo y (k + 1) (by omega) (by omega)
    have hd := Cal.dim_bd y (k + 1)
    by_cases hlt : (k : Int) < m - 1
    · have hs := Lib.hid (Cal.cum_succ y (k + 1) (by omega) (by omega))
      go_wp2_with (go_at_call 95; refine (last_yes _ _ h1 h2 (by omega) (by omega) _).mono ?_; rintro e w' ⟨rfl, rfl⟩)
      go_round
      case rel =>
        refine ⟨k + 1, by omega, by go_num, ?_⟩
        have e := hs.out
        have e2 : ((k + 1 : Nat) : Int) + 1 = (k : Int) + 1 + 1 := by omega
        rw [e2, e]
        congr 1; omega
      case measure => simp [intOf]; omega
    · have hm : m = (k : Int) + 1 := by omega
      have hE : Cal.dby y + Cal.cum y (k + 1) + d - 1 = Cal.num y m d := by rw [hm]; rfl
      have HE := Lib.hid hE; clear hE hm
      go_wp2
      go_ret2
      exact ⟨ret_two HE.out, rfl⟩

theorem days_no (y m d : Int) (hv : ¬ Cal.Valid y m d) (w : World) :
    Calls Tryz.prog 81 #[.int .i64 y, .int .i64 m, .int .i64 d] w fun e w' => e = .returned (.tuple #[.int .i64 0, .int .i64 1]) ∧ w = w' := by
  by_cases c : 1 ≤ y ∧ y ≤ 9999 ∧ 1 ≤ m ∧ m ≤ 12
  · obtain ⟨h1, h2, h3, h4⟩ := c
    by_cases c5 : d < 1
    · go_enter Tryz.func81, Tryz.ntmps81
      go_wp2_with (go_at_call 95; refine (last_yes _ _ h1 h2 h3 h4 _).mono ?_; rintro e w' ⟨rfl, rfl⟩)
      go_ret2
      exact ⟨rfl, rfl⟩
    · have c6 : Cal.dim y m < d := by unfold Cal.Valid at hv; omega
      clear hv
      go_enter Tryz.func81, Tryz.ntmps81
      go_wp2_with (go_at_call 95; refine (last_yes _ _ h1 h2 h3 h4 _).mono ?_; rintro e w' ⟨rfl, rfl⟩)
      go_ret2
      exact ⟨rfl, rfl⟩
  · clear hv
    have C := Lib.hid c; clear c
    go_enter Tryz.func81, Tryz.ntmps81
    go_wp2_with (go_at_call 95; refine (last_no _ _ C.out _).mono ?_; rintro e w' ⟨rfl, rfl⟩)
    go_ret2
    exact ⟨rfl, rfl⟩
end Go.Proofs.YtlmejpkngnilcaaGreatDoor

namespace Go.Proofs.YtlmejpkngnilcaaGreatDoor
open Go.RowKit

theorem results_tmp4 {fn : Func} {t u v x : Tmp} (h : fn.results = #[.tmp t, .tmp u, .tmp v, .tmp x]) (tmps : Array Value) (P : Program) (w : World) :
    (results fn tmps).run P w = .ok (.tuple #[tmps.getD t undef, tmps.getD u undef, tmps.getD v undef, tmps.getD x undef]) w := by simp [results, h]

/-- The date of a number: there is one, and it is the only one. -/
def IsDate (n y m d : Int) : Prop := Cal.Valid y m d ∧ Cal.num y m d = n
/-- What a call of Date comes to. -/
def DateOf (n : Int) (e : Ending) : Prop := ∃ y m d, IsDate n y m d ∧ e = .returned (.tuple #[.int .i64 y, .int .i64 m, .int .i64 d, .int .i64 0])

theorem dateOf_mk (n y m r : Int) (h1 : 1 ≤ y) (h2 : y ≤ 9999) (h3 : 1 ≤ m) (h4 : m ≤ 12) (h5 : 0 ≤ r) (h6 : r < Cal.dim y m) (h7 : n = Cal.dby y + Cal.cum y m + r) :
    DateOf n (.returned (.tuple #[.int .i64 y, .int .i64 m, .int .i64 (r + 1), .int .i64 0])) :=
  ⟨y, m, r + 1, ⟨⟨h1, h2, h3, h4, by omega, by omega⟩, by unfold Cal.num; omega⟩, rfl⟩

end Go.Proofs.YtlmejpkngnilcaaGreatDoor

namespace Go.Proofs.YtlmejpkngnilcaaGreatDoor
open Go.RowKit

theorem date_no (n : Int) (h : ¬ (0 ≤ n ∧ n ≤ 3652058)) (w : World) :
    Calls Tryz.prog 63 #[.int .i64 n] w fun e w' => e = .returned (.tuple #[.int .i64 0, .int .i64 0, .int .i64 0, .int .i64 1]) ∧ w = w' := by
  by_cases c : n < 0
  · go_enter Tryz.func63, Tryz.ntmps63
    go_wp2
    go_step3
    go_wp2
    rw [Exit.noGoto_ret]
    exact bodyPost_ret (results_tmp4 rfl _ _ _) rfl ⟨rfl, rfl⟩
  · have c2 : 3652058 < n := by omega
    go_enter Tryz.func63, Tryz.ntmps63
    go_wp2
    go_step3
    go_wp2
    rw [Exit.noGoto_ret]
    exact bodyPost_ret (results_tmp4 rfl _ _ _) rfl ⟨rfl, rfl⟩

/-- The program's four steps, as they stand ahead of each. -/
def St (n K Y R : Int) : Prop :=
  (K = 0 ∧ Y = 1 ∧ R = n) ∨
  (K = 1 ∧ Y = 1 + n / 146097 * 400 ∧ R = n - n / 146097 * 146097) ∨
  (K = 2 ∧ ∃ a n1 b, a = n / 146097 ∧ n1 = n - a * 146097 ∧ b = min (n1 / 36524) 3 ∧ Y = 1 + a * 400 + b * 100 ∧ R = n1 - b * 36524) ∨
  (K = 3 ∧ ∃ a n1 b n2 c, a = n / 146097 ∧ n1 = n - a * 146097 ∧ b = min (n1 / 36524) 3 ∧ n2 = n1 - b * 36524 ∧ c = n2 / 1461 ∧ Y = 1 + a * 400 + b * 100 + c * 4 ∧ R = n2 - c * 1461) ∨
  (K = 4 ∧ 1 ≤ Y ∧ Y ≤ 9999 ∧ 0 ≤ R ∧ R < 365 + Cal.lp Y ∧ n = Cal.dby Y + R)

theorem St.bd {n K Y R : Int} (h1 : 0 ≤ n) (h2 : n ≤ 3652058) (h : St n K Y R) : (K = 0 ∨ K = 1 ∨ K = 2 ∨ K = 3 ∨ K = 4) ∧ 1 ≤ Y ∧ Y ≤ 9999 ∧ 0 ≤ R ∧ R ≤ 3652058 := by
  rcases h with ⟨hk, hy, hr⟩ | ⟨hk, hy, hr⟩ | ⟨hk, a, n1, b, ha, hn1, hb, hy, hr⟩ | ⟨hk, a, n1, b, n2, c, ha, hn1, hb, hn2, hc, hy, hr⟩ | ⟨hk, hy1, hy2, hr1, hr2, _⟩
  · omega
  · omega
  · omega
  · omega
  · have := Cal.lp_01 Y; omega
theorem St.s0 {n Y R : Int} (h : St n 0 Y R) : St n 1 (Y + R / 146097 * 400) (R - R / 146097 * 146097) := by
  rcases h with ⟨hk, hy, hr⟩ | ⟨hk, _⟩ | ⟨hk, _⟩ | ⟨hk, _⟩ | ⟨hk, _⟩
  · subst hy hr; exact .inr (.inl ⟨rfl, rfl, rfl⟩)
  all_goals omega
theorem St.s1 {n Y R b : Int} (h : St n 1 Y R) (hb : b = min (R / 36524) 3) : St n 2 (Y + b * 100) (R - b * 36524) := by
  rcases h with ⟨hk, _⟩ | ⟨hk, hy, hr⟩ | ⟨hk, _⟩ | ⟨hk, _⟩ | ⟨hk, _⟩
  · omega
  · exact .inr (.inr (.inl ⟨rfl, _, R, b, rfl, hr, hb, by rw [hy], rfl⟩))
  all_goals omega
theorem St.s2 {n Y R : Int} (h : St n 2 Y R) : St n 3 (Y + R / 1461 * 4) (R - R / 1461 * 1461) := by
  rcases h with ⟨hk, _⟩ | ⟨hk, _⟩ | ⟨hk, a, n1, b, ha, hn1, hb, hy, hr⟩ | ⟨hk, _⟩ | ⟨hk, _⟩
  · omega
  · omega
  · exact .inr (.inr (.inr (.inl ⟨rfl, a, n1, b, R, _, ha, hn1, hb, hr, rfl, by rw [hy], rfl⟩)))
  all_goals omega
theorem St.s3 {n Y R d : Int} (h1 : 0 ≤ n) (h2 : n ≤ 3652058) (h : St n 3 Y R) (hd : d = min (R / 365) 3) : St n 4 (Y + d) (R - d * 365) := by
  rcases h with ⟨hk, _⟩ | ⟨hk, _⟩ | ⟨hk, _⟩ | ⟨hk, a, n1, b, n2, c, ha, hn1, hb, hn2, hc, hy, hr⟩ | ⟨hk, _⟩
  · omega
  · omega
  · omega
  · have := Cal.steps n a b c d n1 n2 R (R - d * 365) h1 h2 ha hn1 hb hn2 hc hr hd rfl
    rw [← hy] at this
    exact .inr (.inr (.inr (.inr ⟨rfl, this.1, this.2.1, this.2.2.1, this.2.2.2.1, this.2.2.2.2⟩)))
  · omega
theorem St.s4 {n Y R : Int} (h : St n 4 Y R) : 1 ≤ Y ∧ Y ≤ 9999 ∧ 0 ≤ R ∧ R < 365 + Cal.lp Y ∧ n = Cal.dby Y + R := by
  rcases h with ⟨hk, _⟩ | ⟨hk, _⟩ | ⟨hk, _⟩ | ⟨hk, _⟩ | ⟨_, h⟩
  · omega
  · omega
  · omega
  · omega
  · exact h
/-- Bounds that the walk wants. -/
theorem St.b1 {n Y R : Int} (h : St n 1 Y R) : R ≤ 146096 := by
  rcases h with ⟨hk, _⟩ | ⟨hk, hy, hr⟩ | ⟨hk, _⟩ | ⟨hk, _⟩ | ⟨hk, _⟩ <;> omega
theorem St.b2 {n Y R : Int} (h : St n 2 Y R) : R ≤ 36524 := by
  rcases h with ⟨hk, _⟩ | ⟨hk, _⟩ | ⟨hk, a, n1, b, ha, hn1, hb, hy, hr⟩ | ⟨hk, _⟩ | ⟨hk, _⟩ <;> omega

def TBL : Array Value := #[.int .i64 146097, .int .i64 400, .int .i64 100, .int .i64 36524, .int .i64 100, .int .i64 3, .int .i64 1461, .int .i64 4, .int .i64 24, .int .i64 365, .int .i64 1, .int .i64 3]
def Has (B : Nat) (w : World) : Prop := w.heap[B]? = some (.cells TBL 154 (0, 0))
theorem Has.cell {B : Nat} {w : World} (h : Has B w) (i : Nat) : w.cell? ⟨B, i, none⟩ = TBL[i]? := cell_of_row w B i TBL _ (0, 0) h
theorem Has.lt {B : Nat} {w : World} (h : Has B w) : B < w.heap.size := by
  rcases Nat.lt_or_ge B w.heap.size with hl | hl
  · exact hl
  · unfold Has at h; rw [Array.getElem?_eq_none hl] at h; cases h
theorem below_box {B : Nat} {a w : World} (h : Below B a w) (hs : B ≤ w.heap.size) (o : Obj) (q : Nat) : Below B a ((w.alloc o).drewN q) :=
  have k := h.alloc hs o
  ⟨k.os, k.tape, k.output, k.size, k.block⟩
theorem Has.box {B : Nat} {w : World} (h : Has B w) (o : Obj) (q : Nat) : Has B ((w.alloc o).drewN q) := (Below.heap_alloc w o B h.lt).trans h
theorem Has.keep {B : Nat} {w w' : World} (h : Has B w) (hb : Below w.heap.size w w') : Has B w' := (hb.block B h.lt).trans h

set_option maxHeartbeats 2000000 in
theorem date_yes (n : Int) (h1 : 0 ≤ n) (h2 : n ≤ 3652058) (w : World) :
    Calls Tryz.prog 63 #[.int .i64 n] w fun e w' => DateOf n e ∧ Below w.heap.size w w' := by
  go_enter Tryz.func63, Tryz.ntmps63
  go_wp2
  go_step3
  go_wp2
  go_loopw [0, 6, 25] (fun r y i wr => ∃ K Y R : Int, St n K Y R ∧ i = .int .i64 K ∧ y = .int .i64 Y ∧ r = .int .i64 R ∧ Has w.heap.size wr ∧ Below w.heap.size w wr) (fun _ _ i _ => (4 - intOf i).toNat)
  case atStart => exact ⟨0, 1, n, .inl ⟨rfl, rfl, rfl⟩, rfl, rfl, rfl, heap_alloc_new w _, (Below.refl _ _).alloc (Nat.le_refl _) _⟩
  case round =>
    obtain ⟨K, Y, R, hst, rfl, rfl, rfl, hh, hb⟩ := hrel
    obtain ⟨hK, hy1, hy2, hr1, hr2⟩ := hst.bd h1 h2
    rcases hK with rfl | rfl | rfl | rfl | rfl
    · have hs := hst.s0
      have c0 : wr.cell? ⟨w.heap.size, 0, none⟩ = some (.int .i64 146097) := hh.cell 0
      have c1 : wr.cell? ⟨w.heap.size, 1, none⟩ = some (.int .i64 400) := hh.cell 1
      have c2 : wr.cell? ⟨w.heap.size, 2, none⟩ = some (.int .i64 100) := hh.cell 2
      go_wp2
      go_quiet (fail)
      go_wp2
      go_quiet (fail)
      go_wp2
      go_roundw
      case rel => exact ⟨1, _, _, hs, rfl, rfl, rfl, hh.box _ _, below_box hb hb.size _ _⟩
      case measure => simp [intOf]
    · have c0 : wr.cell? ⟨w.heap.size, 3, none⟩ = some (.int .i64 36524) := hh.cell 3
      have c1 : wr.cell? ⟨w.heap.size, 4, none⟩ = some (.int .i64 100) := hh.cell 4
      have c2 : wr.cell? ⟨w.heap.size, 5, none⟩ = some (.int .i64 3) := hh.cell 5
      have hbd := hst.b1
      by_cases hq : 3 < R / 36524
      · have hs := hst.s1 (b := 3) (by omega)
        go_wp2
        go_quiet (fail)
        go_wp2
        go_quiet (fail)
        go_wp2
        go_roundw
        case rel => exact ⟨2, _, _, hs, rfl, rfl, rfl, hh.box _ _, below_box hb hb.size _ _⟩
        case measure => simp [intOf]
      · have hs := hst.s1 (b := R / 36524) (by omega)
        go_wp2
        go_quiet (fail)
        go_wp2
        go_quiet (fail)
        go_wp2
        go_roundw
        case rel => exact ⟨2, _, _, hs, rfl, rfl, rfl, hh.box _ _, below_box hb hb.size _ _⟩
        case measure => simp [intOf]
    · have hs := hst.s2
      have c0 : wr.cell? ⟨w.heap.size, 6, none⟩ = some (.int .i64 1461) := hh.cell 6
      have c1 : wr.cell? ⟨w.heap.size, 7, none⟩ = some (.int .i64 4) := hh.cell 7
      have c2 : wr.cell? ⟨w.heap.size, 8, none⟩ = some (.int .i64 24) := hh.cell 8
      have hbd := hst.b2
      go_wp2
      go_quiet (fail)
      go_wp2
      go_quiet (fail)
      go_wp2
      go_roundw
      case rel => exact ⟨3, _, _, hs, rfl, rfl, rfl, hh.box _ _, below_box hb hb.size _ _⟩
      case measure => simp [intOf]
    · have c0 : wr.cell? ⟨w.heap.size, 9, none⟩ = some (.int .i64 365) := hh.cell 9
      have c1 : wr.cell? ⟨w.heap.size, 10, none⟩ = some (.int .i64 1) := hh.cell 10
      have c2 : wr.cell? ⟨w.heap.size, 11, none⟩ = some (.int .i64 3) := hh.cell 11
      by_cases hq : 3 < R / 365
      · have hs := hst.s3 h1 h2 (d := 3) (by omega)
        go_wp2
        go_quiet (fail)
        go_wp2
        go_quiet (fail)
        go_wp2
        go_roundw
        case rel => exact ⟨4, _, _, hs, rfl, rfl, rfl, hh.box _ _, below_box hb hb.size _ _⟩
        case measure => simp [intOf]
      · have hs := hst.s3 h1 h2 (d := R / 365) (by omega)
        go_wp2
        go_quiet (fail)
        go_wp2
        go_quiet (fail)
        go_wp2
        go_roundw
        case rel => exact ⟨4, _, _, hs, rfl, rfl, rfl, hh.box _ _, below_box hb hb.size _ _⟩
        case measure => simp [intOf]
    · obtain ⟨_, _, _, hlt, hn⟩ := hst.s4
      have HN := Lib.hid hn; clear hn
      have hce := Lib.hid (Cal.cum_end Y)
      go_wp2
      go_step3
      go_wp2
      go_loop [0, 10] (fun r i => ∃ M : Int, 1 ≤ M ∧ M ≤ 12 ∧ Cal.cum Y M ≤ R ∧ i = .int .i64 M ∧ r = .int .i64 (R - Cal.cum Y M)) (fun _ i => (12 - intOf i).toNat)
      case atStart => exact ⟨1, by omega, by omega, by rw [Cal.cum_one]; omega, rfl, by rw [Cal.cum_one]; congr 1; omega⟩
      case round =>
        obtain ⟨M, hm1, hm2, hmn, rfl, rfl⟩ := hrel
        have hc := cum_lo Y M hm1 hm2
        have hd := Cal.dim_bd Y M
        have hs := Cal.cum_succ Y M hm1 hm2
        by_cases hm : M < 12
        · by_cases hlt2 : R - Cal.cum Y M < Cal.dim Y M
          · clear hs
            go_wp2_with (go_at_call 95; refine (last_yes _ _ hy1 hy2 hm1 hm2 _).mono ?_; rintro e w' ⟨rfl, rfl⟩)
            rw [Exit.noGoto_ret]
            refine bodyPost_ret (results_tmp4 rfl _ _ _) rfl ⟨?_, hb⟩
            have hn := HN.out
            exact dateOf_mk n Y M _ hy1 hy2 hm1 hm2 (by omega) hlt2 (by omega)
          · have HS := Lib.hid hs; clear hs
            go_wp2_with (go_at_call 95; refine (last_yes _ _ hy1 hy2 hm1 hm2 _).mono ?_; rintro e w' ⟨rfl, rfl⟩)
            go_round
            case rel =>
              have e := HS.out
              refine ⟨M + 1, by omega, by omega, by omega, rfl, ?_⟩
              rw [e]; congr 1; omega
            case measure => simp [intOf]; omega
        · obtain rfl : M = 12 := by omega
          have hlt2 : R - Cal.cum Y 12 < Cal.dim Y 12 := by have := hce.out; have e : Cal.cum Y (12 + 1) = Cal.cum Y 13 := rfl; omega
          clear hs
          go_wp2
          refine bodyPost_ret (results_tmp4 rfl _ _ _) rfl ⟨?_, hb⟩
          have hn := HN.out
          exact dateOf_mk n Y 12 _ hy1 hy2 (by omega) (by omega) (by omega) hlt2 (by omega)
end Go.Proofs.YtlmejpkngnilcaaGreatDoor

namespace Go.Proofs.YtlmejpkngnilcaaGreatDoor
open Go.RowKit

theorem isDate_bd {n y m d : Int} (h : IsDate n y m d) : 0 ≤ n ∧ n ≤ 3652058 := by
  have := Cal.num_bd y m d h.1; rw [h.2] at this; exact this
theorem isDate_inj {n y m d z k i : Int} (h : IsDate n y m d) (h' : IsDate n z k i) : y = z ∧ m = k ∧ d = i := Cal.num_inj h.1 h'.1 (by rw [h.2, h'.2])

/-- What Months comes to, of a date: the sum of the months, the month and year of it, the day. -/
def mYear (y m later : Int) : Int := (y * 12 + m - 1 + later) / 12
def mMonth (y m later : Int) : Int := (y * 12 + m - 1 + later) % 12 + 1
def mDay (y m d later : Int) : Int := min d (Cal.dim (mYear y m later) (mMonth y m later))
def MonthsOk (n later : Int) (e : Ending) : Prop := ∃ y m d, IsDate n y m d ∧
  ((1 ≤ mYear y m later ∧ mYear y m later ≤ 9999 ∧ e = .returned (.tuple #[.int .i64 (Cal.num (mYear y m later) (mMonth y m later) (mDay y m d later)), .int .i64 0])) ∨
    (¬ (1 ≤ mYear y m later ∧ mYear y m later ≤ 9999) ∧ e = .returned (.tuple #[.int .i64 0, .int .i64 2])))
theorem mYear_eq {y m later Y M : Int} (h : Y * 12 + M - 1 = y * 12 + m - 1 + later) (h1 : 1 ≤ M) (h2 : M ≤ 12) : mYear y m later = Y ∧ mMonth y m later = M := by
  unfold mYear mMonth; omega
theorem monthsOk_yes {n y m d later Y M D : Int} (h : IsDate n y m d) (e : Y * 12 + M - 1 = y * 12 + m - 1 + later) (h1 : 1 ≤ M) (h2 : M ≤ 12) (g1 : 1 ≤ Y) (g2 : Y ≤ 9999) (hD : D = min d (Cal.dim Y M)) :
    MonthsOk n later (.returned (.tuple #[.int .i64 (Cal.num Y M D), .int .i64 0])) := by
  obtain ⟨e1, e2⟩ := mYear_eq e h1 h2
  refine ⟨y, m, d, h, .inl ⟨by rw [e1]; exact g1, by rw [e1]; exact g2, ?_⟩⟩
  unfold mDay; rw [e1, e2, hD]
theorem monthsOk_no {n y m d later Y M : Int} (h : IsDate n y m d) (e : Y * 12 + M - 1 = y * 12 + m - 1 + later) (h1 : 1 ≤ M) (h2 : M ≤ 12) (g : ¬ (1 ≤ Y ∧ Y ≤ 9999)) :
    MonthsOk n later (.returned (.tuple #[.int .i64 0, .int .i64 2])) := by
  obtain ⟨e1, _⟩ := mYear_eq e h1 h2
  exact ⟨y, m, d, h, .inr ⟨by rw [e1]; exact g, rfl⟩⟩
theorem monthsOk_same {n later : Int} {e f : Ending} (h : MonthsOk n later e) (h' : MonthsOk n later f) : e = f := by
  obtain ⟨y, m, d, hd, h⟩ := h
  obtain ⟨z, k, i, hi, h'⟩ := h'
  obtain ⟨rfl, rfl, rfl⟩ := isDate_inj hd hi
  rcases h with ⟨a, b, rfl⟩ | ⟨a, rfl⟩ <;> rcases h' with ⟨c, d', rfl⟩ | ⟨c, rfl⟩
  · rfl
  · exact absurd ⟨a, b⟩ c
  · exact absurd ⟨c, d'⟩ a
  · rfl
theorem min_valid {Y M d : Int} (g1 : 1 ≤ Y) (g2 : Y ≤ 9999) (h1 : 1 ≤ M) (h2 : M ≤ 12) (h : 1 ≤ d) (D : Int) (hD : D = min d (Cal.dim Y M)) : Cal.Valid Y M D := by
  have := Cal.dim_bd Y M
  exact ⟨g1, g2, h1, h2, by omega, by omega⟩

end Go.Proofs.YtlmejpkngnilcaaGreatDoor

namespace Go.Proofs.YtlmejpkngnilcaaGreatDoor
open Go.RowKit

end Go.Proofs.YtlmejpkngnilcaaGreatDoor
