/- Contracts of the program's Date. -/
import Derived.Test.YtkgoaodpjeonnaaCivC
import Derived.RegionTactic
import Derived.ChangeAlike
import Derived.Deep.LoopGhost
namespace Go.Proofs.Ytkgoaodpjeonnaa
open Go.RowKit

theorem date_no (n : Int) (h : ¬ (0 ≤ n ∧ n ≤ 3652058)) (w : World) :
    Calls Try.prog 43 #[.int .i64 n] w fun e w' => e = .returned (.tuple #[.int .i64 0, .int .i64 0, .int .i64 0, .int .i64 1]) ∧ w = w' := by
  by_cases c : n < 0
  · go_enter Try.func43, Try.ntmps43
    go_wp2
    go_step3
    go_wp2
    rw [Exit.noGoto_ret]
    exact bodyPost_ret (results_tmp4 rfl _ _ _) rfl ⟨rfl, rfl⟩
  · have c2 : 3652058 < n := by omega
    go_enter Try.func43, Try.ntmps43
    go_wp2
    go_step3
    go_wp2
    rw [Exit.noGoto_ret]
    exact bodyPost_ret (results_tmp4 rfl _ _ _) rfl ⟨rfl, rfl⟩

/-- The program's four steps, as they stand ahead of each. -/
def St (n K Y R : Int) : Prop :=
  (K = 0 ∧ Y = 1 ∧ R = n) ∨
  (K = 1 ∧ Y = 1 + n / 146097 * 400 ∧ R = n - n / 146097 * 146097) ∨
  (K = 2 ∧ ∃ a n1 b, a = n / 146097 ∧ n1 = n - a * 146097 ∧ b = min (n1 / 36524) 3 ∧ Y = 1 + a * 400 + b * 100 ∧ R = n1 - b * 36524) ∨
  (K = 3 ∧ ∃ a n1 b n2 c, a = n / 146097 ∧ n1 = n - a * 146097 ∧ b = min (n1 / 36524) 3 ∧ n2 = n1 - b * 36524 ∧ c = n2 / 1461 ∧ Y = 1 + a * 400 + b * 100 + c * 4 ∧ R = n2 - c * 1461) ∨
  (K = 4 ∧ 1 ≤ Y ∧ Y ≤ 9999 ∧ 0 ≤ R ∧ R < 365 + Cal.lp Y ∧ n = Cal.dby Y + R)

theorem St.bd {n K Y R : Int} (h1 : 0 ≤ n) (h2 : n ≤ 3652058) (h : St n K Y R) : (K = 0 ∨ K = 1 ∨ K = 2 ∨ K = 3 ∨ K = 4) ∧ 1 ≤ Y ∧ Y ≤ 9999 ∧ 0 ≤ R ∧ R ≤ 3652058 := by
  rcases h with ⟨hk, hy, hr⟩ | ⟨hk, hy, hr⟩ | ⟨hk, a, n1, b, ha, hn1, hb, hy, hr⟩ | ⟨hk, a, n1, b, n2, c, ha, hn1, hb, hn2, hc, hy, hr⟩ | ⟨hk, hy1, hy2, hr1, hr2, _⟩
  · omega
  · omega
  · omega
  · omega
  · have := Cal.lp_01 Y; omega
theorem St.s0 {n Y R : Int} (h : St n 0 Y R) : St n 1 (Y + R / 146097 * 400) (R - R / 146097 * 146097) := by
  rcases h with ⟨hk, hy, hr⟩ | ⟨hk, _⟩ | ⟨hk, _⟩ | ⟨hk, _⟩ | ⟨hk, _⟩
  · subst hy hr; exact .inr (.inl ⟨rfl, rfl, rfl⟩)
  all_goals omega
theorem St.s1 {n Y R b : Int} (h : St n 1 Y R) (hb : b = min (R / 36524) 3) : St n 2 (Y + b * 100) (R - b * 36524) := by
  rcases h with ⟨hk, _⟩ | ⟨hk, hy, hr⟩ | ⟨hk, _⟩ | ⟨hk, _⟩ | ⟨hk, _⟩
  · omega
  · exact .inr (.inr (.inl ⟨rfl, _, R, b, rfl, hr, hb, by rw [hy], rfl⟩))
  all_goals omega
theorem St.s2 {n Y R : Int} (h : St n 2 Y R) : St n 3 (Y + R / 1461 * 4) (R - R / 1461 * 1461) := by
  rcases h with ⟨hk, _⟩ | ⟨hk, _⟩ | ⟨hk, a, n1, b, ha, hn1, hb, hy, hr⟩ | ⟨hk, _⟩ | ⟨hk, _⟩
  · omega
  · omega
  · exact .inr (.inr (.inr (.inl ⟨rfl, a, n1, b, R, _, ha, hn1, hb, hr, rfl, by rw [hy], rfl⟩)))
  all_goals omega
theorem St.s3 {n Y R d : Int} (h1 : 0 ≤ n) (h2 : n ≤ 3652058) (h : St n 3 Y R) (hd : d = min (R / 365) 3) : St n 4 (Y + d) (R - d * 365) := by
  rcases h with ⟨hk, _⟩ | ⟨hk, _⟩ | ⟨hk, _⟩ | ⟨hk, a, n1, b, n2, c, ha, hn1, hb, hn2, hc, hy, hr⟩ | ⟨hk, _⟩
  · omega
  · omega
  · omega
  · have := Cal.steps n a b c d n1 n2 R (R - d * 365) h1 h2 ha hn1 hb hn2 hc hr hd rfl
    rw [← hy] at this
    exact .inr (.inr (.inr (.inr ⟨rfl, this.1, this.2.1, this.2.2.1, this.2.2.2.1, this.2.2.2.2⟩)))
  · omega
theorem St.s4 {n Y R : Int} (h : St n 4 Y R) : 1 ≤ Y ∧ Y ≤ 9999 ∧ 0 ≤ R ∧ R < 365 + Cal.lp Y ∧ n = Cal.dby Y + R := by
  rcases h with ⟨hk, _⟩ | ⟨hk, _⟩ | ⟨hk, _⟩ | ⟨hk, _⟩ | ⟨_, h⟩
  · omega
  · omega
  · omega
  · omega
  · exact h
/-- Bounds that the walk wants. -/
theorem St.b1 {n Y R : Int} (h : St n 1 Y R) : R ≤ 146096 := by
  rcases h with ⟨hk, _⟩ | ⟨hk, hy, hr⟩ | ⟨hk, _⟩ | ⟨hk, _⟩ | ⟨hk, _⟩ <;> omega
theorem St.b2 {n Y R : Int} (h : St n 2 Y R) : R ≤ 36524 := by
  rcases h with ⟨hk, _⟩ | ⟨hk, _⟩ | ⟨hk, a, n1, b, ha, hn1, hb, hy, hr⟩ | ⟨hk, _⟩ | ⟨hk, _⟩ <;> omega

def TBL : Array Value := #[.int .i64 146097, .int .i64 400, .int .i64 100, .int .i64 36524, .int .i64 100, .int .i64 3, .int .i64 1461, .int .i64 4, .int .i64 24, .int .i64 365, .int .i64 1, .int .i64 3]
def Has (B : Nat) (w : World) : Prop := w.heap[B]? = some (.cells TBL 100 (0, 0))
theorem Has.cell {B : Nat} {w : World} (h : Has B w) (i : Nat) : w.cell? ⟨B, i, none⟩ = TBL[i]? := cell_of_row w B i TBL _ (0, 0) h
theorem Has.lt {B : Nat} {w : World} (h : Has B w) : B < w.heap.size := by
  rcases Nat.lt_or_ge B w.heap.size with hl | hl
  · exact hl
  · unfold Has at h; rw [Array.getElem?_eq_none hl] at h; cases h
theorem below_box {B : Nat} {a w : World} (h : Below B a w) (hs : B ≤ w.heap.size) (o : Obj) (q : Nat) : Below B a ((w.alloc o).drewN q) :=
  have k := h.alloc hs o
  ⟨k.os, k.tape, k.output, k.size, k.block⟩
theorem Has.box {B : Nat} {w : World} (h : Has B w) (o : Obj) (q : Nat) : Has B ((w.alloc o).drewN q) := (Below.heap_alloc w o B h.lt).trans h
theorem Has.keep {B : Nat} {w w' : World} (h : Has B w) (hb : Below w.heap.size w w') : Has B w' := (hb.block B h.lt).trans h

set_option maxHeartbeats 2000000 in
theorem date_yes (n : Int) (h1 : 0 ≤ n) (h2 : n ≤ 3652058) (w : World) :
    Calls Try.prog 43 #[.int .i64 n] w fun e w' => DateOf n e ∧ Below w.heap.size w w' := by
  go_enter Try.func43, Try.ntmps43
  go_wp2
  go_step3
  go_wp2
  go_loopw [0, 6, 25] (fun r y i wr => ∃ K Y R : Int, St n K Y R ∧ i = .int .i64 K ∧ y = .int .i64 Y ∧ r = .int .i64 R ∧ Has w.heap.size wr ∧ Below w.heap.size w wr) (fun _ _ i _ => (4 - intOf i).toNat)
  case atStart => exact ⟨0, 1, n, .inl ⟨rfl, rfl, rfl⟩, rfl, rfl, rfl, heap_alloc_new w _, (Below.refl _ _).alloc (Nat.le_refl _) _⟩
  case round =>
    obtain ⟨K, Y, R, hst, rfl, rfl, rfl, hh, hb⟩ := hrel
    obtain ⟨hK, hy1, hy2, hr1, hr2⟩ := hst.bd h1 h2
    rcases hK with rfl | rfl | rfl | rfl | rfl
    · have hs := hst.s0
      have c0 : wr.cell? ⟨w.heap.size, 0, none⟩ = some (.int .i64 146097) := hh.cell 0
      have c1 : wr.cell? ⟨w.heap.size, 1, none⟩ = some (.int .i64 400) := hh.cell 1
      have c2 : wr.cell? ⟨w.heap.size, 2, none⟩ = some (.int .i64 100) := hh.cell 2
      go_wp2
      go_quiet (fail)
      go_wp2
      go_quiet (fail)
      go_wp2
      go_roundw
      case rel => exact ⟨1, _, _, hs, rfl, rfl, rfl, hh.box _ _, below_box hb hb.size _ _⟩
      case measure => simp [intOf]
    · have c0 : wr.cell? ⟨w.heap.size, 3, none⟩ = some (.int .i64 36524) := hh.cell 3
      have c1 : wr.cell? ⟨w.heap.size, 4, none⟩ = some (.int .i64 100) := hh.cell 4
      have c2 : wr.cell? ⟨w.heap.size, 5, none⟩ = some (.int .i64 3) := hh.cell 5
      have hbd := hst.b1
      by_cases hq : 3 < R / 36524
      · have hs := hst.s1 (b := 3) (by omega)
        go_wp2
        go_quiet (fail)
        go_wp2
        go_quiet (fail)
        go_wp2
        go_roundw
        case rel => exact ⟨2, _, _, hs, rfl, rfl, rfl, hh.box _ _, below_box hb hb.size _ _⟩
        case measure => simp [intOf]
      · have hs := hst.s1 (b := R / 36524) (by omega)
        go_wp2
        go_quiet (fail)
        go_wp2
        go_quiet (fail)
        go_wp2
        go_roundw
        case rel => exact ⟨2, _, _, hs, rfl, rfl, rfl, hh.box _ _, below_box hb hb.size _ _⟩
        case measure => simp [intOf]
    · have hs := hst.s2
      have c0 : wr.cell? ⟨w.heap.size, 6, none⟩ = some (.int .i64 1461) := hh.cell 6
      have c1 : wr.cell? ⟨w.heap.size, 7, none⟩ = some (.int .i64 4) := hh.cell 7
      have c2 : wr.cell? ⟨w.heap.size, 8, none⟩ = some (.int .i64 24) := hh.cell 8
      have hbd := hst.b2
      go_wp2
      go_quiet (fail)
      go_wp2
      go_quiet (fail)
      go_wp2
      go_roundw
      case rel => exact ⟨3, _, _, hs, rfl, rfl, rfl, hh.box _ _, below_box hb hb.size _ _⟩
      case measure => simp [intOf]
    · have c0 : wr.cell? ⟨w.heap.size, 9, none⟩ = some (.int .i64 365) := hh.cell 9
      have c1 : wr.cell? ⟨w.heap.size, 10, none⟩ = some (.int .i64 1) := hh.cell 10
      have c2 : wr.cell? ⟨w.heap.size, 11, none⟩ = some (.int .i64 3) := hh.cell 11
      by_cases hq : 3 < R / 365
      · have hs := hst.s3 h1 h2 (d := 3) (by omega)
        go_wp2
        go_quiet (fail)
        go_wp2
        go_quiet (fail)
        go_wp2
        go_roundw
        case rel => exact ⟨4, _, _, hs, rfl, rfl, rfl, hh.box _ _, below_box hb hb.size _ _⟩
        case measure => simp [intOf]
      · have hs := hst.s3 h1 h2 (d := R / 365) (by omega)
        go_wp2
        go_quiet (fail)
        go_wp2
        go_quiet (fail)
        go_wp2
        go_roundw
        case rel => exact ⟨4, _, _, hs, rfl, rfl, rfl, hh.box _ _, below_box hb hb.size _ _⟩
        case measure => simp [intOf]
    · obtain ⟨_, _, _, hlt, hn⟩ := hst.s4
      have HN := Lib.hid hn; clear hn
      have hce := Lib.hid (Cal.cum_end Y)
      go_wp2
      go_step3
      go_wp2
      go_loop [0, 10] (fun r i => ∃ M : Int, 1 ≤ M ∧ M ≤ 12 ∧ Cal.cum Y M ≤ R ∧ i = .int .i64 M ∧ r = .int .i64 (R - Cal.cum Y M)) (fun _ i => (12 - intOf i).toNat)
      case atStart => exact ⟨1, by omega, by omega, by rw [Cal.cum_one]; omega, rfl, by rw [Cal.cum_one]; congr 1; omega⟩
      case round =>
        obtain ⟨M, hm1, hm2, hmn, rfl, rfl⟩ := hrel
        have hc := cum_lo Y M hm1 hm2
        have hd := Cal.dim_bd Y M
        have hs := Cal.cum_succ Y M hm1 hm2
        by_cases hm : M < 12
        · by_cases hlt2 : R - Cal.cum Y M < Cal.dim Y M
          · clear hs
            go_wp2_with (go_at_call 51; refine (last_yes _ _ hy1 hy2 hm1 hm2 _).mono ?_; rintro e w' ⟨rfl, rfl⟩)
            rw [Exit.noGoto_ret]
            refine bodyPost_ret (results_tmp4 rfl _ _ _) rfl ⟨?_, hb⟩
            have hn := HN.out
            exact dateOf_mk n Y M _ hy1 hy2 hm1 hm2 (by omega) hlt2 (by omega)
          · have HS := Lib.hid hs; clear hs
            go_wp2_with (go_at_call 51; refine (last_yes _ _ hy1 hy2 hm1 hm2 _).mono ?_; rintro e w' ⟨rfl, rfl⟩)
            go_round
            case rel =>
              have e := HS.out
              refine ⟨M + 1, by omega, by omega, by omega, rfl, ?_⟩
              rw [e]; congr 1; omega
            case measure => simp [intOf]; omega
        · obtain rfl : M = 12 := by omega
          have hlt2 : R - Cal.cum Y 12 < Cal.dim Y 12 := by have := hce.out; have e : Cal.cum Y (12 + 1) = Cal.cum Y 13 := rfl; omega
          clear hs
          go_wp2
          refine bodyPost_ret (results_tmp4 rfl _ _ _) rfl ⟨?_, hb⟩
          have hn := HN.out
          exact dateOf_mk n Y 12 _ hy1 hy2 (by omega) (by omega) (by omega) hlt2 (by omega)
end Go.Proofs.Ytkgoaodpjeonnaa
