/- The contract of MulDiv of numbers from 0 on; what is asked of the rows of numbers of the call's own. -/
import Derived.Test.YtkgoaodpjeonnaaNum
namespace Go.Proofs.Ytkgoaodpjeonnaa
open Go.RowKit

theorem is3 (a b c : Int) (h : allIn (-4611686018427387904) 4611686018427387904 [a, b, c] = true) (w : World) (H : Nat) (hH : w.heap.size = H) :
    Calls Try.prog 30 #[.slice (some ⟨H, 0, none⟩) 3 3] (w.alloc (.cells #[.int .i64 a, .int .i64 b, .int .i64 c] 2)) fun e w' => e = .returned (.bool true) ∧ Below w.heap.size w w' := by
  subst hH
  refine (is_any w.heap.size [a, b, c] (by simp) _ (holds_new w [a, b, c] 2)).mono ?_
  rintro e w' ⟨rfl, rfl⟩
  exact ⟨by rw [h], (Below.refl _ _).alloc (Nat.le_refl _) _⟩
theorem money1 (a : Int) (b : Bool) (h : b = allIn 0 1125899906842624 [a]) (w : World) (H : Nat) (hH : w.heap.size = H) :
    Calls Try.prog 41 #[.slice (some ⟨H, 0, none⟩) 1 1] (w.alloc (.cells #[.int .i64 a] 2)) fun e w' => e = .returned (.bool b) ∧ Below w.heap.size w w' := by
  subst hH
  refine (money_any w.heap.size [a] (by simp) _ (holds_new w [a] 2)).mono ?_
  rintro e w' ⟨rfl, rfl⟩
  exact ⟨by rw [h], (Below.refl _ _).alloc (Nat.le_refl _) _⟩
theorem money3 (a b c : Int) (x : Bool) (h : x = allIn 0 1125899906842624 [a, b, c]) (w : World) (H : Nat) (hH : w.heap.size = H) :
    Calls Try.prog 41 #[.slice (some ⟨H, 0, none⟩) 3 3] (w.alloc (.cells #[.int .i64 a, .int .i64 b, .int .i64 c] 2)) fun e w' => e = .returned (.bool x) ∧ Below w.heap.size w w' := by
  subst hH
  refine (money_any w.heap.size [a, b, c] (by simp) _ (holds_new w [a, b, c] 2)).mono ?_
  rintro e w' ⟨rfl, rfl⟩
  exact ⟨by rw [h], (Below.refl _ _).alloc (Nat.le_refl _) _⟩
theorem day2 (a b : Int) (x : Bool) (h : x = allIn 0 3652058 [a, b]) (w : World) (H : Nat) (hH : w.heap.size = H) :
    Calls Try.prog 42 #[.slice (some ⟨H, 0, none⟩) 2 2] (w.alloc (.cells #[.int .i64 a, .int .i64 b] 3)) fun e w' => e = .returned (.bool x) ∧ Below w.heap.size w w' := by
  subst hH
  refine (day_any w.heap.size [a, b] (by simp) _ (holds_new w [a, b] 3)).mono ?_
  rintro e w' ⟨rfl, rfl⟩
  exact ⟨by rw [h], (Below.refl _ _).alloc (Nat.le_refl _) _⟩
theorem div_any (h l y : Nat) (hhy : h < y) (hy2 : y < 18446744073709551616) (hl : l < 18446744073709551616) (w : World) :
    Calls Try.prog 47 #[.int .u64 (h : Int), .int .u64 (l : Int), .int .u64 (y : Int)] w fun e w' => DivOf h l y e ∧ Below w.heap.size w w' := by
  rcases Nat.eq_zero_or_pos h with h0 | h0
  · subst h0; exact div_low l y hhy hy2 hl w
  · exact div_high h l y h0 hhy hy2 hl w
/-- What MulDiv hands back. -/
def MulOf (a b c : Nat) (e : Ending) : Prop := (a * b / c ≤ 4611686018427387904 ∧ e = .returned (.tuple #[.int .i64 ((a * b / c : Nat) : Int), .int .i64 0])) ∨ (4611686018427387904 < a * b / c ∧ e = .returned (.tuple #[.int .i64 0, .int .i64 2]))
def DividedOf (a b c : Nat) (e : Ending) : Prop := (a * b / c ≤ 4611686018427387904 ∧ ∃ r : Nat, e = .returned (.tuple #[.int .i64 ((a * b / c : Nat) : Int), .int .i64 (r : Int), .int .i64 0])) ∨ (4611686018427387904 < a * b / c ∧ e = .returned (.tuple #[.int .i64 0, .int .i64 0, .int .i64 2]))
theorem results_tmp3' {fn : Func} {t u v : Tmp} (h : fn.results = #[.tmp t, .tmp u, .tmp v]) (tmps : Array Value) (P : Program) (w : World) :
    (results fn tmps).run P w = .ok (.tuple #[tmps.getD t undef, tmps.getD u undef, tmps.getD v undef]) w := by simp [results, h]
set_option maxHeartbeats 400000 in
set_option maxRecDepth 100000 in
theorem divided_any (a b c : Nat) (ha : a ≤ 4611686018427387904) (hb : b ≤ 4611686018427387904) (hc : 1 ≤ c) (hc2 : c ≤ 4611686018427387904) (w : World) :
    Calls Try.prog 31 #[.int .i64 (a : Int), .int .i64 (b : Int), .int .i64 (c : Int)] w fun e w' => DividedOf a b c e ∧ Below w.heap.size w w' := by
  have hw : Dv.W64 = 18446744073709551616 := rfl
  obtain ⟨N, hN⟩ : ∃ N, N = a * b := ⟨_, rfl⟩
  obtain ⟨h, hh⟩ : ∃ h, h = N / 18446744073709551616 := ⟨_, rfl⟩
  obtain ⟨l, hl⟩ : ∃ l, l = N % 18446744073709551616 := ⟨_, rfl⟩
  obtain ⟨q, hq⟩ : ∃ q, q = N / c := ⟨_, rfl⟩
  obtain ⟨r, hr⟩ : ∃ r, r = N % c := ⟨_, rfl⟩
  have hNl : N = h * 18446744073709551616 + l := by omega
  have hrc : r < c := by rw [hr]; exact Nat.mod_lt _ hc
  have C := Try.bits_Mul64 a b (by omega) (by omega)
  rw [← hN, ← hh, ← hl] at C
  have HC := Lib.hid C; clear C
  have hl64 : l < 18446744073709551616 := by omega
  have hR : ∀ e, DividedOf a b c e = ((q ≤ 4611686018427387904 ∧ ∃ r : Nat, e = .returned (.tuple #[.int .i64 (q : Int), .int .i64 (r : Int), .int .i64 0])) ∨ (4611686018427387904 < q ∧ e = .returned (.tuple #[.int .i64 0, .int .i64 0, .int .i64 2]))) := fun e => by
    unfold DividedOf; rw [← hN, ← hq]
  have HR := Lib.hid hR; clear hR
  by_cases hhc : c ≤ h
  · have hq2 : 4611686018427387904 < q := by
      rw [hq]
      have : c * 18446744073709551616 ≤ h * 18446744073709551616 := Nat.mul_le_mul_right _ hhc
      have h2 : 18446744073709551616 ≤ N / c := (Nat.le_div_iff_mul_le hc).2 (by rw [Nat.mul_comm]; omega)
      omega
    have HQ := Lib.hid hq2
    clear hN hh hl hq hr hNl hq2
    go_enter Try.func31, Try.ntmps31
    go_wp2_with fail
    refine (size_any a ha _).mono ?_
    rintro e w' ⟨rfl, rfl⟩
    go_wp2_with fail
    refine (size_any b hb _).mono ?_
    rintro e w' ⟨rfl, rfl⟩
    go_wp2_with fail
    refine (HC.out _).mono ?_
    rintro e w' ⟨rfl, rfl⟩
    go_wp2_with fail
    refine bodyPost_ret (results_tmp3' rfl _ _ _) rfl ?_
    exact ⟨by rw [HR.out]; exact .inr ⟨HQ.out, rfl⟩, Below.refl _ _⟩
  · have CD := div_any h l c (by omega) (by omega) hl64
    unfold DivOf at CD
    rw [hw, ← hNl, ← hq, ← hr] at CD
    have HD := Lib.hid CD; clear CD
    clear hN hh hl hq hr hNl
    by_cases hq2 : q ≤ 4611686018427387904
    · have HQ := Lib.hid hq2
      go_enter Try.func31, Try.ntmps31
      go_wp2_with fail
      refine (size_any a ha _).mono ?_
      rintro e w' ⟨rfl, rfl⟩
      go_wp2_with fail
      refine (size_any b hb _).mono ?_
      rintro e w' ⟨rfl, rfl⟩
      go_wp2_with fail
      refine (HC.out _).mono ?_
      rintro e w' ⟨rfl, rfl⟩
      go_wp2_with fail
      refine (HD.out _).mono ?_
      rintro e w1 ⟨rfl, hb1⟩
      go_wp2_with fail
      refine bodyPost_ret (results_tmp3' rfl _ _ _) rfl ?_
      exact ⟨by rw [HR.out]; exact .inl ⟨HQ.out, r, rfl⟩, hb1⟩
    · have hq3 : 4611686018427387904 < q := by omega
      have HQ := Lib.hid hq3
      go_enter Try.func31, Try.ntmps31
      go_wp2_with fail
      refine (size_any a ha _).mono ?_
      rintro e w' ⟨rfl, rfl⟩
      go_wp2_with fail
      refine (size_any b hb _).mono ?_
      rintro e w' ⟨rfl, rfl⟩
      go_wp2_with fail
      refine (HC.out _).mono ?_
      rintro e w' ⟨rfl, rfl⟩
      go_wp2_with fail
      refine (HD.out _).mono ?_
      rintro e w1 ⟨rfl, hb1⟩
      go_wp2_with fail
      refine bodyPost_ret (results_tmp3' rfl _ _ _) rfl ?_
      exact ⟨by rw [HR.out]; exact .inr ⟨HQ.out, rfl⟩, hb1⟩
set_option maxRecDepth 100000 in
theorem muldiv_any (a b c : Nat) (ha : a ≤ 4611686018427387904) (hb : b ≤ 4611686018427387904) (hc : 1 ≤ c) (hc2 : c ≤ 4611686018427387904) (w : World) :
    Calls Try.prog 14 #[.int .i64 (a : Int), .int .i64 (b : Int), .int .i64 (c : Int)] w fun e w' => MulOf a b c e ∧ Below w.heap.size w w' := by
  have hin : allIn (-4611686018427387904) 4611686018427387904 [(a : Int), (b : Int), (c : Int)] = true := allIn_iff.2 (by
    intro x hx; simp at hx; rcases hx with rfl | rfl | rfl <;> omega)
  have HI := Lib.hid hin; clear hin
  go_enter Try.func14, Try.ntmps14
  go_wp2_with fail
  refine (is3 _ _ _ HI.out _ _ rfl).mono ?_
  rintro e w1 ⟨rfl, hb1⟩
  go_wp2_with fail
  refine (divided_any a b c ha hb hc hc2 _).mono ?_
  rintro e w2 ⟨hd, hb2⟩
  rcases hd with ⟨hq, r, rfl⟩ | ⟨hq, rfl⟩
  · have HQ := Lib.hid hq; clear hq
    obtain ⟨q, hq⟩ : ∃ q, q = a * b / c := ⟨_, rfl⟩
    rw [← hq]
    have HQE := Lib.hid hq; clear hq
    go_wp2_with fail
    go_ret2
    exact ⟨.inl ⟨HQ.out, by rw [← HQE.out]; rfl⟩, hb1.trans (hb2.mono hb1.size)⟩
  · have HQ := Lib.hid hq; clear hq
    go_wp2_with fail
    go_ret2
    exact ⟨.inr ⟨HQ.out, rfl⟩, hb1.trans (hb2.mono hb1.size)⟩
theorem mulOf_get {a b c : Nat} {e : Ending} (h : MulOf a b c e) : ∃ q : Int, ∃ x : Int, 0 ≤ q ∧ q ≤ 4611686018427387904 ∧ (q = if a * b / c ≤ 4611686018427387904 then ((a * b / c : Nat) : Int) else 0) ∧ e = .returned (.tuple #[.int .i64 q, .int .i64 x]) := by
  unfold MulOf at h
  generalize a * b / c = q at *
  rcases h with ⟨h, rfl⟩ | ⟨h, rfl⟩
  · exact ⟨_, _, by omega, by omega, by rw [if_pos h], rfl⟩
  · exact ⟨_, _, by omega, by omega, by rw [if_neg (by omega)], rfl⟩
end Go.Proofs.Ytkgoaodpjeonnaa
