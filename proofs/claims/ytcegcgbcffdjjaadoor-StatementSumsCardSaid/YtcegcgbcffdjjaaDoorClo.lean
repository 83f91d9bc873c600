/- Contracts of statement.Closing, few, awake. -/
import Derived.Test.YtcegcgbcffdjjaaDoorRig
import Derived.Test.YtcegcgbcffdjjaaDoorMon
namespace Go.Proofs.YtcegcgbcffdjjaaDoor
open Go.RowKit

def CloseP (O C : List Int) (w : World) (e : Ending) (w' : World) : Prop := Below w.heap.size w w' ∧ (e = .returned (.tuple #[.int .i64 0, .int .i64 0, .int .i64 1]) ∨
  ∃ a b : Int, e = .returned (.tuple #[.int .i64 a, .int .i64 b, .int .i64 0]) ∧ sumV O = .tuple #[.int .i64 a, .int .i64 0] ∧ sumV C = .tuple #[.int .i64 b, .int .i64 0])
set_option maxHeartbeats 1000000 in
theorem closing_any (id fr to_ owed credit : Int) (A A2 : Option Addr) (c c2 : Nat) (l : List Ln) (m : List It) (w : World) (hL : RdL w w.heap.size A l) (hT : RdT w w.heap.size A2 m) (hl : l.length ≤ 999) (hm : m.length ≤ 250) :
    Calls Tryd.prog 6 #[.agg #[.int .i64 id, .int .i64 fr, .int .i64 to_, .int .i64 owed, .int .i64 credit, .slice A l.length c, .slice A2 m.length c2]] w (CloseP (owed :: l.map Ln.owed) (credit :: l.map Ln.credit) w) := by
  have HB0 : ∀ o, Below w.heap.size w (w.alloc o) := fun o => (Below.refl _ _).alloc (Nat.le_refl _) _
  have KR := Lib.hid (fun o => right_any id fr to_ owed credit A A2 c c2 l m (w.alloc o) ((hL.below (HB0 o) (Nat.le_refl _)).more (by simp)) ((hT.below (HB0 o) (Nat.le_refl _)).more (by simp)) hl hm)
  have KS := Lib.hid (fun w1 (hb : Below w.heap.size w w1) => sums_any id fr to_ owed credit A A2 c m.length c2 l w1 ((hL.below hb (Nat.le_refl _)).more hb.size) hl)
  have HB0 := Lib.hid HB0
  clear hL hT
  go_enter Tryd.func6, Tryd.ntmps6
  go_wp2_with fail
  refine (KR.out _).mono ?_
  rintro e w1 ⟨hb1, b, rfl, hb⟩
  have HX1 : Hid (Below w.heap.size w w1) := Lib.hid ((HB0.out _).trans (hb1.mono (by simp)))
  have r0 : w1.cell? ⟨w.heap.size, 0, none⟩ = some (.int .i64 id) := by rw [hb1.cell (by simp)]; simp
  have r1 : w1.cell? ⟨w.heap.size, 1, none⟩ = some (.int .i64 fr) := by rw [hb1.cell (by simp)]; simp
  have r2 : w1.cell? ⟨w.heap.size, 2, none⟩ = some (.int .i64 to_) := by rw [hb1.cell (by simp)]; simp
  have r3 : w1.cell? ⟨w.heap.size, 3, none⟩ = some (.int .i64 owed) := by rw [hb1.cell (by simp)]; simp
  have r4 : w1.cell? ⟨w.heap.size, 4, none⟩ = some (.int .i64 credit) := by rw [hb1.cell (by simp)]; simp
  have r5 : w1.cell? ⟨w.heap.size, 5, none⟩ = some (.slice A l.length c) := by rw [hb1.cell (by simp)]; simp
  have r6 : w1.cell? ⟨w.heap.size, 6, none⟩ = some (.slice A2 m.length c2) := by rw [hb1.cell (by simp)]; simp
  clear hb1
  cases b
  · clear hb
    go_wp2_with fail
    refine bodyPost_ret (results_tmp3 rfl _ _ _) rfl ?_
    exact ⟨HX1.out, .inl rfl⟩
  · have HO := Lib.hid (hb rfl); clear hb
    go_wp2_with fail
    refine (KS.out _ HX1.out).mono ?_
    rintro e w2 ⟨⟨a1, x1, a2, x2, s1, s2, hs⟩, hb2⟩
    have HB2 := Lib.hid hb2; clear hb2
    obtain ⟨_, a, b, t1, t2⟩ := HO.out
    rw [t1] at s1; rw [t2] at s2
    injection s1 with s1; injection s2 with s2
    simp at s1 s2
    obtain ⟨rfl, rfl⟩ := s1
    obtain ⟨rfl, rfl⟩ := s2
    rcases hs with ⟨_, _, rfl⟩ | ⟨hno, _, _, _⟩
    · have T1 := Lib.hid t1; have T2 := Lib.hid t2
      clear t1 t2
      go_wp2_with fail
      refine bodyPost_ret (results_tmp3 rfl _ _ _) rfl ?_
      exact ⟨HX1.out.trans (HB2.out.mono HX1.out.size), .inr ⟨a, b, rfl, T1.out, T2.out⟩⟩
    · exact absurd ⟨rfl, rfl⟩ hno
def fewB (n m : Nat) : Bool := decide (n ≤ 600) && decide (m ≤ 250)
theorem few_any (id fr to_ owed credit : Int) (A A2 : Option Addr) (c c2 n m : Nat) (w : World) :
    Calls Tryd.prog 5 #[.agg #[.int .i64 id, .int .i64 fr, .int .i64 to_, .int .i64 owed, .int .i64 credit, .slice A n c, .slice A2 m c2]] w fun e w' => e = .returned (.bool (fewB n m)) ∧ Below w.heap.size w w' := by
  by_cases h1 : n ≤ 600
  · have d1 : decide ((n : Int) ≤ 600) = true := by rw [decide_eq_true_eq]; omega
    by_cases h2 : m ≤ 250
    · have d2 : decide ((m : Int) ≤ 250) = true := by rw [decide_eq_true_eq]; omega
      have E : Hid (fewB n m = true) := Lib.hid (by simp [fewB, h1, h2])
      clear h1 h2
      go_enter Tryd.func5, Tryd.ntmps5
      go_wp2
      go_ret
      exact ⟨ret_bo E.out.symm, (Below.refl _ _).alloc (Nat.le_refl _) _⟩
    · have d2 : decide ((m : Int) ≤ 250) = false := by rw [decide_eq_false_iff_not]; omega
      have E : Hid (fewB n m = false) := Lib.hid (by simp [fewB, h2])
      clear h1 h2
      go_enter Tryd.func5, Tryd.ntmps5
      go_wp2
      go_ret
      exact ⟨ret_bo E.out.symm, (Below.refl _ _).alloc (Nat.le_refl _) _⟩
  · have d1 : decide ((n : Int) ≤ 600) = false := by rw [decide_eq_false_iff_not]; omega
    have E : Hid (fewB n m = false) := Lib.hid (by simp [fewB, h1])
    clear h1
    go_enter Tryd.func5, Tryd.ntmps5
    go_wp2
    go_ret
    exact ⟨ret_bo E.out.symm, (Below.refl _ _).alloc (Nat.le_refl _) _⟩
theorem money_awake : moneyL (-1234567) = [45, 49, 50, 44, 51, 52, 53, 46, 54, 55] := by
  have e : Lib.decDigits 12345 = [49, 50, 51, 52, 53] := by
    simp [Lib.decDigits]
  show [45] ++ (grp (Lib.decDigits (1234567 / 100)) ++ [46, UInt8.ofNat (48 + 1234567 % 100 / 10), UInt8.ofNat (48 + 1234567 % 10)]) = _
  rw [show 1234567 / 100 = 12345 from rfl, e]
  rfl
theorem awake_any (w : World) (ht : Tab w) : Calls Tryd.prog 4 #[] w fun e w' => e = .returned (.bool true) ∧ Below w.heap.size w w' := by
  have K := Lib.hid (money_any (-1234567) (by decide) (by decide) w ht)
  rw [money_awake] at K
  go_enter Tryd.func4, Tryd.ntmps4
  go_wp2_with fail
  refine K.out.mono ?_
  rintro e w1 ⟨rfl, hb1⟩
  have HB1 := Lib.hid hb1; clear hb1
  go_wp2_with fail
  go_ret
  exact ⟨rfl, HB1.out⟩
end Go.Proofs.YtcegcgbcffdjjaaDoor
