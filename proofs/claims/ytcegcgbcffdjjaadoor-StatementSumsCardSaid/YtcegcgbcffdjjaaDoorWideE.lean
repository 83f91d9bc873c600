/- The contract of the reference's Told: a wide number as an amount. -/
import Derived.Test.YtcegcgbcffdjjaaDoorWideC
namespace Go.Proofs.YtcegcgbcffdjjaaDoor
open Go.RowKit

/-- What Told answers of a whole number. -/
def toldV (i : Int) : Value := if -4611686018427387904 ≤ i ∧ i ≤ 4611686018427387904 then .tuple #[.int .i64 i, .int .i64 0] else .tuple #[.int .i64 0, .int .i64 2]
set_option maxHeartbeats 1000000 in
theorem told_big (n : Bool) (a b c d : Nat) (ha : a < 4294967296) (hb : b < 4294967296) (hc : c < 4294967296) (hg : 4611686018427387904 < mag a b c d) (w : World) :
    Calls Tryd.prog 9 #[.agg #[.bool n, .int .u64 (a : Int), .int .u64 (b : Int), .int .u64 (c : Int), .int .u64 (d : Int)]] w fun z w' => z = .returned (.tuple #[.int .i64 0, .int .i64 2]) ∧ Below w.heap.size w w' := by
  have HO := Lib.hid (fun w => of_pos 4611686018427387904 0 1073741824 (by omega) (by omega) (by omega) w)
  have hdec : decide (mag 0 1073741824 0 0 < mag a b c d) = true := by
    simp only [decide_eq_true_eq]; unfold mag at hg ⊢; omega
  have HL := Lib.hid (fun w => less_any 0 1073741824 0 0 a b c d (by omega) (by omega) (by omega) ha hb hc w)
  rw [hdec] at HL
  clear hdec hg ha hb hc
  unfold Wd.v at HO
  have HX : Hid (WBox (w.alloc (.cells #[.bool n, .int .u64 (a : Int), .int .u64 (b : Int), .int .u64 (c : Int), .int .u64 (d : Int)] 34)) w.heap.size n a b c d) := Lib.hid (heap_alloc_new w _)
  have HB0 : Hid (Below w.heap.size w (w.alloc (.cells #[.bool n, .int .u64 (a : Int), .int .u64 (b : Int), .int .u64 (c : Int), .int .u64 (d : Int)] 34))) := Lib.hid ((Below.refl _ _).alloc (Nat.le_refl _) _)
  go_enter Tryd.func9, Tryd.ntmps9
  go_wp2_with fail
  refine (HO.out _).mono ?_
  rintro z w1 ⟨rfl, hb1⟩
  have Y0 := Lib.hid (HX.out.on hb1)
  have YB := Lib.hid (HB0.out.trans (hb1.mono HB0.out.size))
  have hlt : w.heap.size < w1.heap.size := heap_lt Y0.out
  clear hb1
  have i0 := Y0.out.c0; have i1 := Y0.out.c1; have i2 := Y0.out.c2; have i3 := Y0.out.c3; have i4 := Y0.out.c4
  go_wp2_with fail
  refine (HL.out _).mono ?_
  rintro z w2 ⟨rfl, hb2⟩
  go_wp2_with fail
  go_ret2
  exact ⟨rfl, YB.out.trans (Below.trans ((Below.refl _ _).alloc (Nat.le_refl _) _) (hb2.mono (by simp)) |>.mono YB.out.size)⟩
set_option maxHeartbeats 1000000 in
theorem told_pos (v : Int) (a b c d : Nat) (ha : a < 4294967296) (hb : b < 4294967296) (hc : c < 4294967296) (hg : mag a b c d ≤ 4611686018427387904) (hv : v = (mag a b c d : Int)) (w : World) :
    Calls Tryd.prog 9 #[.agg #[.bool false, .int .u64 (a : Int), .int .u64 (b : Int), .int .u64 (c : Int), .int .u64 (d : Int)]] w fun z w' => z = .returned (.tuple #[.int .i64 v, .int .i64 0]) ∧ Below w.heap.size w w' := by
  have HO := Lib.hid (fun w => of_pos 4611686018427387904 0 1073741824 (by omega) (by omega) (by omega) w)
  have hdec : decide (mag 0 1073741824 0 0 < mag a b c d) = false := by
    simp only [decide_eq_false_iff_not]; unfold mag at hg ⊢; omega
  have HL := Lib.hid (fun w => less_any 0 1073741824 0 0 a b c d (by omega) (by omega) (by omega) ha hb hc w)
  rw [hdec] at HL
  have hcd : c = 0 ∧ d = 0 := by unfold mag at hg; omega
  obtain ⟨hc0, hd0⟩ := hcd
  obtain ⟨m, hm⟩ : ∃ m : Nat, a + 4294967296 * b = m := ⟨_, rfl⟩
  have hm1 : m ≤ 4611686018427387904 := by unfold mag at hg; omega
  have e1 : IntKind.u64.wrap ((b : Int) * 4294967296) = ((b * 4294967296 : Nat) : Int) := by rw [IntWalk.u64_in _ (by omega)]; omega
  obtain ⟨y, hy⟩ : ∃ y : Nat, y = b * 4294967296 := ⟨_, rfl⟩
  rw [← hy] at e1
  have e2 : IntKind.u64.wrap ((a : Int) + (y : Int)) = (m : Int) := by rw [IntWalk.u64_in _ (by omega)]; omega
  have e3 : IntKind.i64.wrap (m : Int) = (m : Int) := IntWalk.i64_in _ (by omega)
  have e4 : IntKind.i64.wrap (-(m : Int)) = -(m : Int) := IntWalk.i64_in _ (by omega)
  have HR : Hid (v = (m : Int)) := Lib.hid (by
    have : (mag a b c d : Int) = (m : Int) := by unfold mag; omega
    rw [hv, this])
  clear hv
  clear hm hm1 hy hc0 hd0
  clear hdec hg ha hb hc
  unfold Wd.v at HO
  have HX : Hid (WBox (w.alloc (.cells #[.bool false, .int .u64 (a : Int), .int .u64 (b : Int), .int .u64 (c : Int), .int .u64 (d : Int)] 34)) w.heap.size false a b c d) := Lib.hid (heap_alloc_new w _)
  have HB0 : Hid (Below w.heap.size w (w.alloc (.cells #[.bool false, .int .u64 (a : Int), .int .u64 (b : Int), .int .u64 (c : Int), .int .u64 (d : Int)] 34))) := Lib.hid ((Below.refl _ _).alloc (Nat.le_refl _) _)
  go_enter Tryd.func9, Tryd.ntmps9
  go_wp2_with fail
  refine (HO.out _).mono ?_
  rintro z w1 ⟨rfl, hb1⟩
  have Y0 := Lib.hid (HX.out.on hb1)
  have YB := Lib.hid (HB0.out.trans (hb1.mono HB0.out.size))
  have hlt : w.heap.size < w1.heap.size := heap_lt Y0.out
  clear hb1
  have i0 := Y0.out.c0; have i1 := Y0.out.c1; have i2 := Y0.out.c2; have i3 := Y0.out.c3; have i4 := Y0.out.c4
  go_wp2_with fail
  refine (HL.out _).mono ?_
  rintro z w2 ⟨rfl, hb2⟩
  have Y2 := Lib.hid (Y0.out.on (Below.trans ((Below.refl _ _).alloc (Nat.le_refl _) _) (hb2.mono (by simp))))
  have ZB2 : Hid (Below w.heap.size w w2) := Lib.hid (YB.out.trans (Below.trans ((Below.refl _ _).alloc (Nat.le_refl _) _) (hb2.mono (by simp)) |>.mono YB.out.size))
  clear hb2 i0 i1 i2 i3 i4
  have i0 := Y2.out.c0; have i1 := Y2.out.c1; have i2 := Y2.out.c2
  go_wp2_with fail
  go_ret2
  exact ⟨by rw [HR.out]; rfl, ZB2.out⟩
set_option maxHeartbeats 1000000 in
theorem told_neg (v : Int) (a b c d : Nat) (ha : a < 4294967296) (hb : b < 4294967296) (hc : c < 4294967296) (hg : mag a b c d ≤ 4611686018427387904) (hv : v = -(mag a b c d : Int)) (w : World) :
    Calls Tryd.prog 9 #[.agg #[.bool true, .int .u64 (a : Int), .int .u64 (b : Int), .int .u64 (c : Int), .int .u64 (d : Int)]] w fun z w' => z = .returned (.tuple #[.int .i64 v, .int .i64 0]) ∧ Below w.heap.size w w' := by
  have HO := Lib.hid (fun w => of_pos 4611686018427387904 0 1073741824 (by omega) (by omega) (by omega) w)
  have hdec : decide (mag 0 1073741824 0 0 < mag a b c d) = false := by
    simp only [decide_eq_false_iff_not]; unfold mag at hg ⊢; omega
  have HL := Lib.hid (fun w => less_any 0 1073741824 0 0 a b c d (by omega) (by omega) (by omega) ha hb hc w)
  rw [hdec] at HL
  have hcd : c = 0 ∧ d = 0 := by unfold mag at hg; omega
  obtain ⟨hc0, hd0⟩ := hcd
  obtain ⟨m, hm⟩ : ∃ m : Nat, a + 4294967296 * b = m := ⟨_, rfl⟩
  have hm1 : m ≤ 4611686018427387904 := by unfold mag at hg; omega
  have e1 : IntKind.u64.wrap ((b : Int) * 4294967296) = ((b * 4294967296 : Nat) : Int) := by rw [IntWalk.u64_in _ (by omega)]; omega
  obtain ⟨y, hy⟩ : ∃ y : Nat, y = b * 4294967296 := ⟨_, rfl⟩
  rw [← hy] at e1
  have e2 : IntKind.u64.wrap ((a : Int) + (y : Int)) = (m : Int) := by rw [IntWalk.u64_in _ (by omega)]; omega
  have e3 : IntKind.i64.wrap (m : Int) = (m : Int) := IntWalk.i64_in _ (by omega)
  have e4 : IntKind.i64.wrap (-(m : Int)) = -(m : Int) := IntWalk.i64_in _ (by omega)
  have HR : Hid (v = -(m : Int)) := Lib.hid (by
    have : (mag a b c d : Int) = (m : Int) := by unfold mag; omega
    rw [hv, this])
  clear hv
  clear hm hm1 hy hc0 hd0
  clear hdec hg ha hb hc
  unfold Wd.v at HO
  have HX : Hid (WBox (w.alloc (.cells #[.bool true, .int .u64 (a : Int), .int .u64 (b : Int), .int .u64 (c : Int), .int .u64 (d : Int)] 34)) w.heap.size true a b c d) := Lib.hid (heap_alloc_new w _)
  have HB0 : Hid (Below w.heap.size w (w.alloc (.cells #[.bool true, .int .u64 (a : Int), .int .u64 (b : Int), .int .u64 (c : Int), .int .u64 (d : Int)] 34))) := Lib.hid ((Below.refl _ _).alloc (Nat.le_refl _) _)
  go_enter Tryd.func9, Tryd.ntmps9
  go_wp2_with fail
  refine (HO.out _).mono ?_
  rintro z w1 ⟨rfl, hb1⟩
  have Y0 := Lib.hid (HX.out.on hb1)
  have YB := Lib.hid (HB0.out.trans (hb1.mono HB0.out.size))
  have hlt : w.heap.size < w1.heap.size := heap_lt Y0.out
  clear hb1
  have i0 := Y0.out.c0; have i1 := Y0.out.c1; have i2 := Y0.out.c2; have i3 := Y0.out.c3; have i4 := Y0.out.c4
  go_wp2_with fail
  refine (HL.out _).mono ?_
  rintro z w2 ⟨rfl, hb2⟩
  have Y2 := Lib.hid (Y0.out.on (Below.trans ((Below.refl _ _).alloc (Nat.le_refl _) _) (hb2.mono (by simp))))
  have ZB2 : Hid (Below w.heap.size w w2) := Lib.hid (YB.out.trans (Below.trans ((Below.refl _ _).alloc (Nat.le_refl _) _) (hb2.mono (by simp)) |>.mono YB.out.size))
  clear hb2 i0 i1 i2 i3 i4
  have i0 := Y2.out.c0; have i1 := Y2.out.c1; have i2 := Y2.out.c2
  go_wp2_with fail
  go_ret2
  exact ⟨by rw [HR.out]; rfl, ZB2.out⟩
theorem told_wide (x : Wd) (hx : x.ok) (w : World) :
    Calls Tryd.prog 9 #[x.v] w fun z w' => z = .returned (toldV x.int) ∧ Below w.heap.size w w' := by
  obtain ⟨n, a, b, c, d⟩ := x
  obtain ⟨ha, hb, hc, hd⟩ := hx
  by_cases hg : 4611686018427387904 < mag a b c d
  · have e : toldV (Wd.int ⟨n, a, b, c, d⟩) = .tuple #[.int .i64 0, .int .i64 2] := by
      unfold toldV
      rw [if_neg]
      simp only [Wd.int, Wd.mag]
      cases n <;> simp <;> omega
    rw [e]
    exact told_big n a b c d ha hb hc hg w
  · have e : toldV (Wd.int ⟨n, a, b, c, d⟩) = .tuple #[.int .i64 (Wd.int ⟨n, a, b, c, d⟩), .int .i64 0] := by
      unfold toldV
      rw [if_pos]
      simp only [Wd.int, Wd.mag]
      cases n <;> simp <;> omega
    rw [e]
    cases n
    · exact told_pos _ a b c d ha hb hc (by omega) (by simp [Wd.int, Wd.mag]) w
    · exact told_neg _ a b c d ha hb hc (by omega) (by simp [Wd.int, Wd.mag]) w
end Go.Proofs.YtcegcgbcffdjjaaDoor
