/- The contract of the reference's Add of wide numbers at unlike signs (written by gen_wided.py). -/
import Derived.Test.YtcegcgbcffdjjaaDoorWideC
namespace Go.Proofs.YtcegcgbcffdjjaaDoor
open Go.RowKit
set_option maxHeartbeats 1000000 in
theorem add_lt (m n : Bool) (a b c d p q r s : Nat) (ha : a < 4294967296) (hb : b < 4294967296) (hc : c < 4294967296) (hd : d < 4294967296) (hp : p < 4294967296) (hq : q < 4294967296) (hr : r < 4294967296) (hs : s < 4294967296) (hmn : (m == n) = false) (hn : mag a b c d < mag p q r s) (w : World) :
    Calls Tryd.prog 8 #[.agg #[.bool m, .int .u64 (a : Int), .int .u64 (b : Int), .int .u64 (c : Int), .int .u64 (d : Int)], .agg #[.bool n, .int .u64 (p : Int), .int .u64 (q : Int), .int .u64 (r : Int), .int .u64 (s : Int)]] w fun z w' => (∃ e f g h : Nat, Wd.ok ⟨n, e, f, g, h⟩ ∧ mag e f g h + mag a b c d = mag p q r s ∧ z = .returned (Wd.v ⟨n, e, f, g, h⟩)) ∧ Below w.heap.size w w' := by
  obtain ⟨e, f, g, h, hok, hm, K⟩ := minus_ex p q r s a b c d hp hq hr hs ha hb hc hd (by omega)
  have HK := Lib.hid K; have HM := Lib.hid hm; have HO := Lib.hid hok
  have hdec : decide (mag a b c d < mag p q r s) = true := by simp only [decide_eq_true_eq]; omega
  have HL := Lib.hid (fun w => less_any a b c d p q r s ha hb hc hp hq hr w)
  rw [hdec] at HL
  clear K hm hok ha hb hc hd hp hq hr hs hn hdec
  unfold Ag at HK
  have HX0 := Lib.hid (addw_0 w m n a b c d p q r s)
  have HX1 := Lib.hid (addw_1 w m n a b c d p q r s)
  have HX2 := Lib.hid (addw_2 w m n a b c d p q r s)
  have HXB := Lib.hid (addw_b w m n a b c d p q r s)
  go_enter Tryd.func8, Tryd.ntmps8
  go_wp2_with fail
  refine (HL.out _).mono ?_
  rintro z w1 ⟨rfl, hb1⟩
  have Y0 := Lib.hid (WBox.on (w := AddW w m n a b c d p q r s) HX0.out hb1)
  have Y1 := Lib.hid (WBox.on (w := AddW w m n a b c d p q r s) HX1.out hb1)
  have Y2 := Lib.hid (ZB.on (w := AddW w m n a b c d p q r s) HX2.out hb1)
  have YB : Hid (Below w.heap.size w w1) := Lib.hid (Below.trans (b := AddW w m n a b c d p q r s) HXB.out (Below.mono (w := AddW w m n a b c d p q r s) hb1 HXB.out.size))
  clear hb1
  have i0 := Y0.out.c0; have i1 := Y0.out.c1; have i2 := Y0.out.c2; have i3 := Y0.out.c3; have i4 := Y0.out.c4
  have j0 := Y1.out.c0; have j1 := Y1.out.c1; have j2 := Y1.out.c2; have j3 := Y1.out.c3; have j4 := Y1.out.c4
  go_wp2_with fail
  go_region_with (go_at_call 15; refine (HK.out _).mono ?_; rintro z w2 ⟨rfl, hb2⟩; obtain ⟨k0, ⟨z0, z1, z2, z3, z4⟩, ⟨f0, f1, f2, f3, f4⟩, HZ⟩ := wfacts (X := w1.drew) Y1.out Y2.out hb2; have HB := Lib.hid (YB.out.drew.trans (hb2.mono YB.out.drew.size)); have HZ := Lib.hid HZ)
  all_goals
    go_wp2_with fail
    refine bodyPost_ret (results_cell_row rfl _ _ (w.heap.size + 1 + 1) 34 #[.bool n, .int .u64 (e : Int), .int .u64 (f : Int), .int .u64 (g : Int), .int .u64 (h : Int)] (0, 0) _ rfl ?hg Tryd.underlying34 rfl wide_size) rfl ?_
    case hg => exact heap_set5 HZ.out
    have hj : w.heap.size ≤ w.heap.size + 1 + 1 := by omega
    exact ⟨⟨e, f, g, h, HO.out, HM.out, rfl⟩, ((((HB.out.setCell hj _).setCell hj _).setCell hj _).setCell hj _).setCell hj _⟩
set_option maxHeartbeats 1000000 in
theorem add_ge (m n : Bool) (a b c d p q r s : Nat) (ha : a < 4294967296) (hb : b < 4294967296) (hc : c < 4294967296) (hd : d < 4294967296) (hp : p < 4294967296) (hq : q < 4294967296) (hr : r < 4294967296) (hs : s < 4294967296) (hmn : (m == n) = false) (hn : ¬ mag a b c d < mag p q r s) (w : World) :
    Calls Tryd.prog 8 #[.agg #[.bool m, .int .u64 (a : Int), .int .u64 (b : Int), .int .u64 (c : Int), .int .u64 (d : Int)], .agg #[.bool n, .int .u64 (p : Int), .int .u64 (q : Int), .int .u64 (r : Int), .int .u64 (s : Int)]] w fun z w' => (∃ e f g h : Nat, Wd.ok ⟨m, e, f, g, h⟩ ∧ mag e f g h + mag p q r s = mag a b c d ∧ z = .returned (Wd.v ⟨m, e, f, g, h⟩)) ∧ Below w.heap.size w w' := by
  obtain ⟨e, f, g, h, hok, hm, K⟩ := minus_ex a b c d p q r s ha hb hc hd hp hq hr hs (by omega)
  have HK := Lib.hid K; have HM := Lib.hid hm; have HO := Lib.hid hok
  have hdec : decide (mag a b c d < mag p q r s) = false := by simp only [decide_eq_false_iff_not]; omega
  have HL := Lib.hid (fun w => less_any a b c d p q r s ha hb hc hp hq hr w)
  rw [hdec] at HL
  clear K hm hok ha hb hc hd hp hq hr hs hn hdec
  unfold Ag at HK
  have HX0 := Lib.hid (addw_0 w m n a b c d p q r s)
  have HX1 := Lib.hid (addw_1 w m n a b c d p q r s)
  have HX2 := Lib.hid (addw_2 w m n a b c d p q r s)
  have HXB := Lib.hid (addw_b w m n a b c d p q r s)
  go_enter Tryd.func8, Tryd.ntmps8
  go_wp2_with fail
  refine (HL.out _).mono ?_
  rintro z w1 ⟨rfl, hb1⟩
  have Y0 := Lib.hid (WBox.on (w := AddW w m n a b c d p q r s) HX0.out hb1)
  have Y1 := Lib.hid (WBox.on (w := AddW w m n a b c d p q r s) HX1.out hb1)
  have Y2 := Lib.hid (ZB.on (w := AddW w m n a b c d p q r s) HX2.out hb1)
  have YB : Hid (Below w.heap.size w w1) := Lib.hid (Below.trans (b := AddW w m n a b c d p q r s) HXB.out (Below.mono (w := AddW w m n a b c d p q r s) hb1 HXB.out.size))
  clear hb1
  have i0 := Y0.out.c0; have i1 := Y0.out.c1; have i2 := Y0.out.c2; have i3 := Y0.out.c3; have i4 := Y0.out.c4
  have j0 := Y1.out.c0; have j1 := Y1.out.c1; have j2 := Y1.out.c2; have j3 := Y1.out.c3; have j4 := Y1.out.c4
  go_wp2_with fail
  go_region_with (go_at_call 15; refine (HK.out _).mono ?_; rintro z w2 ⟨rfl, hb2⟩; obtain ⟨k0, ⟨z0, z1, z2, z3, z4⟩, ⟨f0, f1, f2, f3, f4⟩, HZ⟩ := wfacts (X := w1.drew) Y0.out Y2.out hb2; have HB := Lib.hid (YB.out.drew.trans (hb2.mono YB.out.drew.size)); have HZ := Lib.hid HZ)
  all_goals
    go_wp2_with fail
    refine bodyPost_ret (results_cell_row rfl _ _ (w.heap.size + 1 + 1) 34 #[.bool m, .int .u64 (e : Int), .int .u64 (f : Int), .int .u64 (g : Int), .int .u64 (h : Int)] (0, 0) _ rfl ?hg Tryd.underlying34 rfl wide_size) rfl ?_
    case hg => exact heap_set5 HZ.out
    have hj : w.heap.size ≤ w.heap.size + 1 + 1 := by omega
    exact ⟨⟨e, f, g, h, HO.out, HM.out, rfl⟩, ((((HB.out.setCell hj _).setCell hj _).setCell hj _).setCell hj _).setCell hj _⟩
theorem add_any (x y : Wd) (hx : x.ok) (hy : y.ok) (hn : x.mag + y.mag < 340282366920938463463374607431768211456) (w : World) :
    Calls Tryd.prog 8 #[x.v, y.v] w fun e w' => (∃ z : Wd, z.ok ∧ z.int = x.int + y.int ∧ e = .returned z.v) ∧ Below w.heap.size w w' := by
  obtain ⟨m, a, b, c, d⟩ := x
  obtain ⟨n, p, q, r, s⟩ := y
  obtain ⟨ha, hb, hc, hd⟩ := hx
  obtain ⟨hp, hq, hr, hs⟩ := hy
  by_cases hmn : m = n
  · subst hmn
    refine (add_same m a b c d p q r s ha hb hc hd hp hq hr hs hn w).mono ?_
    rintro e w' ⟨⟨i, j, k, l, h1, h2, h3⟩, hb'⟩
    refine ⟨⟨⟨m, i, j, k, l⟩, h1, ?_, h3⟩, hb'⟩
    simp only [Wd.int, Wd.mag]
    cases m <;> simp <;> omega
  · have hbe : (m == n) = false := by simp [hmn]
    by_cases hlt : mag a b c d < mag p q r s
    · refine (add_lt m n a b c d p q r s ha hb hc hd hp hq hr hs hbe hlt w).mono ?_
      rintro e w' ⟨⟨i, j, k, l, h1, h2, h3⟩, hb'⟩
      refine ⟨⟨⟨n, i, j, k, l⟩, h1, ?_, h3⟩, hb'⟩
      simp only [Wd.int, Wd.mag]
      cases m <;> cases n <;> simp at hmn ⊢ <;> omega
    · refine (add_ge m n a b c d p q r s ha hb hc hd hp hq hr hs hbe hlt w).mono ?_
      rintro e w' ⟨⟨i, j, k, l, h1, h2, h3⟩, hb'⟩
      refine ⟨⟨⟨m, i, j, k, l⟩, h1, ?_, h3⟩, hb'⟩
      simp only [Wd.int, Wd.mag]
      cases m <;> cases n <;> simp at hmn ⊢ <;> omega
end Go.Proofs.YtcegcgbcffdjjaaDoor
