/- The program's Right of a return that may be; how many months a return is late; plain: of the day so many months later, and of the one behind it. -/
import Derived.Test.YtkgoaodpjeonnaaTax
import Derived.Test.YtkgoaodpjeonnaaCivE
import Derived.Test.YtkgoaodpjeonnaaDig
namespace Go.Proofs.Ytkgoaodpjeonnaa
open Go.RowKit

/-- How late. -/
def LateOf (D F n : Int) : Prop := (F ≤ D ∧ n = 0) ∨ (D < F ∧ ∃ y m d z k i, IsDate D y m d ∧ IsDate F z k i ∧ n = 12 * (z - y) + k - m + (if Cal.num z k (min d (Cal.dim z k)) < F then 1 else 0))
theorem num_lt {y m d z k i : Int} (h : Cal.Valid y m d) (h' : Cal.Valid z k i) (hm : y * 12 + m < z * 12 + k) : Cal.num y m d < Cal.num z k i := by
  have b1 := Cal.doy_bd y m d h
  have b2 := Cal.doy_bd z k i h'
  obtain ⟨y1, y2, m1, m2, d1, d2⟩ := h
  obtain ⟨z1, z2, k1, k2, i1, i2⟩ := h'
  by_cases hyz : y < z
  · have := Cal.dby_lt y z hyz
    unfold Cal.num; omega
  · obtain rfl : y = z := by omega
    have := Cal.cum_mono y (m + 1) k (by omega) (by omega) (by omega)
    have := Cal.cum_succ y m m1 m2
    unfold Cal.num; omega
section
variable {D y m d q n : Int}
theorem at_valid (h : IsDate D y m d) (h1 : 1 ≤ mYear y m q) (h2 : mYear y m q ≤ 9999) : Cal.Valid (mYear y m q) (mMonth y m q) (mDay y m d q) := by
  obtain ⟨⟨y1, y2, m1, m2, d1, d2⟩, _⟩ := h
  have hd := Cal.dim_bd (mYear y m q) (mMonth y m q)
  refine ⟨h1, h2, ?_, ?_, ?_, ?_⟩
  · unfold mMonth; omega
  · unfold mMonth; omega
  · unfold mDay; omega
  · unfold mDay; omega
theorem mYM (y m q : Int) : mYear y m q * 12 + mMonth y m q - 1 = y * 12 + m - 1 + q ∧ 1 ≤ mMonth y m q ∧ mMonth y m q ≤ 12 := by
  unfold mYear mMonth; omega
theorem late_at (h : IsDate D y m d) (h0 : 0 ≤ q) (h1 : 1 ≤ mYear y m q) (h2 : mYear y m q ≤ 9999) (hl : LateOf D (Cal.num (mYear y m q) (mMonth y m q) (mDay y m d q)) n) : n = q := by
  have hv := at_valid h h1 h2
  obtain ⟨e1, e2, e3⟩ := mYM y m q
  by_cases hq : q = 0
  · subst hq
    obtain ⟨⟨y1, y2, m1, m2, d1, d2⟩, hn⟩ := h
    have ey : mYear y m 0 = y ∧ mMonth y m 0 = m := mYear_eq (by omega) m1 m2
    have ed : mDay y m d 0 = d := by unfold mDay; rw [ey.1, ey.2]; omega
    rw [ey.1, ey.2, ed, hn] at hl
    rcases hl with ⟨_, hn⟩ | ⟨hlt, _⟩
    · exact hn
    · omega
  · have hgt := num_lt h.1 hv (by omega)
    rw [h.2] at hgt
    rcases hl with ⟨hle, _⟩ | ⟨_, y', m', d', z, k, i, g1, g2, hn⟩
    · omega
    · obtain ⟨rfl, rfl, rfl⟩ := isDate_inj h g1
      obtain ⟨rfl, rfl, rfl⟩ := Cal.num_inj g2.1 hv g2.2
      rw [if_neg (by unfold mDay; omega)] at hn
      omega
theorem late_next (h : IsDate D y m d) (h0 : 0 ≤ q) (h1 : 1 ≤ mYear y m q) (h2 : mYear y m q ≤ 9999) (hl : LateOf D (Cal.num (mYear y m q) (mMonth y m q) (mDay y m d q) + 1) n) : n = q + 1 := by
  have hv := at_valid h h1 h2
  obtain ⟨e1, e2, e3⟩ := mYM y m q
  have hge : D ≤ Cal.num (mYear y m q) (mMonth y m q) (mDay y m d q) := by
    by_cases hq : q = 0
    · subst hq
      obtain ⟨⟨y1, y2, m1, m2, d1, d2⟩, hn⟩ := h
      have ey : mYear y m 0 = y ∧ mMonth y m 0 = m := mYear_eq (by omega) m1 m2
      have ed : mDay y m d 0 = d := by unfold mDay; rw [ey.1, ey.2]; omega
      rw [ey.1, ey.2, ed, hn]; omega
    · have hgt := num_lt h.1 hv (by omega)
      rw [h.2] at hgt; omega
  rcases hl with ⟨hle, _⟩ | ⟨_, y', m', d', z, k, i, g1, g2, hn⟩
  · omega
  · obtain ⟨rfl, rfl, rfl⟩ := isDate_inj h g1
    obtain ⟨⟨_, _, _, _, d1, _⟩, _⟩ := h
    rcases Dig.next hv rfl g2.1 g2.2 with ⟨_, rfl, rfl, rfl⟩ | ⟨_, rfl, hzk⟩
    · rw [if_pos (by unfold mDay; omega)] at hn
      omega
    · have hd := Cal.dim_bd z k
      have hmin : Cal.num z k 1 ≤ Cal.num z k (min d (Cal.dim z k)) := by unfold Cal.num; omega
      rw [if_neg (by rw [← g2.2]; omega)] at hn
      rcases hzk with ⟨rfl, rfl⟩ | ⟨rfl, rfl, hm12⟩ <;> omega
end
theorem days_in {a b : Int} (ha0 : 0 ≤ a) (ha1 : a ≤ 3652058) (hb0 : 0 ≤ b) (hb1 : b ≤ 3652058) : true = allIn 0 3652058 [a, b] := (allIn_iff.2 (by intro x hx; simp at hx; rcases hx with rfl | rfl <;> omega)).symm
set_option maxHeartbeats 400000 in
theorem amonths_any (D F : Int) (d0 : 0 ≤ D) (d1 : D ≤ 3652058) (f0 : 0 ≤ F) (f1 : F ≤ 3652058) (w : World) :
    Calls Try.prog 29 #[.int .i64 D, .int .i64 F] w fun e w' => (∃ n, LateOf D F n ∧ 0 ≤ n ∧ n ≤ 120000 ∧ e = .returned (.tuple #[.int .i64 n, .int .i64 0])) ∧ Below w.heap.size w w' := by
  have K := Lib.hid (day2 D F true (days_in d0 d1 f0 f1))
  by_cases hle : F ≤ D
  · have HL : Hid (LateOf D F 0) := Lib.hid (.inl ⟨hle, rfl⟩)
    go_enter Try.func29, Try.ntmps29
    go_wp2_with fail
    refine (K.out _ _ rfl).mono ?_
    rintro e w1 ⟨rfl, hb1⟩
    go_wp2_with fail
    go_ret2
    exact ⟨⟨0, HL.out, by omega, by omega, rfl⟩, hb1⟩
  · go_enter Try.func29, Try.ntmps29
    go_wp2_with fail
    refine (K.out _ _ rfl).mono ?_
    rintro e w1 ⟨rfl, hb1⟩
    go_wp2_with fail
    refine (date_yes D d0 d1 _).mono ?_
    rintro e w2 ⟨⟨y, m, d, hd, rfl⟩, hb2⟩
    have hb12 := hb1.trans (hb2.mono hb1.size)
    have HD := Lib.hid hd
    obtain ⟨⟨y1, y2, m1, m2, dd1, dd2⟩, hDn⟩ := hd
    clear dd2 hDn hb1 hb2
    go_wp2_with fail
    refine (date_yes F f0 f1 _).mono ?_
    rintro e w3 ⟨⟨z, k, i, hi, rfl⟩, hb3⟩
    have hb13 := hb12.trans (hb3.mono hb12.size)
    have HI := Lib.hid hi
    obtain ⟨⟨z1, z2, k1, k2, i1, i2⟩, hFn⟩ := hi
    have hnn : 0 ≤ 12 * (z - y) + k - m := by
      rcases Int.lt_or_le (12 * (z - y) + k - m) 0 with hneg | hpos
      · have := num_lt HI.out.1 HD.out.1 (by omega)
        rw [HI.out.2, HD.out.2] at this
        omega
      · exact hpos
    clear i2 hFn hb12 hb3
    obtain ⟨n, hn⟩ : ∃ n, 12 * (z - y) + k - m = n := ⟨_, rfl⟩
    have HN := Lib.hid hn
    have hn1 : n ≤ 119987 := by omega
    have hn0 : 0 ≤ n := by omega
    obtain ⟨at_, hat⟩ : ∃ at_, at_ = Cal.num z k (min d (Cal.dim z k)) := ⟨_, rfl⟩
    have C : ∀ w : World, Calls Try.prog 44 #[.int .i64 D, .int .i64 n] w fun e w' => e = .returned (.tuple #[.int .i64 at_, .int .i64 0]) ∧ Below w.heap.size w w' := fun w => by
      refine (months_yes D n d0 d1 (by omega) (by omega) w).mono ?_
      rintro e w' ⟨⟨y', m', d', g1, hh⟩, hb⟩
      obtain ⟨rfl, rfl, rfl⟩ := isDate_inj HD.out g1
      obtain ⟨e1, e2⟩ := mYear_eq (y := y) (m := m) (later := n) (Y := z) (M := k) (by omega) k1 k2
      rcases hh with ⟨_, _, rfl⟩ | ⟨hno, _⟩
      · refine ⟨?_, hb⟩
        unfold mDay
        rw [e1, e2, ← hat]
      · rw [e1] at hno; exact absurd ⟨z1, z2⟩ hno
    have HC := Lib.hid C; clear C
    have HAT := Lib.hid hat; clear hat
    have hDF : D < F := by omega
    by_cases hgt : at_ < F
    · have HL : Hid (LateOf D F (n + 1)) := Lib.hid (.inr ⟨hDF, y, m, d, z, k, i, HD.out, HI.out, by rw [← HAT.out, if_pos hgt]; omega⟩)
      go_wp2_with fail
      refine (HC.out _).mono ?_
      rintro e w4 ⟨rfl, hb4⟩
      have hb14 := hb13.trans (hb4.mono hb13.size)
      go_wp2_with fail
      go_ret2
      exact ⟨⟨n + 1, HL.out, by omega, by omega, rfl⟩, hb14⟩
    · have HL : Hid (LateOf D F n) := Lib.hid (.inr ⟨hDF, y, m, d, z, k, i, HD.out, HI.out, by rw [← HAT.out, if_neg hgt]; omega⟩)
      go_wp2_with fail
      refine (HC.out _).mono ?_
      rintro e w4 ⟨rfl, hb4⟩
      have hb14 := hb13.trans (hb4.mono hb13.size)
      go_wp2_with fail
      go_ret2
      exact ⟨⟨n, HL.out, by omega, by omega, rfl⟩, hb14⟩
theorem late_any (per due filed inc wh : Int) (ok : RetOk per due filed inc wh) (w : World) :
    Calls Try.prog 13 #[.agg #[.int .i64 per, .int .i64 due, .int .i64 filed, .int .i64 inc, .int .i64 wh]] w fun e w' => (∃ n, LateOf due filed n ∧ 0 ≤ n ∧ n ≤ 120000 ∧ e = .returned (.int .i64 n)) ∧ Below w.heap.size w w' := by
  have K := Lib.hid (amonths_any due filed ok.due0 ok.due1 ok.filed0 ok.filed1)
  clear ok
  go_enter Try.func13, Try.ntmps13
  go_wp2_with fail
  refine (K.out _).mono ?_
  rintro e w1 ⟨⟨n, hl, n0, n1, rfl⟩, hb1⟩
  have HL := Lib.hid hl; clear hl
  go_wp2_with fail
  go_ret
  exact ⟨⟨n, HL.out, n0, n1, rfl⟩, ((Below.refl _ _).alloc (Nat.le_refl _) _).trans (hb1.mono (by simp))⟩
theorem fright_any (per due filed inc wh : Int) (ok : RetOk per due filed inc wh) (w : World) :
    Calls Try.prog 28 #[.agg #[.int .i64 per, .int .i64 due, .int .i64 filed, .int .i64 inc, .int .i64 wh]] w fun e w' => e = .returned (.bool true) ∧ Below w.heap.size w w' := by
  have K := Lib.hid (day2 due filed true (days_in ok.due0 ok.due1 ok.filed0 ok.filed1))
  obtain ⟨p0, p1, _, _, _, _, ⟨i0, i1⟩, ⟨h0, h1⟩⟩ := ok
  have hmin : 0 ≤ min inc wh := by omega
  have hmax : max inc wh ≤ 1125899906842624 := by omega
  go_enter Try.func28, Try.ntmps28
  go_wp2_with fail
  refine (K.out _ _ (by simp)).mono ?_
  rintro e w1 ⟨rfl, hb1⟩
  go_wp2_with fail
  go_ret
  exact ⟨rfl, ((Below.refl _ _).alloc (Nat.le_refl _) _).trans (hb1.mono (by simp))⟩
theorem aright_any (per due filed inc wh : Int) (ok : RetOk per due filed inc wh) (w : World) :
    Calls Try.prog 12 #[.agg #[.int .i64 per, .int .i64 due, .int .i64 filed, .int .i64 inc, .int .i64 wh]] w fun e w' => e = .returned (.bool true) ∧ Below w.heap.size w w' := by
  have K := Lib.hid (fright_any per due filed inc wh ok)
  clear ok
  go_enter Try.func12, Try.ntmps12
  go_wp2_with fail
  refine (K.out _).mono ?_
  rintro e w1 ⟨rfl, hb1⟩
  go_wp2_with fail
  go_ret
  exact ⟨rfl, ((Below.refl _ _).alloc (Nat.le_refl _) _).trans (hb1.mono (by simp))⟩
end Go.Proofs.Ytkgoaodpjeonnaa
