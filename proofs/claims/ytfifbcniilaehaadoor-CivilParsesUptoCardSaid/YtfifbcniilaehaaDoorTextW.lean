/- Contracts of Text (both), of the reference's Weekday; the walks of the laws CivilDates and CivilNext. -/
import Derived.Test.YtfifbcniilaehaaDoorText
import Derived.Test.YtfifbcniilaehaaDoorCivE
namespace Go.Proofs.YtfifbcniilaehaaDoor
open Go.RowKit

/-- The text of a day. -/
def TextOf (n : Int) (e : Ending) : Prop := ∃ y m d, IsDate n y m d ∧ e = .returned (.tuple #[.string ⟨(Dig.text y m d).toArray⟩, .int .i64 0])
theorem textOf_mk {n : Int} {y m d : Nat} {s : List UInt8} (h : IsDate n (y : Int) (m : Int) (d : Int)) (hs : s = Dig.digW 4 y ++ [45] ++ Dig.digW 2 m ++ [45] ++ Dig.digW 2 d) : TextOf n (.returned (.tuple #[.string ⟨s.toArray⟩, .int .i64 0])) :=
  ⟨_, _, _, h, by rw [hs]; rfl⟩
theorem textOf_get {n y m d : Int} {e : Ending} (h : TextOf n e) (hd : IsDate n y m d) : e = .returned (.tuple #[.string ⟨(Dig.text y m d).toArray⟩, .int .i64 0]) := by
  obtain ⟨y', m', d', hd', rfl⟩ := h
  obtain ⟨rfl, rfl, rfl⟩ := isDate_inj hd hd'
  rfl
theorem dateOf_get {n y m d : Int} {e : Ending} (h : DateOf n e) (hd : IsDate n y m d) : e = .returned (.tuple #[.int .i64 y, .int .i64 m, .int .i64 d, .int .i64 0]) := by
  obtain ⟨y', m', d', hd', rfl⟩ := h
  obtain ⟨rfl, rfl, rfl⟩ := isDate_inj hd hd'
  rfl
theorem isDate_nat {n y m d : Int} (h : IsDate n y m d) : ∃ y' m' d' : Nat, y = (y' : Int) ∧ m = (m' : Int) ∧ d = (d' : Int) ∧ y' < 10000 ∧ m' < 100 ∧ d' < 100 := by
  obtain ⟨⟨a, b, c, d', e, f⟩, _⟩ := h
  have := Cal.dim_bd y m
  exact ⟨y.toNat, m.toNat, d.toNat, by omega, by omega, by omega, by omega, by omega, by omega⟩
theorem text_no (n : Int) (h : ¬ (0 ≤ n ∧ n ≤ 3652058)) (w : World) :
    Calls Tryd.prog 12 #[.int .i64 n] w fun e w' => e = .returned (.tuple #[.string ⟨#[]⟩, .int .i64 1]) ∧ w = w' := by
  have H := Lib.hid h; clear h
  go_enter Tryd.func12, Tryd.ntmps12
  go_wp2_with fail
  refine (date_no n H.out _).mono ?_
  rintro e w' ⟨rfl, rfl⟩
  go_wp2_with fail
  go_ret2
  exact ⟨rfl, rfl⟩
set_option maxRecDepth 100000 in
theorem text_yes (n : Int) (h1 : 0 ≤ n) (h2 : n ≤ 3652058) (w : World) (ht : Tab w) :
    Calls Tryd.prog 12 #[.int .i64 n] w fun e w' => TextOf n e ∧ Below w.heap.size w w' := by
  have HT := Lib.hid ht; clear ht
  go_enter Tryd.func12, Tryd.ntmps12
  go_wp2_with fail
  refine (date_yes n h1 h2 _).mono ?_
  rintro e w1 ⟨⟨y, m, d, hd, rfl⟩, hb1⟩
  obtain ⟨y, m, d, rfl, rfl, rfl, hy, hm, hdd⟩ := isDate_nat hd
  obtain ⟨Y, hY⟩ : ∃ Y, Y = Dig.digW 4 y := ⟨_, rfl⟩
  obtain ⟨M, hM⟩ : ∃ M, M = Dig.digW 2 m := ⟨_, rfl⟩
  obtain ⟨D, hD⟩ : ∃ D, D = Dig.digW 2 d := ⟨_, rfl⟩
  have hYl : Y.length = 4 := by rw [hY, Dig.digW_length]
  have hMl : M.length = 2 := by rw [hM, Dig.digW_length]
  have hDl : D.length = 2 := by rw [hD, Dig.digW_length]
  have hYle : Y.length ≤ 4 := by omega
  have hMle : M.length ≤ 2 := by omega
  have hDle : D.length ≤ 2 := by omega
  have HY := Lib.hid hY; clear hY
  have HM := Lib.hid hM; clear hM
  have HD := Lib.hid hD; clear hD
  have HDT := Lib.hid hd; clear hd
  clear hYl hMl hDl
  go_wp2_with fail
  refine (padded_any y 4 (by omega) (by omega) (by omega) _ (HT.out.below hb1) Y HY.out).mono ?_
  rintro e w2 ⟨rfl, hb2⟩
  have hb12 := hb1.trans (hb2.mono hb1.size)
  go_wp2_with fail
  refine (padded_any m 2 (by omega) (by omega) (by omega) _ (HT.out.below hb12) M HM.out).mono ?_
  rintro e w3 ⟨rfl, hb3⟩
  have hb13 := hb12.trans (hb3.mono hb12.size)
  go_wp2_with fail
  refine (padded_any d 2 (by omega) (by omega) (by omega) _ (HT.out.below hb13) D HD.out).mono ?_
  rintro e w4 ⟨rfl, hb4⟩
  have hb14 := hb13.trans (hb4.mono hb13.size)
  go_wp2_with fail
  go_ret2
  exact ⟨textOf_mk HDT.out (by rw [← HY.out, ← HM.out, ← HD.out]; simp), hb14⟩
theorem rtext_no (n : Int) (h : ¬ (0 ≤ n ∧ n ≤ 3652058)) (w : World) :
    Calls Tryd.prog 13 #[.int .i64 n] w fun e w' => e = .returned (.tuple #[.string ⟨#[]⟩, .int .i64 1]) ∧ w = w' := by
  have H := Lib.hid h; clear h
  go_enter Tryd.func13, Tryd.ntmps13
  go_wp2_with fail
  refine (rdate_no n H.out _).mono ?_
  rintro e w' ⟨rfl, rfl⟩
  go_wp2_with fail
  go_ret2
  exact ⟨rfl, rfl⟩
set_option maxHeartbeats 1000000 in
set_option maxRecDepth 100000 in
theorem rtext_yes (n : Int) (h1 : 0 ≤ n) (h2 : n ≤ 3652058) (w : World) :
    Calls Tryd.prog 13 #[.int .i64 n] w fun e w' => TextOf n e ∧ Below w.heap.size w w' := by
  go_enter Tryd.func13, Tryd.ntmps13
  go_wp2_with fail
  refine (rdate_yes n h1 h2 _).mono ?_
  rintro e w' ⟨⟨y, m, d, hd, rfl⟩, rfl⟩
  obtain ⟨y, m, d, rfl, rfl, rfl, hy, hm, hdd⟩ := isDate_nat hd
  obtain ⟨Y, hY⟩ : ∃ Y, Y = Dig.digW 4 y := ⟨_, rfl⟩
  obtain ⟨M, hM⟩ : ∃ M, M = Dig.digW 2 m := ⟨_, rfl⟩
  obtain ⟨D, hD⟩ : ∃ D, D = Dig.digW 2 d := ⟨_, rfl⟩
  have hYl : Y.length = 4 := by rw [hY, Dig.digW_length]
  have hMl : M.length = 2 := by rw [hM, Dig.digW_length]
  have hDl : D.length = 2 := by rw [hD, Dig.digW_length]
  have hYle : Y.length ≤ 4 := by omega
  have hMle : M.length ≤ 2 := by omega
  have hDle : D.length ≤ 2 := by omega
  have HY := Lib.hid hY; clear hY
  have HM := Lib.hid hM; clear hM
  have HD := Lib.hid hD; clear hD
  have HDT := Lib.hid hd; clear hd
  clear hYl hMl hDl
  go_wp2_with fail
  refine (digits4 y hy _).mono ?_
  rw [← HY.out]
  rintro e w1 ⟨A1, c1, rfl, ho1, hb1⟩
  have z1 := hb1.size
  go_wp2_with (at_builtin; refine wpList_append_b _ rfl (.tmp 20) (.tmp 21) bt rfl w.heap.size A1 c1 Y rfl (ho1.alloc _) _ (some ⟨w1.heap.size, 0, none⟩) 1 1 [45] rfl rfl (rdB_one (x := 45) (by simp) rfl (by simp)) (by simp; omega) (by simp; omega) ?_; intro A2 c2 L2 w2 hL2 ho2 hg2 hat2; have HL2 := Lib.hid hL2; have hl2 : L2.length ≤ 5 := (by rw [hL2]; simp; omega); clear hL2; have hb2 : Below w.heap.size w w2 := below_grow (hb1.alloc z1 _) hg2 (fun g hg => (ho1.blk_ge g hg).1) (by simp; omega); have z2 := hb2.size)
  go_wp2_with fail
  refine (digits2 m hm _).mono ?_
  rw [← HM.out]
  rintro e w3 ⟨A3, c3, rfl, ho3, hb3⟩
  have hb13 := hb2.trans (hb3.mono z2)
  have z3 := hb13.size
  go_wp2_with (first | (at_builtin; refine wpList_append_b _ rfl (.tmp 23) (.tmp 25) bt rfl w.heap.size A2 c2 L2 rfl (ho2.below hb3) _ A3 _ c3 M rfl rfl ho3.rd (by omega) z3 ?_; intro A4 c4 L4 w4 hL4 ho4 hg4 hat4; have HL4 := Lib.hid hL4; have hl4 : L4.length ≤ 7 := (by rw [hL4]; simp; omega); clear hL4; have hb4 : Below w.heap.size w w4 := below_grow hb13 hg4 (fun g hg => (ho2.blk_ge g hg).1) z3; have z4 := hb4.size) | (at_builtin; refine wpList_append_b _ rfl (.tmp 27) (.tmp 28) bt rfl w.heap.size A4 c4 L4 rfl (ho4.alloc _) _ (some ⟨w4.heap.size, 0, none⟩) 1 1 [45] rfl rfl (rdB_one (x := 45) (by simp) rfl (by simp)) (by simp; omega) (by simp; omega) ?_; intro A5 c5 L5 w5 hL5 ho5 hg5 hat5; have HL5 := Lib.hid hL5; have hl5 : L5.length ≤ 8 := (by rw [hL5]; simp; omega); clear hL5; have hb5 : Below w.heap.size w w5 := below_grow (hb4.alloc z4 _) hg5 (fun g hg => (ho4.blk_ge g hg).1) (by simp; omega); have z5 := hb5.size))
  go_wp2_with fail
  refine (digits2 d hdd _).mono ?_
  rw [← HD.out]
  rintro e w6 ⟨A6, c6, rfl, ho6, hb6⟩
  have hb16 := hb5.trans (hb6.mono z5)
  have z6 := hb16.size
  go_wp2_with (at_builtin; refine wpList_append_b _ rfl (.tmp 30) (.tmp 32) bt rfl w.heap.size A5 c5 L5 rfl (ho5.below hb6) _ A6 _ c6 D rfl rfl ho6.rd (by omega) z6 ?_; intro A7 c7 L7 w7 hL7 ho7 hg7 hat7; have HL7 := Lib.hid hL7; clear hL7; have hb7 : Below w.heap.size w w7 := below_grow hb16 hg7 (fun g hg => (ho5.blk_ge g hg).1) z6; have hstr := run_string_b w7 bt Tryd.underlying9 _ A7 L7.length c7 L7 rfl ho7.rd)
  go_ret2
  exact ⟨textOf_mk HDT.out (by rw [← HY.out, ← HM.out, ← HD.out, HL7.out, HL5.out, HL4.out, HL2.out]), hb7⟩
theorem rweek_no (n : Int) (h : ¬ (0 ≤ n ∧ n ≤ 3652058)) (w : World) :
    Calls Tryd.prog 11 #[.int .i64 n] w fun e w' => e = .returned (.tuple #[.int .i64 0, .int .i64 1]) ∧ w = w' := by
  by_cases c : n < 0
  · go_enter Tryd.func11, Tryd.ntmps11
    go_wp2
    go_ret2
    exact ⟨rfl, rfl⟩
  · have c2 : 3652058 < n := by omega
    go_enter Tryd.func11, Tryd.ntmps11
    go_wp2
    go_ret2
    exact ⟨rfl, rfl⟩
theorem rweek_yes (n : Int) (h1 : 0 ≤ n) (h2 : n ≤ 3652058) (w : World) :
    Calls Tryd.prog 11 #[.int .i64 n] w fun e w' => e = .returned (.tuple #[.int .i64 (n % 7 + 1), .int .i64 0]) ∧ w = w' := by
  go_enter Tryd.func11, Tryd.ntmps11
  go_wp2
  go_ret2
  exact ⟨rfl, rfl⟩
theorem date_there {n : Int} (h1 : 0 ≤ n) (h2 : n ≤ 3652058) : ∃ y m d, IsDate n y m d := by
  obtain ⟨y, m, d, hd, _⟩ : ∃ y m d, IsDate n y m d ∧ True := by
    have key : ∀ k : Nat, (k : Int) ≤ 3652058 → ∃ y m d, IsDate k y m d := by
      intro k
      induction k with
      | zero => exact fun _ => ⟨1, 1, 1, by decide, by decide⟩
      | succ k ih =>
        intro hk
        obtain ⟨y, m, d, hv, hn⟩ := ih (by omega)
        have hb := Cal.dim_bd y m
        obtain ⟨a, b, c, d', e, f⟩ := hv
        by_cases hd : d < Cal.dim y m
        · exact ⟨y, m, d + 1, ⟨a, b, c, d', by omega, by omega⟩, by unfold Cal.num at hn ⊢; omega⟩
        · have hc := Cal.cum_succ y m c d'
          by_cases hm : m = 12
          · have h13 : Cal.cum y (12 + 1) = Cal.cum y 13 := rfl
            have he := Cal.cum_end y
            have hs := Cal.dby_succ y
            have hdm := Cal.dim_bd (y + 1) 1
            have hy : y < 9999 := by
              rcases Int.lt_or_eq_of_le b with h | h
              · exact h
              · have hmx := Cal.dby_max
                have hq : Cal.dby (y + 1) = Cal.dby 10000 := by rw [h]; rfl
                unfold Cal.num at hn
                subst hm
                omega
            refine ⟨y + 1, 1, 1, ⟨by omega, by omega, by omega, by omega, by omega, by omega⟩, ?_⟩
            unfold Cal.num at hn ⊢
            subst hm
            rw [Cal.cum_one]; omega
          · have hdm := Cal.dim_bd y (m + 1)
            exact ⟨y, m + 1, 1, ⟨a, b, by omega, by omega, by omega, by omega⟩, by unfold Cal.num at hn ⊢; omega⟩
    obtain ⟨y, m, d, h⟩ := key n.toNat (by omega)
    rw [show ((n.toNat : Nat) : Int) = n from by omega] at h
    exact ⟨y, m, d, h, trivial⟩
  exact ⟨y, m, d, hd⟩

set_option maxHeartbeats 1000000 in
set_option maxRecDepth 100000 in
theorem civilDates_walk (n : Int) (w : World) (_w0 : (Lit.int .i64 n).wf = true) (ht : Tab w) :
    Calls Tryd.prog 3 #[.int .i64 n] w fun e w' => e = .returned (.bool true) ∧ Below w.heap.size w w' := by
  clear _w0
  have HT := Lib.hid ht; clear ht
  by_cases c : 0 ≤ n ∧ n ≤ 3652058
  · obtain ⟨h1, h2⟩ := c
    obtain ⟨y, m, d, hd⟩ := date_there h1 h2
    have HD := Lib.hid hd; clear hd
    obtain ⟨T, hT⟩ : ∃ T, T = Dig.text y m d := ⟨_, rfl⟩
    have HTX := Lib.hid hT; clear hT
    go_enter Tryd.func3, Tryd.ntmps3
    go_wp2_with fail
    refine (awake_any _).mono ?_
    rintro e w' ⟨rfl, rfl⟩
    go_wp2_with fail
    refine (date_yes n h1 h2 _).mono ?_
    rintro e w1 ⟨he, hb1⟩
    rw [dateOf_get he HD.out]
    clear he
    go_wp2_with fail
    refine (rdate_yes n h1 h2 _).mono ?_
    rintro e w2 ⟨he, rfl⟩
    rw [dateOf_get he HD.out]
    clear he
    go_wp2_with fail
    refine (week_yes n h1 h2 _).mono ?_
    rintro e w' ⟨rfl, rfl⟩
    go_wp2_with fail
    refine (rweek_yes n h1 h2 _).mono ?_
    rintro e w' ⟨rfl, rfl⟩
    go_wp2_with fail
    refine (text_yes n h1 h2 _ (HT.out.below hb1)).mono ?_
    rintro e w3 ⟨he, hb3⟩
    rw [textOf_get he HD.out, ← HTX.out]
    clear he
    have hb13 := hb1.trans (hb3.mono hb1.size)
    go_wp2_with fail
    refine (rtext_yes n h1 h2 _).mono ?_
    rintro e w4 ⟨he, hb4⟩
    rw [textOf_get he HD.out, ← HTX.out]
    clear he
    go_wp2_with fail
    go_ret
    exact ⟨by first | rfl | simp, hb13.trans (hb4.mono hb13.size)⟩
  · have C := Lib.hid c; clear c
    go_enter Tryd.func3, Tryd.ntmps3
    go_wp2_with fail
    refine (awake_any _).mono ?_
    rintro e w' ⟨rfl, rfl⟩
    go_wp2_with fail
    refine (date_no n C.out _).mono ?_
    rintro e w' ⟨rfl, rfl⟩
    go_wp2_with fail
    refine (rdate_no n C.out _).mono ?_
    rintro e w' ⟨rfl, rfl⟩
    go_wp2_with fail
    refine (week_no n C.out _).mono ?_
    rintro e w' ⟨rfl, rfl⟩
    go_wp2_with fail
    refine (rweek_no n C.out _).mono ?_
    rintro e w' ⟨rfl, rfl⟩
    go_wp2_with fail
    refine (text_no n C.out _).mono ?_
    rintro e w' ⟨rfl, rfl⟩
    go_wp2_with fail
    refine (rtext_no n C.out _).mono ?_
    rintro e w' ⟨rfl, rfl⟩
    go_wp2_with fail
    go_ret
    exact ⟨by first | rfl | simp, Below.refl _ _⟩
theorem bytesLess_asym {x y : List UInt8} (h : Go.Op.bytesLess x y = true) : Go.Op.bytesLess y x = false := by
  induction x generalizing y with
  | nil => cases y <;> rfl
  | cons a x ih =>
    cases y with
    | nil => cases h
    | cons b y =>
      rw [Dig.bytesLess_cons] at h ⊢
      rw [Bool.or_eq_true, Bool.and_eq_true, decide_eq_true_eq, beq_iff_eq, UInt8.lt_iff_toNat_lt] at h
      rw [Bool.or_eq_false_iff, Bool.and_eq_false_iff, decide_eq_false_iff_not, UInt8.lt_iff_toNat_lt, beq_eq_false_iff_ne]
      rcases h with h | ⟨rfl, h⟩
      · refine ⟨by omega, .inl ?_⟩
        rintro rfl
        omega
      · exact ⟨by omega, .inr (ih h)⟩
set_option maxHeartbeats 1000000 in
set_option maxRecDepth 100000 in
theorem civilNext_walk (n : Int) (w : World) (_w0 : (Lit.int .i64 n).wf = true) (ht : Tab w) :
    Calls Tryd.prog 4 #[.int .i64 n] w fun e w' => e = .returned (.bool true) ∧ Below w.heap.size w w' := by
  clear _w0
  have HT := Lib.hid ht; clear ht
  by_cases c0 : n < 0
  · go_enter Tryd.func4, Tryd.ntmps4
    go_wp2_with fail
    refine (awake_any _).mono ?_
    rintro e w' ⟨rfl, rfl⟩
    go_wp2_with fail
    go_ret
    exact ⟨rfl, Below.refl _ _⟩
  · by_cases c1 : 3652058 ≤ n
    · go_enter Tryd.func4, Tryd.ntmps4
      go_wp2_with fail
      refine (awake_any _).mono ?_
      rintro e w' ⟨rfl, rfl⟩
      go_wp2_with fail
      go_ret
      exact ⟨rfl, Below.refl _ _⟩
    · obtain ⟨y, m, d, hd⟩ := date_there (n := n) (by omega) (by omega)
      obtain ⟨z, k, i, hi⟩ := date_there (n := n + 1) (by omega) (by omega)
      have hless := Dig.text_less hd.1 hi.1 (by rw [hd.2, hi.2]; omega)
      have hnx := Dig.next hd.1 hd.2 hi.1 hi.2
      have hv := hd.1
      obtain ⟨y1, y2, m1, m2, d1, d2⟩ := hv
      have hdim := Cal.dim_bd y m
      have HD := Lib.hid hd; clear hd
      have HI := Lib.hid hi; clear hi
      obtain ⟨S, hS⟩ : ∃ S : ByteArray, S = ⟨(Dig.text y m d).toArray⟩ := ⟨_, rfl⟩
      obtain ⟨T, hT⟩ : ∃ T : ByteArray, T = ⟨(Dig.text z k i).toArray⟩ := ⟨_, rfl⟩
      have hlt : Go.Op.bytesLess S.toList T.toList = true := by
        rw [ByteArray.toList_eq, ByteArray.toList_eq, hS, hT]; exact hless
      have HS := Lib.hid hS; clear hS
      have HTT := Lib.hid hT; clear hT hless
      have hge : Go.Op.bytesLess T.toList S.toList = false := bytesLess_asym hlt
      have hnx3 : (d < Cal.dim y m ∧ z = y ∧ k = m ∧ i = d + 1) ∨ (¬ d < Cal.dim y m ∧ i = 1 ∧ z = y ∧ k = m + 1) ∨ (¬ d < Cal.dim y m ∧ i = 1 ∧ z = y + 1 ∧ k = 1 ∧ m = 12) := by
        rcases hnx with h | ⟨a, b, ⟨c, e⟩ | ⟨c, e, f⟩⟩
        · exact .inl h
        · exact .inr (.inl ⟨a, b, c, e⟩)
        · exact .inr (.inr ⟨a, b, c, e, f⟩)
      clear hnx
      rcases hnx3 with ⟨hdd, rfl, rfl, rfl⟩ | ⟨hdd, rfl, rfl, rfl⟩ | ⟨hdd, rfl, rfl, rfl, rfl⟩
      all_goals
        go_enter Tryd.func4, Tryd.ntmps4
        go_wp2_with fail
        refine (awake_any _).mono ?_
        rintro e w' ⟨rfl, rfl⟩
        go_wp2_with fail
        refine (date_yes n (by omega) (by omega) _).mono ?_
        rintro e w1 ⟨he, hb1⟩
        rw [dateOf_get he HD.out]
        clear he
        go_wp2_with fail
        refine (date_yes (n + 1) (by omega) (by omega) _).mono ?_
        rintro e w2 ⟨he, hb2⟩
        rw [dateOf_get he HI.out]
        clear he
        have hb12 := hb1.trans (hb2.mono hb1.size)
        go_wp2_with fail
        refine (last_yes _ _ y1 y2 m1 m2 _).mono ?_
        rintro e w' ⟨rfl, rfl⟩
        go_wp2_with fail
        refine (text_yes n (by omega) (by omega) _ (HT.out.below hb12)).mono ?_
        rintro e w3 ⟨he, hb3⟩
        rw [textOf_get he HD.out, ← HS.out]
        clear he
        have hb13 := hb12.trans (hb3.mono hb12.size)
        go_wp2_with fail
        refine (text_yes (n + 1) (by omega) (by omega) _ (HT.out.below hb13)).mono ?_
        rintro e w4 ⟨he, hb4⟩
        rw [textOf_get he HI.out, ← HTT.out]
        clear he
        have hb14 := hb13.trans (hb4.mono hb13.size)
        go_wp2_with fail
        go_ret
        exact ⟨by first | rfl | simp, hb14⟩
end Go.Proofs.YtfifbcniilaehaaDoor
