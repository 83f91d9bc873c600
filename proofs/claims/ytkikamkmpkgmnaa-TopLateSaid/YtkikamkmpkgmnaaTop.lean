/- The walk of the law TopLate. -/
import Derived.Test.YtkikamkmpkgmnaaBill
import Derived.Deep.RegionHeld
import Derived.IntWalk
namespace Go.Proofs.Ytkikamkmpkgmnaa
open Go.RowKit

theorem months_100 (w : World) : Calls Try.prog 4 #[.int .i64 100, .int .i64 1] w fun e w' => e = .returned (.tuple #[.int .i64 130, .int .i64 0]) ∧ Below w.heap.size w w' := by
  refine (months_yes 100 1 (by omega) (by omega) (by omega) (by omega) w).mono ?_
  rintro e w' ⟨⟨y, m, d, hd, hh⟩, hb⟩
  have h0 : IsDate 100 1 4 11 := ⟨by decide, by decide⟩
  obtain ⟨rfl, rfl, rfl⟩ := isDate_inj h0 hd
  refine ⟨?_, hb⟩
  rcases hh with ⟨_, _, rfl⟩ | ⟨hno, _⟩
  · have : Cal.num (mYear 1 4 1) (mMonth 1 4 1) (mDay 1 4 11 1) = 130 := by decide
    rw [this]
  · exact absurd (by decide) hno
theorem bill_at {lbp most least due y m d q wh : Int} {e : Ending} (h : BillOf lbp most least due (Cal.num (mYear y m q) (mMonth y m q) (mDay y m d q)) wh e) (hd : IsDate due y m d) (h0 : 0 ≤ q) (h1 : 1 ≤ mYear y m q) (h2 : mYear y m q ≤ 9999) (hw : 0 ≤ wh) :
    ∃ t P X p : Int, 0 ≤ P ∧ P ≤ 2251799813685248 ∧ p = penV lbp most least P q ∧ e = .returned (.tuple #[.agg #[.int .i64 t, .int .i64 P, .int .i64 p, .int .i64 X], .int .i64 0]) := by
  obtain ⟨t, L, t0, t1, hl, _, _, rfl⟩ := h
  obtain rfl := late_at hd h0 h1 h2 hl
  exact ⟨t, _, _, _, by omega, by omega, rfl, rfl⟩
theorem bill_next {lbp most least due y m d q wh : Int} {e : Ending} (h : BillOf lbp most least due (Cal.num (mYear y m q) (mMonth y m q) (mDay y m d q) + 1) wh e) (hd : IsDate due y m d) (h0 : 0 ≤ q) (h1 : 1 ≤ mYear y m q) (h2 : mYear y m q ≤ 9999) (hw : 0 ≤ wh) :
    ∃ t P X p : Int, 0 ≤ P ∧ P ≤ 2251799813685248 ∧ p = penV lbp most least P (q + 1) ∧ e = .returned (.tuple #[.agg #[.int .i64 t, .int .i64 P, .int .i64 p, .int .i64 X], .int .i64 0]) := by
  obtain ⟨t, L, t0, t1, hl, _, _, rfl⟩ := h
  obtain rfl := late_next hd h0 h1 h2 hl
  exact ⟨t, _, _, _, by omega, by omega, rfl, rfl⟩
theorem top_keep {w w' : World} {B ga gb : Nat} {A : Option Addr} {n c : Nat} {ded cred lbp most least t1 P1 p1 X1 t2 P2 p2 X2 : Int} (hs : Box w B A n c ded cred lbp most least) (ha : ZBox w ga t1 P1 p1 X1) (hb : ZBox w gb t2 P2 p2 X2) (hl : Below w.heap.size w w') :
    w'.cell? ⟨B, 0, none⟩ = some (.slice A n c) ∧ w'.cell? ⟨B, 1, none⟩ = some (.int .i64 ded) ∧ w'.cell? ⟨B, 2, none⟩ = some (.int .i64 cred) ∧ w'.cell? ⟨B, 3, none⟩ = some (.int .i64 lbp) ∧ w'.cell? ⟨B, 4, none⟩ = some (.int .i64 most) ∧ w'.cell? ⟨B, 5, none⟩ = some (.int .i64 least) ∧
      w'.cell? ⟨ga, 1, none⟩ = some (.int .i64 P1) ∧ w'.cell? ⟨ga, 2, none⟩ = some (.int .i64 p1) ∧ w'.cell? ⟨gb, 1, none⟩ = some (.int .i64 P2) ∧ w'.cell? ⟨gb, 2, none⟩ = some (.int .i64 p2) ∧ Below w.heap.size w w' := by
  have h1 := hs.on hl
  have h2 := ha.on hl
  have h3 := hb.on hl
  exact ⟨h1.c0, h1.c1, h1.c2, h1.c3, h1.c4, h1.c5, cell_of_row w' ga 1 _ _ (0, 0) h2, cell_of_row w' ga 2 _ _ (0, 0) h2, cell_of_row w' gb 1 _ _ (0, 0) h3, cell_of_row w' gb 2 _ _ (0, 0) h3, hl⟩
theorem size_set (w : World) (a : Addr) (v : Value) : (w.setCell a v).heap.size = w.heap.size := by simp [World.setCell]
theorem RBox.set {w : World} {g : Nat} {per due filed inc wh v : Int} (h : RBox w g per due filed inc wh) : RBox (w.setCell ⟨g, 2, none⟩ (.int .i64 v)) g per due v inc wh := by
  have := heap_setCell_same w g 2 _ _ (.int .i64 v) h
  simpa [RBox] using this
theorem Box.other {w : World} {g g' : Nat} {A : Option Addr} {n c : Nat} {ded cred lbp most least : Int} (h : Box w g A n c ded cred lbp most least) (hne : g ≠ g') (j : Nat) (v : Value) : Box (w.setCell ⟨g', j, none⟩ v) g A n c ded cred lbp most least := (Below.heap_setCell w _ _ _ hne).trans h
theorem ZBox.other {w : World} {g g' : Nat} {a b c d : Int} (h : ZBox w g a b c d) (hne : g ≠ g') (j : Nat) (v : Value) : ZBox (w.setCell ⟨g', j, none⟩ v) g a b c d := (Below.heap_setCell w _ _ _ hne).trans h

set_option maxHeartbeats 800000 in
set_option maxRecDepth 100000 in
theorem topLate_walk0 (A : Option Addr) (c : Nat) (l : List Br) (ded cred lbp most least per due filed inc wh q : Int) (w : World) (h : RdS w w.heap.size A l) (hl : l.length ≤ 9223372036854775807) :
    Calls Try.prog 3 #[.agg #[.slice A l.length c, .int .i64 ded, .int .i64 cred, .int .i64 lbp, .int .i64 most, .int .i64 least], .agg #[.int .i64 per, .int .i64 due, .int .i64 filed, .int .i64 inc, .int .i64 wh], .int .i64 q] w fun e w' => e = .returned (.bool true) ∧ Below w.heap.size w w' := by
  have K0 := Lib.hid months_100
  have KS := Lib.hid (fun w h => rright_any A c l ded cred lbp most least w h hl)
  have KR := Lib.hid (rret_any per due filed inc wh)
  have hs0 : Box ((w.alloc (.cells #[.slice A l.length c, .int .i64 ded, .int .i64 cred, .int .i64 lbp, .int .i64 most, .int .i64 least] 24)).alloc (.cells #[.int .i64 per, .int .i64 due, .int .i64 filed, .int .i64 inc, .int .i64 wh] 26)) w.heap.size A l.length c ded cred lbp most least := by
    unfold Box; rw [Below.heap_alloc _ _ _ (by simp)]; exact heap_alloc_new w _
  have hr0 : RBox ((w.alloc (.cells #[.slice A l.length c, .int .i64 ded, .int .i64 cred, .int .i64 lbp, .int .i64 most, .int .i64 least] 24)).alloc (.cells #[.int .i64 per, .int .i64 due, .int .i64 filed, .int .i64 inc, .int .i64 wh] 26)) (w.heap.size + 1) per due filed inc wh := by
    unfold RBox
    have := heap_alloc_new (w.alloc (.cells #[.slice A l.length c, .int .i64 ded, .int .i64 cred, .int .i64 lbp, .int .i64 most, .int .i64 least] 24)) (.cells #[.int .i64 per, .int .i64 due, .int .i64 filed, .int .i64 inc, .int .i64 wh] 26)
    simpa using this
  have hb0 : Below w.heap.size w ((w.alloc (.cells #[.slice A l.length c, .int .i64 ded, .int .i64 cred, .int .i64 lbp, .int .i64 most, .int .i64 least] 24)).alloc (.cells #[.int .i64 per, .int .i64 due, .int .i64 filed, .int .i64 inc, .int .i64 wh] 26)) :=
    ((Below.refl _ _).alloc (Nat.le_refl _) _).alloc (by simp) _
  have HS0 := Lib.hid hs0; have HR0 := Lib.hid hr0; have HB0 := Lib.hid hb0
  clear hs0 hr0 hb0
  go_enter Try.func3, Try.ntmps3
  go_wp2_with fail
  refine (K0.out _).mono ?_
  rintro e w1 ⟨rfl, hb1⟩
  have hb01 := HB0.out.trans (hb1.mono HB0.out.size)
  have HS1 := Lib.hid (HS0.out.on hb1); have HR1 := Lib.hid (HR0.out.on hb1)
  have s0 := HS1.out.c0
  have s1 := HS1.out.c1
  have s2 := HS1.out.c2
  have s3 := HS1.out.c3
  have s4 := HS1.out.c4
  have s5 := HS1.out.c5
  clear hb1
  go_wp2_with fail
  refine (KS.out _ ((h.below hb01 (Nat.le_refl _)).more hb01.size)).mono ?_
  rintro e w2 ⟨b1, rfl, hok, hb2⟩
  have hb02 := hb01.trans (hb2.mono hb01.size)
  have HS2 := Lib.hid (HS1.out.on hb2); have HR2 := Lib.hid (HR1.out.on hb2)
  have HOK := Lib.hid hok
  clear s0 s1 s2 s3 s4 s5 hb2 hb01 hok
  have r0 := cell_of_row w2 (w.heap.size + 1) 0 _ _ (0, 0) HR2.out
  have r1 := cell_of_row w2 (w.heap.size + 1) 1 _ _ (0, 0) HR2.out
  have r2 := cell_of_row w2 (w.heap.size + 1) 2 _ _ (0, 0) HR2.out
  have r3 := cell_of_row w2 (w.heap.size + 1) 3 _ _ (0, 0) HR2.out
  have r4 := cell_of_row w2 (w.heap.size + 1) 4 _ _ (0, 0) HR2.out
  simp at r0 r1 r2 r3 r4
  go_wp2_with fail
  refine (KR.out _).mono ?_
  rintro e w3 ⟨b2, rfl, hrok, hb3⟩
  have hb03 := hb02.trans (hb3.mono hb02.size)
  have HS3 := Lib.hid (HS2.out.on hb3); have HR3 := Lib.hid (HR2.out.on hb3)
  have HROK := Lib.hid hrok
  clear r0 r1 r2 r3 r4 hb3 hb02 hrok
  cases b1 with
  | false =>
    go_wp2_with fail
    go_ret
    exact ⟨rfl, hb03⟩
  | true =>
    cases b2 with
    | false =>
      go_wp2_with fail
      go_ret
      exact ⟨rfl, hb03⟩
    | true =>
      by_cases q0 : q < 0
      · go_wp2_with fail
        go_ret
        exact ⟨rfl, hb03⟩
      · by_cases q1 : 100 < q
        · go_wp2_with fail
          go_ret
          exact ⟨rfl, hb03⟩
        · skip
          have ok := HOK.out rfl
          have rok := HROK.out rfl
          have d0 := rok.due0
          have d1 := rok.due1
          have whp := rok.wh.1
          have len10 := ok.ten
          have HO := Lib.hid ok; have HRO := Lib.hid rok
          clear ok rok HOK HROK
          have s0 := HS3.out.c0
          have r1 := cell_of_row w3 (w.heap.size + 1) 1 _ _ (0, 0) HR3.out
          simp at r1
          go_wp2_with fail
          refine (months_yes due q d0 d1 (by omega) (by omega) _).mono ?_
          rintro e w4 ⟨⟨y, m, d, hd, hh⟩, hb4⟩
          have HD := Lib.hid hd; clear hd
          have hb04 := hb03.trans (hb4.mono hb03.size)
          have HS4 := Lib.hid (HS3.out.on hb4); have HR4 := Lib.hid (HR3.out.on hb4)
          clear s0 r1 hb4 hb03
          rcases hh with ⟨y1, y2, rfl⟩ | ⟨_, rfl⟩
          · obtain ⟨a, ha⟩ : ∃ a, a = Cal.num (mYear y m q) (mMonth y m q) (mDay y m d q) := ⟨_, rfl⟩
            have hav := at_valid HD.out y1 y2
            have habd := Cal.num_bd _ _ _ hav
            rw [← ha] at habd ⊢
            have HY1 := Lib.hid y1; have HY2 := Lib.hid y2; have HA := Lib.hid ha
            clear ha hav y1 y2
            obtain ⟨a0, a1⟩ := habd
            by_cases hbig : 3652058 ≤ a
            · go_wp2_with fail
              go_ret
              exact ⟨rfl, hb04⟩
            · have K1 : Hid (∀ w : World, RdS w w.heap.size A l → Calls Try.prog 7 #[.agg #[.slice A l.length c, .int .i64 ded, .int .i64 cred, .int .i64 lbp, .int .i64 most, .int .i64 least], .agg #[.int .i64 per, .int .i64 due, .int .i64 a, .int .i64 inc, .int .i64 wh]] w fun e w' => (∃ t P X p : Int, 0 ≤ P ∧ P ≤ 2251799813685248 ∧ p = penV lbp most least P q ∧ e = .returned (.tuple #[.agg #[.int .i64 t, .int .i64 P, .int .i64 p, .int .i64 X], .int .i64 0])) ∧ Below w.heap.size w w') := Lib.hid (fun w hw => (bill_any A c l ded cred lbp most least per due a inc wh w hw HO.out ⟨HRO.out.per0, HRO.out.per1, d0, d1, a0, a1, HRO.out.inc, HRO.out.wh⟩).mono fun e w' ⟨h1, h2⟩ => ⟨bill_at (by rw [← HA.out]; exact h1) HD.out (by omega) HY1.out HY2.out whp, h2⟩)
              have K2 : Hid (∀ w : World, RdS w w.heap.size A l → Calls Try.prog 7 #[.agg #[.slice A l.length c, .int .i64 ded, .int .i64 cred, .int .i64 lbp, .int .i64 most, .int .i64 least], .agg #[.int .i64 per, .int .i64 due, .int .i64 (a + 1), .int .i64 inc, .int .i64 wh]] w fun e w' => (∃ t P X p : Int, 0 ≤ P ∧ P ≤ 2251799813685248 ∧ p = penV lbp most least P (q + 1) ∧ e = .returned (.tuple #[.agg #[.int .i64 t, .int .i64 P, .int .i64 p, .int .i64 X], .int .i64 0])) ∧ Below w.heap.size w w') := Lib.hid (fun w hw => (bill_any A c l ded cred lbp most least per due (a + 1) inc wh w hw HO.out ⟨HRO.out.per0, HRO.out.per1, d0, d1, by omega, by omega, HRO.out.inc, HRO.out.wh⟩).mono fun e w' ⟨h1, h2⟩ => ⟨bill_next (by rw [← HA.out]; exact h1) HD.out (by omega) HY1.out HY2.out whp, h2⟩)
              have hz4 := hb04.size
              have hne : w.heap.size ≠ w.heap.size + 1 := by omega
              have hb04' := hb04.setCell (p := ⟨w.heap.size + 1, 2, none⟩) (by show w.heap.size ≤ w.heap.size + 1; omega) (.int .i64 a)
              have HS4' := Lib.hid (HS4.out.other hne 2 (.int .i64 a))
              have HR4' := Lib.hid (HR4.out.set (v := a))
              have HB4' := Lib.hid hb04'
              clear hb04'
              have s0 := HS4.out.c0
              have s1 := HS4.out.c1
              have s2 := HS4.out.c2
              have s3 := HS4.out.c3
              have s4 := HS4.out.c4
              have s5 := HS4.out.c5
              have r0 := cell_of_row w4 (w.heap.size + 1) 0 _ _ (0, 0) HR4.out
              have r1 := cell_of_row w4 (w.heap.size + 1) 1 _ _ (0, 0) HR4.out
              have r2 := cell_of_row w4 (w.heap.size + 1) 2 _ _ (0, 0) HR4.out
              have r3 := cell_of_row w4 (w.heap.size + 1) 3 _ _ (0, 0) HR4.out
              have r4 := cell_of_row w4 (w.heap.size + 1) 4 _ _ (0, 0) HR4.out
              simp at r0 r1 r2 r3 r4
              have f2 := frozen_of_row w4 (w.heap.size + 1) 2 _ _ HR4.out
              go_wp2_with fail
              refine (K1.out _ ((h.below HB4'.out (Nat.le_refl _)).more HB4'.out.size)).mono ?_
              rintro e w5 ⟨⟨t1, P1, X1, p1, hP10, hP11, hp1, rfl⟩, hb5⟩
              have HP1 := Lib.hid hp1; clear hp1
              have hb05 := HB4'.out.trans (hb5.mono HB4'.out.size)
              have HS5 := Lib.hid (HS4'.out.on hb5); have HR5 := Lib.hid (HR4'.out.on hb5)
              clear s0 s1 s2 s3 s4 s5 r0 r1 r2 r3 r4 f2 hb5 hb04
              have hz5 := hb05.size
              have hlt5 := heap_lt HR5.out
              have hltS5 := heap_lt HS5.out
              have hbs5 : Below w.heap.size w (w5.setCell ⟨w.heap.size + 1, 2, none⟩ (.int .i64 (a + 1))) := hb05.setCell (by show w.heap.size ≤ w.heap.size + 1; omega) _
              have hsz5 : (w5.setCell ⟨w.heap.size + 1, 2, none⟩ (.int .i64 (a + 1))).heap.size = w5.heap.size := size_set w5 _ _
              have hal5 : Below (w5.setCell ⟨w.heap.size + 1, 2, none⟩ (.int .i64 (a + 1))).heap.size (w5.setCell ⟨w.heap.size + 1, 2, none⟩ (.int .i64 (a + 1))) ((w5.setCell ⟨w.heap.size + 1, 2, none⟩ (.int .i64 (a + 1))).alloc (.cells #[.int .i64 t1, .int .i64 P1, .int .i64 p1, .int .i64 X1] 33)) := (Below.refl _ _).alloc (Nat.le_refl _) _
              have HB5' := Lib.hid (hbs5.trans (hal5.mono hbs5.size))
              have HS5' := Lib.hid ((HS5.out.other hne 2 (.int .i64 (a + 1))).on hal5)
              have HR5' := Lib.hid ((HR5.out.set (v := a + 1)).on hal5)
              have HG5' : Hid (ZBox ((w5.setCell ⟨w.heap.size + 1, 2, none⟩ (.int .i64 (a + 1))).alloc (.cells #[.int .i64 t1, .int .i64 P1, .int .i64 p1, .int .i64 X1] 33)) w5.heap.size t1 P1 p1 X1) := Lib.hid (by
                have := heap_alloc_new (w5.setCell ⟨w.heap.size + 1, 2, none⟩ (.int .i64 (a + 1))) (.cells #[.int .i64 t1, .int .i64 P1, .int .i64 p1, .int .i64 X1] 33)
                rw [hsz5] at this
                exact this)
              clear hal5 hbs5 hsz5
              have s0 := HS5.out.c0
              have s1 := HS5.out.c1
              have s2 := HS5.out.c2
              have s3 := HS5.out.c3
              have s4 := HS5.out.c4
              have s5 := HS5.out.c5
              have r0 := cell_of_row w5 (w.heap.size + 1) 0 _ _ (0, 0) HR5.out
              have r1 := cell_of_row w5 (w.heap.size + 1) 1 _ _ (0, 0) HR5.out
              have r2 := cell_of_row w5 (w.heap.size + 1) 2 _ _ (0, 0) HR5.out
              have r3 := cell_of_row w5 (w.heap.size + 1) 3 _ _ (0, 0) HR5.out
              have r4 := cell_of_row w5 (w.heap.size + 1) 4 _ _ (0, 0) HR5.out
              simp at r0 r1 r2 r3 r4
              have f2 := frozen_of_row w5 (w.heap.size + 1) 2 _ _ HR5.out
              go_wp2_with fail
              refine (K2.out _ ((h.below HB5'.out (Nat.le_refl _)).more HB5'.out.size)).mono ?_
              rintro e w6 ⟨⟨t2, P2, X2, p2, hP20, hP21, hp2, rfl⟩, hb6⟩
              have HP2 := Lib.hid hp2; clear hp2
              have hb06 := HB5'.out.trans (hb6.mono HB5'.out.size)
              have HS6 := Lib.hid (HS5'.out.on hb6); have HG6 := Lib.hid (HG5'.out.on hb6)
              clear s0 s1 s2 s3 s4 s5 r0 r1 r2 r3 r4 f2 hb6 hb05
              have hz6 := hb06.size
              have hal6 : Below w6.heap.size w6 (w6.alloc (.cells #[.int .i64 t2, .int .i64 P2, .int .i64 p2, .int .i64 X2] 33)) := (Below.refl _ _).alloc (Nat.le_refl _) _
              have HS7 := Lib.hid (HS6.out.on hal6); have HG7 := Lib.hid (HG6.out.on hal6)
              have HZ7 : Hid (ZBox (w6.alloc (.cells #[.int .i64 t2, .int .i64 P2, .int .i64 p2, .int .i64 X2] 33)) w6.heap.size t2 P2 p2 X2) := Lib.hid (heap_alloc_new w6 _)
              have hb07 := hb06.trans (hal6.mono hz6)
              have PK1 := Lib.hid (penalty_any A l.length c ded cred lbp most least P1 q HO.out.lbp0 HO.out.lbp1 HO.out.most0 HO.out.most1 HO.out.least hP10 hP11 (by omega) (by omega))
              have PK2 := Lib.hid (penalty_any A l.length c ded cred lbp most least P2 (q + 1) HO.out.lbp0 HO.out.lbp1 HO.out.most0 HO.out.most1 HO.out.least hP20 hP21 (by omega) (by omega))
              rw [← HP1.out] at PK1
              rw [← HP2.out] at PK2
              obtain ⟨W, hW⟩ : ∃ W, W = w6.alloc (.cells #[.int .i64 t2, .int .i64 P2, .int .i64 p2, .int .i64 X2] 33) := ⟨_, rfl⟩
              rw [← hW] at HS7 HG7 HZ7 hb07
              have HW := Lib.hid hW; clear hW hal6
              go_wp2_with fail
              rw [← HW.out]
              have hwr : IntKind.i64.wrap (q + 1) = q + 1 := IntWalk.i64_in _ (by omega)
              have keep0 := top_keep HS7.out HG7.out HZ7.out ((Below.refl W.heap.size W).drew)
              go_region_held (fun w' => w'.cell? ⟨w.heap.size, 0, none⟩ = some (.slice A l.length c) ∧ w'.cell? ⟨w.heap.size, 1, none⟩ = some (.int .i64 ded) ∧ w'.cell? ⟨w.heap.size, 2, none⟩ = some (.int .i64 cred) ∧ w'.cell? ⟨w.heap.size, 3, none⟩ = some (.int .i64 lbp) ∧ w'.cell? ⟨w.heap.size, 4, none⟩ = some (.int .i64 most) ∧ w'.cell? ⟨w.heap.size, 5, none⟩ = some (.int .i64 least) ∧
                  w'.cell? ⟨w5.heap.size, 1, none⟩ = some (.int .i64 P1) ∧ w'.cell? ⟨w5.heap.size, 2, none⟩ = some (.int .i64 p1) ∧ w'.cell? ⟨w6.heap.size, 1, none⟩ = some (.int .i64 P2) ∧ w'.cell? ⟨w6.heap.size, 2, none⟩ = some (.int .i64 p2) ∧ Below W.heap.size W w')
                (first | exact keep0 | exact top_keep HS7.out HG7.out HZ7.out B3)
                (first
                  | (go_at_call 8; (with_reducible refine (PK1.out _).mono ?_); rintro e w8 ⟨rfl, hb8⟩; have B3 := Below.trans (b := _) (by go_split_ands; assumption : Below W.heap.size W _) (hb8.mono (by go_split_ands; exact Below.size (by assumption))))
                  | (go_at_call 8; (with_reducible refine (PK2.out _).mono ?_); rintro e w8 ⟨rfl, hb8⟩; have B3 := Below.trans (b := _) (by go_split_ands; assumption : Below W.heap.size W _) (hb8.mono (by go_split_ands; exact Below.size (by assumption)))))
              go_wp2_with fail
              go_ret
              exact ⟨by first | rfl | simp, hb07.trans (B3.mono hb07.size)⟩
          · go_wp2_with fail
            go_ret
            exact ⟨rfl, hb04⟩
theorem topLate_walk (A : Option Addr) (c : Nat) (l : List Br) (ded cred lbp most least per due filed inc wh q : Int) (w : World) (h : RdS w w.heap.size A l) (hl : l.length ≤ 9223372036854775807) (_w : (Lit.int .i64 q).wf = true) :
    Calls Try.prog 3 #[.agg #[.slice A l.length c, .int .i64 ded, .int .i64 cred, .int .i64 lbp, .int .i64 most, .int .i64 least], .agg #[.int .i64 per, .int .i64 due, .int .i64 filed, .int .i64 inc, .int .i64 wh], .int .i64 q] w fun e w' => e = .returned (.bool true) ∧ Below w.heap.size w w' :=
  topLate_walk0 A c l ded cred lbp most least per due filed inc wh q w h hl
end Go.Proofs.Ytkikamkmpkgmnaa
