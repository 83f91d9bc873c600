/- The walk of the law TopBills. -/
import Derived.Test.YtkgoaodpjeonnaaAcj
namespace Go.Proofs.Ytkgoaodpjeonnaa
open Go.RowKit

theorem intV_want (D bp due P : Int) : intV D bp due P = simV P bp (max (D - due) 0) := by
  unfold intV
  by_cases h : D < due
  · rw [if_pos h, show max (D - due) 0 = 0 by omega, simV_zero]
  · rw [if_neg h, show max (D - due) 0 = D - due by omega]
/-- What Bill hands back, whatever it is given. -/
def BillAny (w : World) (e : Ending) (w' : World) : Prop := ∃ t P N X f : Int, e = .returned (.tuple #[.agg #[.int .i64 t, .int .i64 P, .int .i64 N, .int .i64 X], .int .i64 f]) ∧ Below w.heap.size w w'
theorem bill_total (A : Option Addr) (c : Nat) (l : List Br) (ded cred lbp most least per due filed inc wh : Int) (w : World) (h : RdS w w.heap.size A l) (hl : l.length ≤ 9223372036854775807) :
    Calls Try.prog 5 #[.agg #[.slice A l.length c, .int .i64 ded, .int .i64 cred, .int .i64 lbp, .int .i64 most, .int .i64 least], .agg #[.int .i64 per, .int .i64 due, .int .i64 filed, .int .i64 inc, .int .i64 wh]] w (BillAny w) := by
  by_cases hok : SchOk l ded cred lbp most least ∧ RetOk per due filed inc wh
  · refine (bill_fun A c l ded cred lbp most least per due filed inc wh w h hok.1 hok.2).mono ?_
    rintro e w' ⟨⟨L, _, _, _, _, _, rfl⟩, hb⟩
    exact ⟨_, _, _, _, _, rfl, hb⟩
  · refine (bill_no A c l ded cred lbp most least per due filed inc wh w h hl hok).mono ?_
    rintro e w' ⟨rfl, hb⟩
    exact ⟨_, _, _, _, _, rfl, hb⟩
theorem new_yes (day bp : Int) (d0 : 0 ≤ day) (d1 : day ≤ 3652058) (b0 : 0 ≤ bp) (b1 : bp ≤ 100000) (w : World) : Calls Try.prog 4 #[.int .i64 day, .int .i64 bp] w fun e w' => e = .returned (.tuple #[.pointer (some ⟨w.heap.size, 0, none⟩), .int .i64 0]) ∧ w' = w.alloc (.cells #[.int .i64 day, .int .i64 bp, .int .i64 0, .slice none 0 0, .slice none 0 0] 50) := by
  have K1 := Lib.hid (within_at day 0 3652058 d0 d1)
  have K2 := Lib.hid (within_at bp 0 100000 b0 b1)
  go_enter Try.func4, Try.ntmps4
  go_wp2_with fail
  refine (K1.out _).mono ?_
  rintro e w1 ⟨rfl, rfl⟩
  go_wp2_with fail
  refine (K2.out _).mono ?_
  rintro e w1 ⟨rfl, rfl⟩
  go_wp2_with fail
  go_ret2
  exact ⟨rfl, rfl⟩
theorem new_no (day bp : Int) (d0 : 0 ≤ day) (d1 : day ≤ 3652058) (h : ¬ (0 ≤ bp ∧ bp ≤ 100000)) (w : World) : Calls Try.prog 4 #[.int .i64 day, .int .i64 bp] w fun e w' => e = .returned (.tuple #[.pointer none, .int .i64 1]) ∧ w' = w := by
  have K1 := Lib.hid (within_at day 0 3652058 d0 d1)
  have K2 := Lib.hid (within_b bp 0 100000 false (by rw [Bool.eq_iff_iff]; simp; omega))
  clear h
  go_enter Try.func4, Try.ntmps4
  go_wp2_with fail
  refine (K1.out _).mono ?_
  rintro e w1 ⟨rfl, rfl⟩
  go_wp2_with fail
  refine (K2.out _).mono ?_
  rintro e w1 ⟨rfl, rfl⟩
  go_wp2_with fail
  go_ret2
  exact ⟨rfl, rfl⟩
/-- What lies while the law runs: the boxed schedule and return. -/
structure TB (w X : World) (A : Option Addr) (n c : Nat) (ded cred lbp most least per due filed inc wh : Int) : Prop where
  s : Box X w.heap.size A n c ded cred lbp most least
  r : RBox X (w.heap.size + 1) per due filed inc wh
  below : Below w.heap.size w X
  size : w.heap.size + 3 ≤ X.heap.size
section
variable {w X X' : World} {A : Option Addr} {n c : Nat} {ded cred lbp most least per due filed inc wh : Int}
theorem TB.on (h : TB w X A n c ded cred lbp most least per due filed inc wh) (hb : Below X.heap.size X X') : TB w X' A n c ded cred lbp most least per due filed inc wh :=
  ⟨h.s.on hb, h.r.on hb, h.below.trans (hb.mono h.below.size), Nat.le_trans h.size hb.size⟩
theorem TB.but (h : TB w X A n c ded cred lbp most least per due filed inc wh) {g : Nat} (hb : But [g] X X') (hg : w.heap.size + 3 ≤ g) : TB w X' A n c ded cred lbp most least per due filed inc wh := by
  have := h.size
  exact ⟨(hb.block _ (by omega) (by simp; omega)).trans h.s, (hb.block _ (by omega) (by simp; omega)).trans h.r, h.below.trans (hb.below (by omega) (by simp; omega)), Nat.le_trans h.size hb.size⟩
theorem TB.cells (h : TB w X A n c ded cred lbp most least per due filed inc wh) : X.cell? ⟨w.heap.size, 0, none⟩ = some (.slice A n c) ∧ X.cell? ⟨w.heap.size, 1, none⟩ = some (.int .i64 ded) ∧ X.cell? ⟨w.heap.size, 2, none⟩ = some (.int .i64 cred) ∧ X.cell? ⟨w.heap.size, 3, none⟩ = some (.int .i64 lbp) ∧ X.cell? ⟨w.heap.size, 4, none⟩ = some (.int .i64 most) ∧ X.cell? ⟨w.heap.size, 5, none⟩ = some (.int .i64 least) ∧
    X.cell? ⟨w.heap.size + 1, 0, none⟩ = some (.int .i64 per) ∧ X.cell? ⟨w.heap.size + 1, 1, none⟩ = some (.int .i64 due) ∧ X.cell? ⟨w.heap.size + 1, 2, none⟩ = some (.int .i64 filed) ∧ X.cell? ⟨w.heap.size + 1, 3, none⟩ = some (.int .i64 inc) ∧ X.cell? ⟨w.heap.size + 1, 4, none⟩ = some (.int .i64 wh) := by
  refine ⟨h.s.c0, h.s.c1, h.s.c2, h.s.c3, h.s.c4, h.s.c5, ?_, ?_, ?_, ?_, ?_⟩
  all_goals (rw [cell_of_row X (w.heap.size + 1) _ _ _ (0, 0) h.r]; rfl)
theorem TB.new (w : World) (A : Option Addr) (n c : Nat) (ded cred lbp most least per due filed inc wh a b : Int) :
    TB w (((w.alloc (.cells #[.slice A n c, .int .i64 ded, .int .i64 cred, .int .i64 lbp, .int .i64 most, .int .i64 least] 24)).alloc (.cells #[.int .i64 per, .int .i64 due, .int .i64 filed, .int .i64 inc, .int .i64 wh] 26)).alloc (.cells #[.int .i64 a, .int .i64 b] 27)) A n c ded cred lbp most least per due filed inc wh := by
  refine ⟨?_, ?_, (((Below.refl _ _).alloc (Nat.le_refl _) _).alloc (by simp) _).alloc (by simp; omega) _, by simp⟩
  · unfold Box; rw [Below.heap_alloc _ _ _ (by simp; omega), Below.heap_alloc _ _ _ (by simp)]; exact heap_alloc_new w _
  · unfold RBox; rw [Below.heap_alloc _ _ _ (by simp)]
    have := heap_alloc_new (w.alloc (.cells #[.slice A n c, .int .i64 ded, .int .i64 cred, .int .i64 lbp, .int .i64 most, .int .i64 least] 24)) (.cells #[.int .i64 per, .int .i64 due, .int .i64 filed, .int .i64 inc, .int .i64 wh] 26)
    simpa using this
end
set_option maxHeartbeats 2000000 in
set_option maxRecDepth 100000 in
theorem topBills_walk0 (A : Option Addr) (c : Nat) (l : List Br) (ded cred lbp most least per due filed inc wh bp days : Int) (w : World) (h : RdS w w.heap.size A l) (hl : l.length ≤ 9223372036854775807) :
    Calls Try.prog 3 #[.agg #[.slice A l.length c, .int .i64 ded, .int .i64 cred, .int .i64 lbp, .int .i64 most, .int .i64 least], .agg #[.int .i64 per, .int .i64 due, .int .i64 filed, .int .i64 inc, .int .i64 wh], .agg #[.int .i64 bp, .int .i64 days]] w fun e w' => e = .returned (.bool true) ∧ Below w.heap.size w w' := by
  have hT0 := TB.new w A l.length c ded cred lbp most least per due filed inc wh bp days
  obtain ⟨W0, hW0⟩ : ∃ W0, ((w.alloc (.cells #[.slice A l.length c, .int .i64 ded, .int .i64 cred, .int .i64 lbp, .int .i64 most, .int .i64 least] 24)).alloc (.cells #[.int .i64 per, .int .i64 due, .int .i64 filed, .int .i64 inc, .int .i64 wh] 26)).alloc (.cells #[.int .i64 bp, .int .i64 days] 27) = W0 := ⟨_, rfl⟩
  rw [hW0] at hT0
  have HW0 := Lib.hid hW0
  have hal := (Below.refl W0.heap.size W0).alloc (Nat.le_refl _) (.cells #[.int .i64 100, .int .i64 0, .int .i64 0, .slice none 0 0, .slice none 0 0] 50)
  have HT1 := Lib.hid (hT0.on hal)
  have HT0 := Lib.hid hT0
  obtain ⟨W1, hW1⟩ : ∃ W1, W0.alloc (.cells #[.int .i64 100, .int .i64 0, .int .i64 0, .slice none 0 0, .slice none 0 0] 50) = W1 := ⟨_, rfl⟩
  rw [hW1] at HT1
  have HW1 := Lib.hid hW1
  have KN := Lib.hid (new_yes 100 0 (by omega) (by omega) (by omega) (by omega) W0)
  clear hT0 hW0 hal hW1
  obtain ⟨s0, s1, s2, s3, s4, s5, r0, r1, r2, r3, r4⟩ := HT1.out.cells
  have hz3 : W0.heap.size + 1 = W1.heap.size := by rw [← HW1.out]; simp
  have HZ3 := Lib.hid hz3; clear hz3
  by_cases t0 : 100 < (l.length : Int)
  · go_enter Try.func3, Try.ntmps3
    go_wp2_with fail
    rw [HW0.out]
    refine KN.out.mono ?_
    rintro e w1 ⟨rfl, rfl⟩
    rw [HW1.out]
    go_wp2_with fail
    go_ret
    exact ⟨rfl, HT1.out.below⟩
  · by_cases t1 : days < 0
    · go_enter Try.func3, Try.ntmps3
      go_wp2_with fail
      rw [HW0.out]
      refine KN.out.mono ?_
      rintro e w1 ⟨rfl, rfl⟩
      rw [HW1.out]
      go_wp2_with fail
      go_ret
      exact ⟨rfl, HT1.out.below⟩
    · by_cases t2 : 36500 < days
      · go_enter Try.func3, Try.ntmps3
        go_wp2_with fail
        rw [HW0.out]
        refine KN.out.mono ?_
        rintro e w1 ⟨rfl, rfl⟩
        rw [HW1.out]
        go_wp2_with fail
        go_ret
        exact ⟨rfl, HT1.out.below⟩
      · by_cases t3 : filed < 0
        · go_enter Try.func3, Try.ntmps3
          go_wp2_with fail
          rw [HW0.out]
          refine KN.out.mono ?_
          rintro e w1 ⟨rfl, rfl⟩
          rw [HW1.out]
          go_wp2_with fail
          go_ret
          exact ⟨rfl, HT1.out.below⟩
        · by_cases t4 : 3652058 - days < filed
          · go_enter Try.func3, Try.ntmps3
            go_wp2_with fail
            rw [HW0.out]
            refine KN.out.mono ?_
            rintro e w1 ⟨rfl, rfl⟩
            rw [HW1.out]
            go_wp2_with fail
            go_ret
            exact ⟨rfl, HT1.out.below⟩
          · by_cases hbp : 0 ≤ bp ∧ bp ≤ 100000
            · have KN2 := Lib.hid (new_yes filed bp (by omega) (by omega) hbp.1 hbp.2 W1)
              have hal2 := (Below.refl W1.heap.size W1).alloc (Nat.le_refl _) (.cells #[.int .i64 filed, .int .i64 bp, .int .i64 0, .slice none 0 0, .slice none 0 0] 50)
              have hT2 := HT1.out.on hal2
              have hA2 : AB (W1.alloc (.cells #[.int .i64 filed, .int .i64 bp, .int .i64 0, .slice none 0 0, .slice none 0 0] 50)) W1.heap.size filed bp 0 none 0 0 := heap_alloc_new W1 _
              obtain ⟨W2, hW2⟩ : ∃ W2, W1.alloc (.cells #[.int .i64 filed, .int .i64 bp, .int .i64 0, .slice none 0 0, .slice none 0 0] 50) = W2 := ⟨_, rfl⟩
              rw [hW2] at hT2 hA2
              have HW2 := Lib.hid hW2
              have HT2 := Lib.hid hT2
              have HA2 := Lib.hid hA2
              have HG : Hid (w.heap.size + 3 ≤ W1.heap.size) := Lib.hid HT1.out.size
              obtain ⟨ga, hga⟩ : ∃ ga, ga = W1.heap.size := ⟨_, rfl⟩
              rw [← hga] at HA2 HG KN2
              obtain ⟨x0, x1, x2, x3, x4, x5, y0, y1, y2, y3, y4⟩ := hT2.cells
              have HRD2 := Lib.hid ((h.below hT2.below (Nat.le_refl _)).more hT2.below.size)
              clear hal2 hT2 hA2 hW2 hga
              by_cases hok : SchOk l ded cred lbp most least ∧ RetOk per due filed inc wh
              · obtain ⟨ok, rok⟩ := hok
                obtain ⟨b0, b1⟩ := hbp
                have KB := Lib.hid (bill_fun A c l ded cred lbp most least per due filed inc wh W2 HRD2.out ok rok)
                obtain ⟨T, hT⟩ : ∃ T, T = taxV l ded cred inc := ⟨_, rfl⟩
                obtain ⟨P, hP⟩ : ∃ P, P = max (T - wh) 0 := ⟨_, rfl⟩
                obtain ⟨X, hX⟩ : ∃ X, X = max (wh - T) 0 := ⟨_, rfl⟩
                obtain ⟨v0, hv0⟩ : ∃ v0, v0 = intV filed bp due P := ⟨_, rfl⟩
                have HE := Lib.hid (And.intro hT (And.intro hP hX))
                have HV0 := Lib.hid hv0
                have KF1 : Hid (v0 ≤ 4611686018427387904 → ∀ X, AB X ga filed bp 0 none 0 0 → RdS X X.heap.size A l → Calls Try.prog 6 #[.pointer (some ⟨ga, 0, none⟩), .agg #[.slice A l.length c, .int .i64 ded, .int .i64 cred, .int .i64 lbp, .int .i64 most, .int .i64 least], .agg #[.int .i64 per, .int .i64 due, .int .i64 filed, .int .i64 inc, .int .i64 wh]] X (FileOk X ga lbp most least (taxV l ded cred inc) per due filed inc wh bp v0)) :=
                  Lib.hid (fun hle X hab hrd => file_ok ga A c l ded cred lbp most least per due filed inc wh filed bp v0 X hab hrd ok rok b0 b1 (by rw [hv0, hP, hT]) hle)
                have KF2 : Hid (4611686018427387904 < v0 → ∀ X, AB X ga filed bp 0 none 0 0 → RdS X X.heap.size A l → Calls Try.prog 6 #[.pointer (some ⟨ga, 0, none⟩), .agg #[.slice A l.length c, .int .i64 ded, .int .i64 cred, .int .i64 lbp, .int .i64 most, .int .i64 least], .agg #[.int .i64 per, .int .i64 due, .int .i64 filed, .int .i64 inc, .int .i64 wh]] X (DoesOver X)) :=
                  Lib.hid (fun hlt X hab hrd => file_over ga A c l ded cred lbp most least per due filed inc wh filed bp X hab hrd ok rok b0 b1 (by rw [← hT, ← hP, ← hv0]; exact hlt))
                have hwh := rok.wh
                have du0 := rok.due0
                have du1 := rok.due1
                clear hT hP hX hv0 ok rok
                obtain ⟨wh0, wh1⟩ := hwh
                go_enter Try.func3, Try.ntmps3
                go_wp2_with fail
                rw [HW0.out]
                refine KN.out.mono ?_
                rintro e w1 ⟨rfl, rfl⟩
                rw [HW1.out]
                go_wp2_with fail
                refine KN2.out.mono ?_
                rintro e w1 ⟨rfl, rfl⟩
                rw [HW2.out]
                go_wp2_with fail
                refine KB.out.mono ?_
                rintro e w3 ⟨⟨L, t0', t1', hL, L0, L1, rfl⟩, hb3⟩
                rw [← HE.out.1] at t0' t1' ⊢
                rw [← HE.out.2.1, ← HE.out.2.2]
                obtain ⟨N, hN⟩ : ∃ N, N = penV lbp most least P L := ⟨_, rfl⟩
                rw [← hN]
                have HN := Lib.hid (And.intro hL hN)
                have p0 : 0 ≤ P := by have := HE.out.2.1; omega
                have p1 : P ≤ 2251799813685248 := by have := HE.out.2.1; omega
                have hal3 := (Below.refl w3.heap.size w3).alloc (Nat.le_refl _) (.cells #[.int .i64 T, .int .i64 P, .int .i64 N, .int .i64 X] 33)
                have hT3 := (HT2.out.on hb3).on hal3
                have hA3 := (HA2.out.on hb3).on hal3
                have hZ3 : ZBox (w3.alloc (.cells #[.int .i64 T, .int .i64 P, .int .i64 N, .int .i64 X] 33)) w3.heap.size T P N X := heap_alloc_new w3 _
                obtain ⟨gz, hgz⟩ : ∃ gz, gz = w3.heap.size := ⟨_, rfl⟩
                have hgz1 : gz ≠ ga := by have := (HA2.out.on hb3).lt; omega
                obtain ⟨W4, hW4⟩ : ∃ W4, w3.alloc (.cells #[.int .i64 T, .int .i64 P, .int .i64 N, .int .i64 X] 33) = W4 := ⟨_, rfl⟩
                rw [hW4] at hT3 hA3 hZ3
                have HW4 := Lib.hid hW4
                have HT3 := Lib.hid hT3; have HA3 := Lib.hid hA3; have HZ3 := Lib.hid hZ3
                have HRD3 := Lib.hid ((h.below hT3.below (Nat.le_refl _)).more hT3.below.size)
                clear x0 x1 x2 x3 x4 x5 y0 y1 y2 y3 y4 hN hL hb3 hal3 hA3 hZ3 hW4 KB
                obtain ⟨x0, x1, x2, x3, x4, x5, y0, y1, y2, y3, y4⟩ := hT3.cells
                clear hT3
                rw [← HW4.out] at x0 x1 x2 x3 x4 x5 y0 y1 y2 y3 y4
                by_cases hv0 : v0 ≤ 4611686018427387904
                · have KF := Lib.hid (KF1.out hv0 W4 HA3.out HRD3.out)
                  clear KF1 KF2
                  go_wp2_with fail
                  rw [HW4.out]
                  refine KF.out.mono ?_
                  rintro e w5 ⟨L2, hL2, rfl, hR, hbt⟩
                  rw [← HE.out.1, ← HE.out.2.1] at hR ⊢
                  rw [← HE.out.2.2] at hR ⊢
                  obtain rfl := lateOf_one HN.out.1 hL2
                  rw [← HN.out.2] at hR ⊢
                  obtain ⟨gq, cq, hab, hpb, hgq, hgne⟩ := hR
                  have hal5 := (Below.refl w5.heap.size w5).alloc (Nat.le_refl _) (.cells #[.int .i64 N, .int .i64 v0, .int .i64 P, .int .i64 0, .int .i64 X, .int .i64 0] 38)
                  have hT6 := (HT3.out.but hbt HG.out).on hal5
                  have hZ5 : ZBox w5 w3.heap.size T P N X := (hbt.block _ (heap_lt HZ3.out) (by simp; rw [← hgz]; exact hgz1)).trans HZ3.out
                  have hZ6 := hZ5.on hal5
                  have hM6 : MB (w5.alloc (.cells #[.int .i64 N, .int .i64 v0, .int .i64 P, .int .i64 0, .int .i64 X, .int .i64 0] 38)) w5.heap.size N v0 P 0 X 0 := heap_alloc_new w5 _
                  have hA6 := hab.on hal5
                  have hP6 := hpb.on hal5
                  have hmne : w5.heap.size ≠ ga := by have := hab.lt; omega
                  have hzne : w3.heap.size ≠ ga := by rw [← hgz]; exact hgz1
                  obtain ⟨W6, hW6⟩ : ∃ W6, w5.alloc (.cells #[.int .i64 N, .int .i64 v0, .int .i64 P, .int .i64 0, .int .i64 X, .int .i64 0] 38) = W6 := ⟨_, rfl⟩
                  rw [hW6] at hT6 hZ6 hM6 hA6 hP6
                  have HW6 := Lib.hid hW6
                  have HT6 := Lib.hid hT6; have HZ6 := Lib.hid hZ6; have HM6 := Lib.hid hM6; have HA6 := Lib.hid hA6; have HP6 := Lib.hid hP6
                  have HNE := Lib.hid (And.intro hmne hzne)
                  clear x0 x1 x2 x3 x4 x5 y0 y1 y2 y3 y4 hal5 hT6 hZ5 hZ6 hM6 hA6 hP6 hW6 hab hpb hbt hgq hgne hL2 hgz hgz1 hmne hzne KF
                  obtain ⟨m0, m1, m2, m3, m4, m5, mf⟩ := HM6.out.cells
                  have z1 := cell_of_row W6 w3.heap.size 1 _ _ (0, 0) HZ6.out
                  have z2 := cell_of_row W6 w3.heap.size 2 _ _ (0, 0) HZ6.out
                  have z3 := cell_of_row W6 w3.heap.size 3 _ _ (0, 0) HZ6.out
                  simp at z1 z2 z3
                  clear mf m1 m3 m5
                  rw [← HW6.out] at m0 m2 m4 z1 z2 z3
                  go_wp2_with fail
                  rw [HW6.out] at m0 m2 m4 z1 z2 z3 ⊢
                  go_quiet ((go_at_call 7; exact Calls.quiet_of_same ((credit_any ga filed bp X (some ⟨gq, 0, none⟩) 1 cq _ (by first | exact HA6.out | exact HA6.out.on (below_dr (Below.refl _ _)))).mono fun _ _ ⟨h1, h2⟩ => ⟨h1, h2.symm⟩)))
                  rename_i nq
                  have hbq : Below W6.heap.size W6 (W6.drewN nq) := below_dr (Below.refl _ _)
                  have HT7 := Lib.hid (HT6.out.on hbq)
                  have HZ7 := Lib.hid (HZ6.out.on hbq)
                  have HM7 := Lib.hid (HM6.out.keep (hbq.block _ HM6.out.lt))
                  have HA7 := Lib.hid (HA6.out.on hbq)
                  have HP7 := Lib.hid (HP6.out.on hbq)
                  obtain ⟨W7, hW7⟩ : ∃ W7, W6.drewN nq = W7 := ⟨_, rfl⟩
                  rw [hW7] at HT7 HZ7 HM7 HA7 HP7 ⊢
                  clear hbq hW7 m0 m2 m4 z1 z2 z3
                  obtain ⟨Fd, hFd⟩ : ∃ Fd, filed + days = Fd := ⟨_, rfl⟩
                  obtain ⟨G, hG⟩ : ∃ G, Fd - due = G := ⟨_, rfl⟩
                  obtain ⟨D2, hD2⟩ : ∃ D2, max G 0 = D2 := ⟨_, rfl⟩
                  obtain ⟨v1, hv1⟩ : ∃ v1, v1 = intV (filed + days) bp due P := ⟨_, rfl⟩
                  have hv1' : v1 = simV P bp D2 := by rw [hv1, intV_want, hFd, hG, hD2]
                  have hnn0 : 0 ≤ v0 := by rw [HV0.out]; exact intV_nn _ _ _ _
                  have hnn1 : 0 ≤ v1 := by rw [hv1]; exact intV_nn _ _ _ _
                  have hpre : AdvPre W7 ga gq filed bp X cq ⟨per, due, filed, inc, wh, N, v0, P, due, 0, v0⟩ days := ⟨HA7.out, HP7.out, b0, b1, by omega, by omega, by omega, by omega, du0, p0, by show P ≤ 4611686018427387904; omega, rfl, hnn0, hv0, rfl⟩
                  have hFd0 : 0 ≤ Fd := by omega
                  have hFd1 : Fd ≤ 3652058 := by omega
                  have hG0 : -3652058 ≤ G := by omega
                  have hG1 : G ≤ 3652058 := by omega
                  have hD0 : 0 ≤ D2 := by omega
                  have hD1 : D2 ≤ 3652058 := by omega
                  have KSI := Lib.hid (simple_any P bp D2 p0 (by omega) b0 b1 hD0 hD1)
                  have HV1 := Lib.hid hv1'
                  by_cases hle1 : v1 ≤ 4611686018427387904
                  · obtain ⟨m, hm⟩ : ∃ m, v1 - v0 = m := ⟨_, rfl⟩
                    have KA := Lib.hid (adv_ok ga gq filed bp X cq ⟨per, due, filed, inc, wh, N, v0, P, due, 0, v0⟩ days v1 W7 hpre hv1 hle1)
                    simp only [hm] at KA
                    have hsum : v0 + m = v1 := by omega
                    have KSJ : Hid (∀ w, Calls Try.prog 9 #[.int .i64 P, .int .i64 bp, .int .i64 D2] w fun e w' => e = .returned (.tuple #[.int .i64 v1, .int .i64 0]) ∧ Below w.heap.size w w') := Lib.hid (fun w => (KSI.out w).mono fun e w' ⟨h, hb⟩ => ⟨by
                      unfold SimOf at h; rw [← HV1.out] at h
                      rcases h with ⟨_, h⟩ | ⟨h, _⟩
                      · exact h
                      · omega, hb⟩)
                    clear hpre hv1 hv1' hm KSI
                    go_wp2_with fail
                    refine KA.out.mono ?_
                    rintro e w8 ⟨rfl, hbt⟩
                    have hT8 := HT7.out.but hbt HG.out
                    have hZ8 : ZBox w8 w3.heap.size T P N X := (hbt.block _ (heap_lt HZ7.out) (by simp; exact HNE.out.2)).trans HZ7.out
                    have hM8 := HM7.out.keep (hbt.block _ HM7.out.lt (by simp; exact HNE.out.1))
                    clear hbt
                    have hal8 := (Below.refl w8.heap.size w8).alloc (Nat.le_refl _) (.cells #[.int .i64 0, .int .i64 m, .int .i64 0, .int .i64 0, .int .i64 0, .int .i64 0] 38)
                    have hT9 := hT8.on hal8
                    have hZ9 := hZ8.on hal8
                    have hM9 := hM8.keep (hal8.block _ hM8.lt)
                    have hN9 : MB (w8.alloc (.cells #[.int .i64 0, .int .i64 m, .int .i64 0, .int .i64 0, .int .i64 0, .int .i64 0] 38)) w8.heap.size 0 m 0 0 0 0 := heap_alloc_new w8 _
                    obtain ⟨W9, hW9⟩ : ∃ W9, w8.alloc (.cells #[.int .i64 0, .int .i64 m, .int .i64 0, .int .i64 0, .int .i64 0, .int .i64 0] 38) = W9 := ⟨_, rfl⟩
                    rw [hW9] at hT9 hZ9 hM9 hN9
                    have HW9 := Lib.hid hW9
                    have HT9 := Lib.hid hT9; have HZ9 := Lib.hid hZ9; have HM9 := Lib.hid hM9; have HN9 := Lib.hid hN9
                    have z1 := cell_of_row W9 w3.heap.size 1 _ _ (0, 0) HZ9.out
                    simp at z1
                    obtain ⟨x0, x1, x2, x3, x4, x5, y0, y1, y2, y3, y4⟩ := HT9.out.cells
                    rw [← HW9.out] at z1 y1 y2
                    clear x0 x1 x2 x3 x4 x5 y0 y3 y4 hal8 hT9 hZ8 hM8 hZ9 hM9 hN9 hW9 KA
                    go_wp2_with fail
                    rw [HW9.out]
                    refine (KSJ.out _).mono ?_
                    rintro e w10 ⟨rfl, hb10⟩
                    have hm1 := (HM9.out.keep (hb10.block _ HM9.out.lt)).cells.2.1
                    have hn1 := (HN9.out.keep (hb10.block _ HN9.out.lt)).cells.2.1
                    have HFIN := Lib.hid (HT9.out.on hb10).below
                    clear z1 y1 y2 hb10 KSJ
                    go_wp2_with fail
                    go_ret
                    exact ⟨by first | rfl | simp, HFIN.out⟩
                  · have KA := Lib.hid (adv_over ga gq filed bp X cq ⟨per, due, filed, inc, wh, N, v0, P, due, 0, v0⟩ days W7 hpre (by rw [← hv1]; omega))
                    have KSJ : Hid (∀ w, Calls Try.prog 9 #[.int .i64 P, .int .i64 bp, .int .i64 D2] w fun e w' => e = .returned (.tuple #[.int .i64 0, .int .i64 2]) ∧ Below w.heap.size w w') := Lib.hid (fun w => (KSI.out w).mono fun e w' ⟨h, hb⟩ => ⟨by
                      unfold SimOf at h; rw [← HV1.out] at h
                      rcases h with ⟨h, _⟩ | ⟨_, h⟩
                      · omega
                      · exact h, hb⟩)
                    clear hpre hv1 hv1' KSI
                    go_wp2_with fail
                    refine KA.out.mono ?_
                    rintro e w8 ⟨rfl, hb8⟩
                    have hT8 := HT7.out.on hb8
                    have hZ8 := HZ7.out.on hb8
                    have hM8 := HM7.out.keep (hb8.block _ HM7.out.lt)
                    clear hb8
                    have hal8 := (Below.refl w8.heap.size w8).alloc (Nat.le_refl _) (.cells #[.int .i64 0, .int .i64 0, .int .i64 0, .int .i64 0, .int .i64 0, .int .i64 0] 38)
                    have hT9 := hT8.on hal8
                    have hZ9 := hZ8.on hal8
                    have hM9 := hM8.keep (hal8.block _ hM8.lt)
                    have hN9 : MB (w8.alloc (.cells #[.int .i64 0, .int .i64 0, .int .i64 0, .int .i64 0, .int .i64 0, .int .i64 0] 38)) w8.heap.size 0 0 0 0 0 0 := heap_alloc_new w8 _
                    obtain ⟨W9, hW9⟩ : ∃ W9, w8.alloc (.cells #[.int .i64 0, .int .i64 0, .int .i64 0, .int .i64 0, .int .i64 0, .int .i64 0] 38) = W9 := ⟨_, rfl⟩
                    rw [hW9] at hT9 hZ9 hM9 hN9
                    have HW9 := Lib.hid hW9
                    have HT9 := Lib.hid hT9; have HZ9 := Lib.hid hZ9; have HM9 := Lib.hid hM9; have HN9 := Lib.hid hN9
                    have z1 := cell_of_row W9 w3.heap.size 1 _ _ (0, 0) HZ9.out
                    simp at z1
                    obtain ⟨x0, x1, x2, x3, x4, x5, y0, y1, y2, y3, y4⟩ := HT9.out.cells
                    rw [← HW9.out] at z1 y1 y2
                    clear x0 x1 x2 x3 x4 x5 y0 y3 y4 hal8 hT9 hZ8 hM8 hZ9 hM9 hN9 hW9 KA
                    go_wp2_with fail
                    rw [HW9.out]
                    refine (KSJ.out _).mono ?_
                    rintro e w10 ⟨rfl, hb10⟩
                    have HFIN := Lib.hid (HT9.out.on hb10).below
                    clear z1 y1 y2 hb10 KSJ
                    go_wp2_with fail
                    go_ret
                    exact ⟨rfl, HFIN.out⟩
                · have KF := Lib.hid (KF2.out (by omega) W4 HA3.out HRD3.out)
                  clear KF1 KF2
                  go_wp2_with fail
                  rw [HW4.out]
                  refine KF.out.mono ?_
                  rintro e w5 ⟨rfl, hb5⟩
                  go_wp2_with fail
                  go_ret
                  exact ⟨rfl, (HT3.out.on hb5).below.alloc (HT3.out.on hb5).below.size _⟩
              · have KB := Lib.hid (bill_no A c l ded cred lbp most least per due filed inc wh W2 HRD2.out hl hok)
                clear hok hbp
                go_enter Try.func3, Try.ntmps3
                go_wp2_with fail
                rw [HW0.out]
                refine KN.out.mono ?_
                rintro e w1 ⟨rfl, rfl⟩
                rw [HW1.out]
                go_wp2_with fail
                refine KN2.out.mono ?_
                rintro e w1 ⟨rfl, rfl⟩
                rw [HW2.out]
                go_wp2_with fail
                refine KB.out.mono ?_
                rintro e w3 ⟨rfl, hb3⟩
                go_wp2_with fail
                go_ret
                exact ⟨rfl, (HT2.out.on hb3).below.alloc (HT2.out.on hb3).below.size _⟩
            · have KN2 := Lib.hid (new_no filed bp (by omega) (by omega) hbp W1)
              have KB := Lib.hid (bill_total A c l ded cred lbp most least per due filed inc wh W1 ((h.below HT1.out.below (Nat.le_refl _)).more HT1.out.below.size) hl)
              clear hbp
              go_enter Try.func3, Try.ntmps3
              go_wp2_with fail
              rw [HW0.out]
              refine KN.out.mono ?_
              rintro e w1 ⟨rfl, rfl⟩
              rw [HW1.out]
              go_wp2_with fail
              refine KN2.out.mono ?_
              rintro e w1 ⟨rfl, rfl⟩
              go_wp2_with fail
              refine KB.out.mono ?_
              rintro e w2 ⟨t, P, N, X, f, rfl, hb2⟩
              go_wp2_with fail
              go_ret
              exact ⟨rfl, (HT1.out.on hb2).below.alloc (HT1.out.on hb2).below.size _⟩
theorem topBills_walk (A : Option Addr) (c : Nat) (l : List Br) (ded cred lbp most least per due filed inc wh bp days : Int) (w : World) (h : RdS w w.heap.size A l) (hl : l.length ≤ 9223372036854775807) :
    Calls Try.prog 3 #[.agg #[.slice A l.length c, .int .i64 ded, .int .i64 cred, .int .i64 lbp, .int .i64 most, .int .i64 least], .agg #[.int .i64 per, .int .i64 due, .int .i64 filed, .int .i64 inc, .int .i64 wh], .agg #[.int .i64 bp, .int .i64 days]] w fun e w' => e = .returned (.bool true) ∧ Below w.heap.size w w' :=
  topBills_walk0 A c l ded cred lbp most least per due filed inc wh bp days w h hl
end Go.Proofs.Ytkgoaodpjeonnaa
