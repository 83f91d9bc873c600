/- The contract of statement.Right: it hands back some bool; true means that the sums are OK, and that there are no more than 500 lines. -/
import Derived.Test.YtcegcgbcffdjjaaDoorPlc
namespace Go.Proofs.YtcegcgbcffdjjaaDoor
open Go.RowKit

theorem day_any (n : Int) (w : World) : Calls Tryd.prog 20 #[.int .i64 n] w fun e w' => e = .returned (.bool (wi n 0 3652058)) ∧ w' = w := by
  by_cases h1 : 0 ≤ n
  · by_cases h2 : n ≤ 3652058
    · have E : Hid (wi n 0 3652058 = true) := Lib.hid (by simp [wi, h1, h2])
      go_enter Tryd.func20, Tryd.ntmps20
      go_wp2
      go_ret
      exact ⟨ret_bo E.out.symm, rfl⟩
    · have E : Hid (wi n 0 3652058 = false) := Lib.hid (by simp [wi, h2])
      go_enter Tryd.func20, Tryd.ntmps20
      go_wp2
      go_ret
      exact ⟨ret_bo E.out.symm, rfl⟩
  · have E : Hid (wi n 0 3652058 = false) := Lib.hid (by simp [wi, h1])
    go_enter Tryd.func20, Tryd.ntmps20
    go_wp2
    go_ret
    exact ⟨ret_bo E.out.symm, rfl⟩
/-- The sums are OK. -/
def SumsOK (O C : List Int) : Prop := ∃ a b : Int, sumV O = .tuple #[.int .i64 a, .int .i64 0] ∧ sumV C = .tuple #[.int .i64 b, .int .i64 0]
def RightP (O C : List Int) (n : Nat) (w : World) (e : Ending) (w' : World) : Prop := Below w.heap.size w w' ∧ ∃ b : Bool, e = .returned (.bool b) ∧ (b = true → n ≤ 500 ∧ SumsOK O C)
set_option maxHeartbeats 4000000 in
set_option maxRecDepth 100000 in
theorem right_any (id fr to_ owed credit : Int) (A A2 : Option Addr) (c c2 : Nat) (l : List Ln) (m : List It) (w : World) (hL : RdL w w.heap.size A l) (hT : RdT w w.heap.size A2 m) (hl : l.length ≤ 999) (hm : m.length ≤ 250) :
    Calls Tryd.prog 11 #[.agg #[.int .i64 id, .int .i64 fr, .int .i64 to_, .int .i64 owed, .int .i64 credit, .slice A l.length c, .slice A2 m.length c2]] w (RightP (owed :: l.map Ln.owed) (credit :: l.map Ln.credit) l.length w) := by
  have HL := Lib.hid hL; have HT := Lib.hid hT
  clear hL hT
  go_enter Tryd.func11, Tryd.ntmps11
  go_wp2_with (go_at_call 20; refine (day_any _ _).mono ?_; rintro e w' ⟨rfl, rfl⟩)
  all_goals first
    | (go_ret; exact ⟨(Below.refl _ _).alloc (Nat.le_refl _) _, false, rfl, fun h => by cases h⟩)
    | skip
  obtain ⟨W, hW⟩ : ∃ W : World, w.alloc (.cells #[.int .i64 id, .int .i64 fr, .int .i64 to_, .int .i64 owed, .int .i64 credit, .slice A l.length c, .slice A2 m.length c2] 25) = W := ⟨_, rfl⟩
  have q0 : W.cell? ⟨w.heap.size, 0, none⟩ = some (.int .i64 id) := by rw [← hW]; simp
  have q1 : W.cell? ⟨w.heap.size, 1, none⟩ = some (.int .i64 fr) := by rw [← hW]; simp
  have q2 : W.cell? ⟨w.heap.size, 2, none⟩ = some (.int .i64 to_) := by rw [← hW]; simp
  have q3 : W.cell? ⟨w.heap.size, 3, none⟩ = some (.int .i64 owed) := by rw [← hW]; simp
  have q4 : W.cell? ⟨w.heap.size, 4, none⟩ = some (.int .i64 credit) := by rw [← hW]; simp
  have q5 : W.cell? ⟨w.heap.size, 5, none⟩ = some (.slice A l.length c) := by rw [← hW]; simp
  have q6 : W.cell? ⟨w.heap.size, 6, none⟩ = some (.slice A2 m.length c2) := by rw [← hW]; simp
  have HB0 : Hid (Below w.heap.size w W) := Lib.hid (by rw [← hW]; exact (Below.refl _ _).alloc (Nat.le_refl _) _)
  have hsz : w.heap.size + 1 ≤ W.heap.size := by rw [← hW]; simp
  rw [hW]
  clear hW
  have QQ := Lib.hid (And.intro q0 (And.intro q1 (And.intro q2 (And.intro q3 (And.intro q4 (And.intro q5 q6))))))
  clear q0 q1 q2 q3 q4 q5 q6
  have h500 : l.length ≤ 500 := by omega
  go_loopw [3, 52] (fun d i wr => ∃ (k : Nat) (x : Int), k ≤ l.length ∧ i = .int .i64 (k : Int) ∧ d = .int .i64 x ∧ Hid (Below W.heap.size W wr)) (fun _ i _ => l.length - (intOf i).toNat)
  case atStart => exact ⟨0, fr, by omega, rfl, rfl, Lib.hid (Below.refl _ _)⟩
  case round =>
    obtain ⟨k, x, hk, rfl, rfl, HB⟩ := hrel
    have hzr : W.heap.size ≤ wr.heap.size := HB.out.size
    have hlw : w.heap.size < wr.heap.size := by omega
    have KC : Hid (∀ j, wr.cell? ⟨w.heap.size, j, none⟩ = W.cell? ⟨w.heap.size, j, none⟩) := Lib.hid (fun j => HB.out.cell (by show w.heap.size < _; omega))
    have HBW : Hid (Below w.heap.size w wr) := Lib.hid (HB0.out.trans (HB.out.mono (by omega)))
    obtain ⟨q0, q1, q2, q3, q4, q5, q6⟩ := QQ.out
    rw [← KC.out] at q0 q1 q2 q3 q4 q5 q6
    by_cases hlt : k < l.length
    · obtain ⟨b, off, rfl, _, d0, d1, d2, d3, d4⟩ := (HL.out.below HBW.out (Nat.le_refl _)).at_ hlt
      obtain ⟨y, hy⟩ : ∃ y, y = l[k] := ⟨_, rfl⟩
      rw [← hy] at d0 d1 d2 d3 d4
      clear hy
      have HFIN : Hid (∀ o, Below W.heap.size W (wr.alloc o)) := Lib.hid fun o => HB.out.alloc hzr _
      go_wp2_with fail
      all_goals first
        | (go_ret; exact ⟨HB0.out.trans ((HFIN.out _).mono (by omega)), false, rfl, fun h => by cases h⟩)
        | skip
      all_goals
        go_round
        case rel => exact ⟨k + 1, y.day, by omega, by go_num, rfl, Lib.hid (HFIN.out _)⟩
        case measure => simp [intOf]; omega
    · have KS := Lib.hid (sums_any id fr to_ owed credit A A2 c m.length c2 l wr (HL.out.below HBW.out (Nat.le_refl _) |>.more (by omega)) (by omega))
      go_wp2_with fail
      refine KS.out.mono ?_
      rintro e w1 ⟨⟨a1, x1, a2, x2, s1, s2, hs⟩, hb1⟩
      have HB1 := Lib.hid hb1
      have hz1 : wr.heap.size ≤ w1.heap.size := hb1.size
      have S1 := Lib.hid s1; have S2 := Lib.hid s2
      clear hb1 s1 s2 KS q0 q1 q2 q3 q4 q5 q6
      rcases hs with ⟨rfl, rfl, rfl⟩ | ⟨_, mm, hmm, rfl⟩
      · have HF : Hid (∀ b : Bool, b = true → l.length ≤ 500 ∧ SumsOK (owed :: l.map Ln.owed) (credit :: l.map Ln.credit)) := Lib.hid fun b _ => ⟨h500, a1, a2, S1.out, S2.out⟩
        have r6 : w1.cell? ⟨w.heap.size, 6, none⟩ = some (.slice A2 m.length c2) := by
          rw [HB1.out.cell (by show w.heap.size < _; omega), KC.out]; exact QQ.out.2.2.2.2.2.2
        have HX1 : Hid (Below w.heap.size w w1) := Lib.hid (HBW.out.trans (HB1.out.mono (by omega)))
        have hx1 : w.heap.size < w1.heap.size := by omega
        have KO := Lib.hid (alcorder_any m A2 c2 (by omega) w1 (RdT.more (HT.out.below HX1.out (Nat.le_refl _)) (by omega)))
        go_wp2_with fail
        refine KO.out.mono ?_
        rintro e w2 ⟨hb2, ⟨m2, hm2, rfl⟩ | ⟨A3, c3, q, rfl, hq, hq2, h200⟩⟩
        · have d1 : (m2 == 0) = false := by simpa using hm2
          have d2 : (m2 != 0) = true := by simpa using hm2
          have HB2 := Lib.hid hb2
          clear hb2 hm2
          go_wp2_with fail
          go_ret
          exact ⟨HX1.out.trans (HB2.out.mono (by omega)), false, rfl, fun h => by cases h⟩
        · have HX2 : Hid (Below w.heap.size w w2) := Lib.hid (HX1.out.trans (hb2.mono (by omega)))
          have hx2 : w.heap.size < w2.heap.size := by have := hb2.size; omega
          have r62 : w2.cell? ⟨w.heap.size, 6, none⟩ = some (.slice A2 m.length c2) := (hb2.cell (by show w.heap.size < _; omega)).trans r6
          have KE : Hid (Calls Tryd.prog 22 #[.slice A3 m.length c3, .slice A2 m.length c2] w2 (SomeB w2)) := Lib.hid (by
            have := eqitem_any q m A3 A2 c3 c2 (by omega) hq.symm w2 hq2 (RdT.more (HT.out.below HX2.out (Nat.le_refl _)) (by omega))
            rw [hq] at this
            exact this)
          clear hb2 r6 hq hq2 KO HB1 S1 S2
          go_wp2_with fail
          refine KE.out.mono ?_
          rintro e w3 ⟨hb3, b3, rfl⟩
          have HX3 : Hid (Below w.heap.size w w3) := Lib.hid (HX2.out.trans (hb3.mono (by omega)))
          have hx3 : w.heap.size < w3.heap.size := by have := hb3.size; omega
          have r63 : w3.cell? ⟨w.heap.size, 6, none⟩ = some (.slice A2 m.length c2) := (hb3.cell (by show w.heap.size < _; omega)).trans r62
          clear hb3 r62 KE
          cases b3
          · go_wp2_with fail
            go_ret
            exact ⟨HX3.out, false, rfl, fun h => by cases h⟩
          · have KT := Lib.hid (total_any m A2 c2 (by omega) w3 (RdT.more (HT.out.below HX3.out (Nat.le_refl _)) (by omega)))
            go_wp2_with fail
            refine KT.out.mono ?_
            rintro e w4 ⟨hb4, a4, x4, rfl⟩
            have HX4 : Hid (Below w.heap.size w w4) := Lib.hid (HX3.out.trans (hb4.mono (by omega)))
            have hx4 : w.heap.size < w4.heap.size := by have := hb4.size; omega
            have r64 : w4.cell? ⟨w.heap.size, 6, none⟩ = some (.slice A2 m.length c2) := (hb4.cell (by show w.heap.size < _; omega)).trans r63
            clear hb4 r63 KT
            rcases Nat.eq_zero_or_pos m.length with h0 | hp
            · have d0 : ((m.length : Int) == 0) = true := by simp [h0]
              have H0 := Lib.hid h0; clear h0
              go_wp2_with fail
              go_ret
              exact ⟨HX4.out, _, rfl, HF.out _⟩
            · have d0 : ((m.length : Int) == 0) = false := by rw [beq_eq_false_iff_ne]; omega
              have KH := Lib.hid (hasitem_any m A2 c2 (by omega) hp w4 (RdT.more (HT.out.below HX4.out (Nat.le_refl _)) (by omega)))
              by_cases hx0 : x4 = 0
              · subst hx0
                by_cases ha : a4 = a1
                · subst ha
                  go_wp2_with fail
                  refine KH.out.mono ?_
                  rintro e w5 ⟨hb5, b5, rfl⟩
                  have HX5 : Hid (Below w.heap.size w w5) := Lib.hid (HX4.out.trans (hb5.mono (by omega)))
                  clear hb5
                  go_wp2_with fail
                  go_ret
                  exact ⟨HX5.out, _, rfl, HF.out _⟩
                · have d1 : (a4 == a1) = false := by simpa using ha
                  clear ha
                  go_wp2_with fail
                  go_ret
                  exact ⟨HX4.out, _, rfl, HF.out _⟩
              · have d1 : (x4 == 0) = false := by simpa using hx0
                clear hx0
                go_wp2_with fail
                go_ret
                exact ⟨HX4.out, _, rfl, HF.out _⟩
      · have d1 : (mm == 0) = false := by simpa using hmm
        have d2 : (mm != 0) = true := by simpa using hmm
        have r6 : w1.cell? ⟨w.heap.size, 6, none⟩ = some (.slice A2 m.length c2) := by
          rw [HB1.out.cell (by show w.heap.size < _; omega), KC.out]; exact QQ.out.2.2.2.2.2.2
        have HX1 : Hid (Below w.heap.size w w1) := Lib.hid (HBW.out.trans (HB1.out.mono (by omega)))
        have hx1 : w.heap.size < w1.heap.size := by omega
        have KO := Lib.hid (alcorder_any m A2 c2 (by omega) w1 (RdT.more (HT.out.below HX1.out (Nat.le_refl _)) (by omega)))
        clear hmm
        go_wp2_with fail
        refine KO.out.mono ?_
        rintro e w2 ⟨hb2, ⟨m2, hm2, rfl⟩ | ⟨A3, c3, q, rfl, hq, hq2, h200⟩⟩
        · have HB2 := Lib.hid hb2
          clear hb2 hm2
          go_wp2_with fail
          go_ret
          exact ⟨HX1.out.trans (HB2.out.mono (by omega)), false, rfl, fun h => by cases h⟩
        · have HB2 := Lib.hid hb2
          clear hb2 hq hq2
          go_wp2_with fail
          go_ret
          exact ⟨HX1.out.trans (HB2.out.mono (by omega)), false, rfl, fun h => by cases h⟩
end Go.Proofs.YtcegcgbcffdjjaaDoor
