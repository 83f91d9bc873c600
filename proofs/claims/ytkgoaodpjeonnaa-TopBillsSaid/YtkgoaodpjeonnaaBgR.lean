/- Contracts at any schedule and any return: the program's rates.Right, taxed, Tax, assess.Right, Bill where something may not be. -/
import Derived.Test.YtkgoaodpjeonnaaBill
namespace Go.Proofs.Ytkgoaodpjeonnaa
open Go.RowKit

theorem allIn1n {a : Int} (h : ¬ Mon a) : false = allIn 0 1125899906842624 [a] := by
  cases ha : allIn 0 1125899906842624 [a] with
  | false => rfl
  | true => exact absurd (allIn_iff.1 ha a (by simp)) h
set_option maxHeartbeats 2000000 in
set_option maxRecDepth 100000 in
theorem right_gen (A : Option Addr) (c : Nat) (l : List Br) (ded cred lbp most least : Int) (w : World) (h : RdS w w.heap.size A l) (hl : l.length ≤ 9223372036854775807) :
    Calls Try.prog 40 #[.agg #[.slice A l.length c, .int .i64 ded, .int .i64 cred, .int .i64 lbp, .int .i64 most, .int .i64 least]] w (SaysIf (SchOk l ded cred lbp most least) w) := by
  by_cases t0 : (l.length : Int) < 1
  · go_enter Try.func40, Try.ntmps40
    go_wp2_with fail
    go_ret
    exact says_no ((Below.refl _ _).alloc (Nat.le_refl _) _)
  · by_cases t1 : 10 < (l.length : Int)
    · go_enter Try.func40, Try.ntmps40
      go_wp2_with fail
      go_ret
      exact says_no ((Below.refl _ _).alloc (Nat.le_refl _) _)
    · by_cases t3 : lbp < 0
      · go_enter Try.func40, Try.ntmps40
        go_wp2_with fail
        go_ret
        exact says_no ((Below.refl _ _).alloc (Nat.le_refl _) _)
      · by_cases t4 : 10000 < lbp
        · go_enter Try.func40, Try.ntmps40
          go_wp2_with fail
          go_ret
          exact says_no ((Below.refl _ _).alloc (Nat.le_refl _) _)
        · by_cases t5 : most < 0
          · go_enter Try.func40, Try.ntmps40
            go_wp2_with fail
            go_ret
            exact says_no ((Below.refl _ _).alloc (Nat.le_refl _) _)
          · by_cases t6 : 60 < most
            · go_enter Try.func40, Try.ntmps40
              go_wp2_with fail
              go_ret
              exact says_no ((Below.refl _ _).alloc (Nat.le_refl _) _)
            · obtain ⟨x3, hx3⟩ : ∃ b, b = allIn 0 1125899906842624 [ded, cred, least] := ⟨_, rfl⟩
              have K3 := Lib.hid (money3 ded cred least x3 hx3)
              have HX3 := Lib.hid hx3; clear hx3
              go_enter Try.func40, Try.ntmps40
              go_wp2_with fail
              go_loopw [3, 5, 39] (fun p _ i wr => ∃ (k : Nat) (q : Int), k ≤ l.length ∧ i = .int .i64 (k : Int) ∧ p = .int .i64 q ∧ Below w.heap.size w wr ∧ Box wr w.heap.size A l.length c ded cred lbp most least ∧ Hid ((k = 0 ∧ q = -1) ∨ ∃ h : 0 < k ∧ k ≤ l.length, q = (l[k - 1]'(by omega)).f) ∧ Hid (∀ j, j < k → BrOk l j)) (fun _ _ i _ => l.length - (intOf i).toNat)
              case atStart => exact ⟨0, -1, by omega, rfl, rfl, (Below.refl _ _).alloc (Nat.le_refl _) _, Box.new w, Lib.hid (.inl ⟨rfl, rfl⟩), Lib.hid (fun j hj => by omega)⟩
              case round =>
                obtain ⟨k, q, hk, rfl, rfl, hb, hx, HQ, HI⟩ := hrel
                have hz := hb.size
                by_cases hlt : k < l.length
                · obtain ⟨g, off, rfl, hg, r0, r1⟩ := (h.below hb (Nat.le_refl _)).at_ hlt
                  obtain ⟨f, hf⟩ : ∃ f, f = l[k].f := ⟨_, rfl⟩
                  obtain ⟨bp, hbp⟩ : ∃ bp, bp = l[k].b := ⟨_, rfl⟩
                  rw [← hf] at r0
                  rw [← hbp] at r1
                  have HF := Lib.hid hf
                  have HBP := Lib.hid hbp
                  have HX := Lib.hid hx
                  clear hf hbp hx
                  by_cases u1 : Mon f
                  · have K1 := Lib.hid (money1 f true (allIn1 u1))
                    obtain ⟨u10, u11⟩ := u1
                    by_cases u2 : f ≤ q
                    · go_wp2_with fail
                      refine (K1.out _ _ (by simp)).mono ?_
                      rintro e w1 ⟨rfl, hb1⟩
                      have hn := hb1.block wr.heap.size (by simp)
                      rw [heap_alloc_new] at hn
                      have y0 := cell_of_row w1 wr.heap.size 0 _ _ (0, 0) hn
                      have y1 := cell_of_row w1 wr.heap.size 1 _ _ (0, 0) hn
                      simp at y0 y1
                      have hb2 : Below w.heap.size w w1 := (hb.alloc hz _).trans (hb1.mono (by simp; omega))
                      clear hn
                      go_wp2_with fail
                      go_ret
                      exact says_no hb2
                    · by_cases u3 : bp < 0
                      · go_wp2_with fail
                        refine (K1.out _ _ (by simp)).mono ?_
                        rintro e w1 ⟨rfl, hb1⟩
                        have hn := hb1.block wr.heap.size (by simp)
                        rw [heap_alloc_new] at hn
                        have y0 := cell_of_row w1 wr.heap.size 0 _ _ (0, 0) hn
                        have y1 := cell_of_row w1 wr.heap.size 1 _ _ (0, 0) hn
                        simp at y0 y1
                        have hb2 : Below w.heap.size w w1 := (hb.alloc hz _).trans (hb1.mono (by simp; omega))
                        clear hn
                        go_wp2_with fail
                        go_ret
                        exact says_no hb2
                      · by_cases u4 : 10000 < bp
                        · go_wp2_with fail
                          refine (K1.out _ _ (by simp)).mono ?_
                          rintro e w1 ⟨rfl, hb1⟩
                          have hn := hb1.block wr.heap.size (by simp)
                          rw [heap_alloc_new] at hn
                          have y0 := cell_of_row w1 wr.heap.size 0 _ _ (0, 0) hn
                          have y1 := cell_of_row w1 wr.heap.size 1 _ _ (0, 0) hn
                          simp at y0 y1
                          have hb2 : Below w.heap.size w w1 := (hb.alloc hz _).trans (hb1.mono (by simp; omega))
                          clear hn
                          go_wp2_with fail
                          go_ret
                          exact says_no hb2
                        · have HN : Hid (∀ j, j < k + 1 → BrOk l j) := Lib.hid (fun j hj => by
                            rcases Nat.lt_or_eq_of_le (Nat.le_of_lt_succ hj) with h | rfl
                            · exact HI.out j h
                            · refine ⟨hlt, by rw [← HF.out]; exact ⟨u10, u11⟩, by rw [← HBP.out]; omega, by rw [← HBP.out]; omega, fun h0 => ?_⟩
                              rcases HQ.out with ⟨hh, _⟩ | ⟨hh, hq⟩
                              · omega
                              · rw [← HF.out, ← hq]; omega)
                          go_wp2_with fail
                          refine (K1.out _ _ (by simp)).mono ?_
                          rintro e w1 ⟨rfl, hb1⟩
                          have hn := hb1.block wr.heap.size (by simp)
                          rw [heap_alloc_new] at hn
                          have y0 := cell_of_row w1 wr.heap.size 0 _ _ (0, 0) hn
                          have y1 := cell_of_row w1 wr.heap.size 1 _ _ (0, 0) hn
                          simp at y0 y1
                          have hb2 : Below w.heap.size w w1 := (hb.alloc hz _).trans (hb1.mono (by simp; omega))
                          have HX1 := Lib.hid ((HX.out.on ((Below.refl _ _).alloc (Nat.le_refl _) (.cells #[.int .i64 f, .int .i64 bp] 71))).on hb1)
                          clear hn
                          go_wp2_with fail
                          go_roundw
                          case rel => exact ⟨k + 1, f, by omega, by go_num, rfl, hb2, HX1.out, Lib.hid (.inr ⟨⟨by omega, by omega⟩, HF.out⟩), HN⟩
                          case measure => simp [intOf]; omega
                  · have K1 := Lib.hid (money1 f false (allIn1n u1))
                    clear u1
                    go_wp2_with fail
                    refine (K1.out _ _ (by simp)).mono ?_
                    rintro e w1 ⟨rfl, hb1⟩
                    have hb2 : Below w.heap.size w w1 := (hb.alloc hz _).trans (hb1.mono (by simp; omega))
                    go_wp2_with fail
                    go_ret
                    exact says_no hb2
                · obtain rfl : k = l.length := by omega
                  obtain ⟨g, off, rfl, hg, r0, r1⟩ := (h.below hb (Nat.le_refl _)).at_ (k := 0) (by omega)
                  rw [Nat.zero_mul, Nat.add_zero] at r0 r1
                  obtain ⟨f0, hf0⟩ : ∃ f0, f0 = (l[0]'(by omega)).f := ⟨_, rfl⟩
                  rw [← hf0] at r0
                  have HF0 := Lib.hid hf0
                  have x0 := hx.c0
                  have x1 := hx.c1
                  have x2 := hx.c2
                  have x5 := hx.c5
                  clear r1 hx hf0
                  by_cases u0 : f0 = 0
                  · subst u0
                    go_wp2_with fail
                    refine (K3.out _ _ rfl).mono ?_
                    rintro e w1 ⟨rfl, hb1⟩
                    go_wp2_with fail
                    go_ret
                    refine ⟨x3, rfl, fun hx => ?_, hb.trans (hb1.mono hz)⟩
                    subst hx
                    have hall := allIn_iff.1 HX3.out.symm
                    exact ⟨by omega, by omega, fun _ => HF0.out.symm, by omega, by omega, by omega, by omega, HI.out, hall ded (by simp), hall cred (by simp), hall least (by simp)⟩
                  · have u0' : (f0 == 0) = false := by simp; exact u0
                    go_wp2_with fail
                    go_ret
                    exact says_no hb
set_option maxHeartbeats 400000 in
theorem taxed_no (A : Option Addr) (c : Nat) (l : List Br) (ded cred lbp most least inc : Int) (w : World) (h : RdS w w.heap.size A l) (hl : l.length ≤ 9223372036854775807) (hn : ¬ (SchOk l ded cred lbp most least ∧ Mon inc)) :
    Calls Try.prog 27 #[.agg #[.slice A l.length c, .int .i64 ded, .int .i64 cred, .int .i64 lbp, .int .i64 most, .int .i64 least], .int .i64 inc] w fun e w' => e = .returned (.tuple #[.int .i64 0, .int .i64 1]) ∧ Below w.heap.size w w' := by
  have HN := Lib.hid hn; clear hn
  go_enter Try.func27, Try.ntmps27
  go_wp2_with fail
  refine (right_gen A c l ded cred lbp most least _ ((h.below ((Below.refl _ _).alloc (Nat.le_refl _) _) (Nat.le_refl _)).more (by simp)) hl).mono ?_
  rintro e w1 ⟨b, rfl, hok, hb1⟩
  have hb : Below w.heap.size w w1 := ((Below.refl _ _).alloc (Nat.le_refl _) _).trans (hb1.mono (by simp))
  have HOK := Lib.hid hok; clear hok
  cases b with
  | false =>
    go_wp2_with fail
    go_ret2
    exact ⟨rfl, hb⟩
  | true =>
    have K1 := Lib.hid (money1 inc false (allIn1n (fun hm => HN.out ⟨HOK.out rfl, hm⟩)))
    go_wp2_with fail
    refine (K1.out _ _ rfl).mono ?_
    rintro e w2 ⟨rfl, hb2⟩
    go_wp2_with fail
    go_ret2
    exact ⟨rfl, hb.trans (hb2.mono hb.size)⟩
theorem tax_no (A : Option Addr) (c : Nat) (l : List Br) (ded cred lbp most least inc : Int) (w : World) (h : RdS w w.heap.size A l) (hl : l.length ≤ 9223372036854775807) (hn : ¬ (SchOk l ded cred lbp most least ∧ Mon inc)) :
    Calls Try.prog 11 #[.agg #[.slice A l.length c, .int .i64 ded, .int .i64 cred, .int .i64 lbp, .int .i64 most, .int .i64 least], .int .i64 inc] w fun e w' => e = .returned (.tuple #[.int .i64 0, .int .i64 1]) ∧ Below w.heap.size w w' := by
  have KT := Lib.hid (fun w h => taxed_no A c l ded cred lbp most least inc w h hl hn)
  clear hn
  go_enter Try.func11, Try.ntmps11
  go_wp2_with fail
  refine (KT.out _ ((h.below ((Below.refl _ _).alloc (Nat.le_refl _) _) (Nat.le_refl _)).more (by simp))).mono ?_
  rintro e w1 ⟨rfl, hb1⟩
  go_wp2_with fail
  go_ret2
  exact ⟨rfl, ((Below.refl _ _).alloc (Nat.le_refl _) _).trans (hb1.mono (by simp))⟩
set_option maxHeartbeats 800000 in
theorem fright_gen (per due filed inc wh : Int) (w : World) :
    Calls Try.prog 28 #[.agg #[.int .i64 per, .int .i64 due, .int .i64 filed, .int .i64 inc, .int .i64 wh]] w (SaysIf (RetOk per due filed inc wh) w) := by
  obtain ⟨b, hbd⟩ : ∃ b, b = allIn 0 3652058 [due, filed] := ⟨_, rfl⟩
  have K := Lib.hid (day2 due filed b hbd)
  have HB := Lib.hid hbd; clear hbd
  by_cases p0 : 1 ≤ per
  · by_cases p1 : per ≤ 99999
    · by_cases m1 : 0 ≤ min inc wh
      · by_cases m2 : max inc wh ≤ 1125899906842624
        · go_enter Try.func28, Try.ntmps28
          go_wp2_with fail
          refine (K.out _ _ (by simp)).mono ?_
          rintro e w1 ⟨rfl, hb1⟩
          have hb : Below w.heap.size w w1 := ((Below.refl _ _).alloc (Nat.le_refl _) _).trans (hb1.mono (by simp))
          cases b with
          | false =>
            go_wp2_with fail
            go_ret
            exact says_no hb
          | true =>
            have hall := allIn_iff.1 HB.out.symm
            have hd := hall due (by simp)
            have hf := hall filed (by simp)
            have HR : Hid (RetOk per due filed inc wh) := Lib.hid ⟨p0, p1, hd.1, hd.2, hf.1, hf.2, ⟨by omega, by omega⟩, ⟨by omega, by omega⟩⟩
            clear hall hd hf
            go_wp2_with fail
            go_ret
            exact says_yes HR.out hb
        · go_enter Try.func28, Try.ntmps28
          go_wp2_with fail
          refine (K.out _ _ (by simp)).mono ?_
          rintro e w1 ⟨rfl, hb1⟩
          have hb : Below w.heap.size w w1 := ((Below.refl _ _).alloc (Nat.le_refl _) _).trans (hb1.mono (by simp))
          cases b <;> (go_wp2_with fail; go_ret; exact says_no hb)
      · go_enter Try.func28, Try.ntmps28
        go_wp2_with fail
        refine (K.out _ _ (by simp)).mono ?_
        rintro e w1 ⟨rfl, hb1⟩
        have hb : Below w.heap.size w w1 := ((Below.refl _ _).alloc (Nat.le_refl _) _).trans (hb1.mono (by simp))
        cases b <;> (go_wp2_with fail; go_ret; exact says_no hb)
    · by_cases m1 : 0 ≤ min inc wh
      · by_cases m2 : max inc wh ≤ 1125899906842624
        all_goals
          go_enter Try.func28, Try.ntmps28
          go_wp2_with fail
          go_ret
          exact says_no ((Below.refl _ _).alloc (Nat.le_refl _) _)
      · go_enter Try.func28, Try.ntmps28
        go_wp2_with fail
        go_ret
        exact says_no ((Below.refl _ _).alloc (Nat.le_refl _) _)
  · by_cases m1 : 0 ≤ min inc wh
    · by_cases m2 : max inc wh ≤ 1125899906842624
      all_goals
        go_enter Try.func28, Try.ntmps28
        go_wp2_with fail
        go_ret
        exact says_no ((Below.refl _ _).alloc (Nat.le_refl _) _)
    · go_enter Try.func28, Try.ntmps28
      go_wp2_with fail
      go_ret
      exact says_no ((Below.refl _ _).alloc (Nat.le_refl _) _)
theorem aright_gen (per due filed inc wh : Int) (w : World) :
    Calls Try.prog 12 #[.agg #[.int .i64 per, .int .i64 due, .int .i64 filed, .int .i64 inc, .int .i64 wh]] w (SaysIf (RetOk per due filed inc wh) w) := by
  have K := Lib.hid (fright_gen per due filed inc wh)
  go_enter Try.func12, Try.ntmps12
  go_wp2_with fail
  refine (K.out _).mono ?_
  rintro e w1 ⟨b, rfl, hok, hb1⟩
  have HOK := Lib.hid hok; clear hok
  go_wp2_with fail
  go_ret
  exact ⟨b, rfl, HOK.out, ((Below.refl _ _).alloc (Nat.le_refl _) _).trans (hb1.mono (by simp))⟩
set_option maxHeartbeats 2000000 in
set_option maxRecDepth 100000 in
theorem bill_no (A : Option Addr) (c : Nat) (l : List Br) (ded cred lbp most least per due filed inc wh : Int) (w : World) (h : RdS w w.heap.size A l) (hl : l.length ≤ 9223372036854775807) (hn : ¬ (SchOk l ded cred lbp most least ∧ RetOk per due filed inc wh)) :
    Calls Try.prog 5 #[.agg #[.slice A l.length c, .int .i64 ded, .int .i64 cred, .int .i64 lbp, .int .i64 most, .int .i64 least], .agg #[.int .i64 per, .int .i64 due, .int .i64 filed, .int .i64 inc, .int .i64 wh]] w fun e w' => e = .returned (.tuple #[.agg #[.int .i64 0, .int .i64 0, .int .i64 0, .int .i64 0], .int .i64 1]) ∧ Below w.heap.size w w' := by
  have hr0 : RBox (((w.alloc (.cells #[.slice A l.length c, .int .i64 ded, .int .i64 cred, .int .i64 lbp, .int .i64 most, .int .i64 least] 24)).alloc (.cells #[.int .i64 per, .int .i64 due, .int .i64 filed, .int .i64 inc, .int .i64 wh] 26)).alloc (.cells #[.int .i64 0, .int .i64 0, .int .i64 0, .int .i64 0] 33)) (w.heap.size + 1) per due filed inc wh := by
    unfold RBox; rw [Below.heap_alloc _ _ _ (by simp)]
    have := heap_alloc_new (w.alloc (.cells #[.slice A l.length c, .int .i64 ded, .int .i64 cred, .int .i64 lbp, .int .i64 most, .int .i64 least] 24)) (.cells #[.int .i64 per, .int .i64 due, .int .i64 filed, .int .i64 inc, .int .i64 wh] 26)
    simpa using this
  have hz0 : ZBox (((w.alloc (.cells #[.slice A l.length c, .int .i64 ded, .int .i64 cred, .int .i64 lbp, .int .i64 most, .int .i64 least] 24)).alloc (.cells #[.int .i64 per, .int .i64 due, .int .i64 filed, .int .i64 inc, .int .i64 wh] 26)).alloc (.cells #[.int .i64 0, .int .i64 0, .int .i64 0, .int .i64 0] 33)) (w.heap.size + 1 + 1) 0 0 0 0 := by
    unfold ZBox
    have := heap_alloc_new ((w.alloc (.cells #[.slice A l.length c, .int .i64 ded, .int .i64 cred, .int .i64 lbp, .int .i64 most, .int .i64 least] 24)).alloc (.cells #[.int .i64 per, .int .i64 due, .int .i64 filed, .int .i64 inc, .int .i64 wh] 26)) (.cells #[.int .i64 0, .int .i64 0, .int .i64 0, .int .i64 0] 33)
    simpa using this
  have hb0 : Below w.heap.size w (((w.alloc (.cells #[.slice A l.length c, .int .i64 ded, .int .i64 cred, .int .i64 lbp, .int .i64 most, .int .i64 least] 24)).alloc (.cells #[.int .i64 per, .int .i64 due, .int .i64 filed, .int .i64 inc, .int .i64 wh] 26)).alloc (.cells #[.int .i64 0, .int .i64 0, .int .i64 0, .int .i64 0] 33)) :=
    (((Below.refl _ _).alloc (Nat.le_refl _) _).alloc (by simp) _).alloc (by simp; omega) _
  have HR0 := Lib.hid hr0; have HZ0 := Lib.hid hz0; have HB0 := Lib.hid hb0
  clear hr0 hz0 hb0
  by_cases hs : SchOk l ded cred lbp most least ∧ Mon inc
  · obtain ⟨ok, hi⟩ := hs
    have KT := Lib.hid (fun w h => tax_any A c l ded cred lbp most least inc w h ok hi)
    have KR := Lib.hid (aright_gen per due filed inc wh)
    have HN : Hid (¬ RetOk per due filed inc wh) := Lib.hid (fun hr => hn ⟨ok, hr⟩)
    clear ok hi hn
    go_enter Try.func5, Try.ntmps5
    go_wp2_with fail
    refine (KT.out _ ((h.below HB0.out (Nat.le_refl _)).more HB0.out.size)).mono ?_
    rintro e w1 ⟨⟨t, t0, t1, rfl⟩, hb1⟩
    have hb01 := HB0.out.trans (hb1.mono HB0.out.size)
    have HR1 := Lib.hid (HR0.out.on hb1); have HZ1 := Lib.hid (HZ0.out.on hb1)
    have r0 := cell_of_row w1 (w.heap.size + 1) 0 _ _ (0, 0) HR1.out
    have r1 := cell_of_row w1 (w.heap.size + 1) 1 _ _ (0, 0) HR1.out
    have r2 := cell_of_row w1 (w.heap.size + 1) 2 _ _ (0, 0) HR1.out
    have r3 := cell_of_row w1 (w.heap.size + 1) 3 _ _ (0, 0) HR1.out
    have r4 := cell_of_row w1 (w.heap.size + 1) 4 _ _ (0, 0) HR1.out
    simp at r0 r1 r2 r3 r4
    clear hb1
    go_wp2_with fail
    refine (KR.out _).mono ?_
    rintro e w2 ⟨b, rfl, hrok, hb2⟩
    obtain rfl : b = false := by
      cases b with
      | false => rfl
      | true => exact absurd (hrok rfl) HN.out
    clear hrok
    have hb02 := hb01.trans (hb2.mono hb01.size)
    have HZ2 := Lib.hid (HZ1.out.on hb2)
    clear r0 r1 r2 r3 r4 hb2 hb01
    have z0 := cell_of_row w2 (w.heap.size + 1 + 1) 0 _ _ (0, 0) HZ2.out
    have z1 := cell_of_row w2 (w.heap.size + 1 + 1) 1 _ _ (0, 0) HZ2.out
    have z2 := cell_of_row w2 (w.heap.size + 1 + 1) 2 _ _ (0, 0) HZ2.out
    have z3 := cell_of_row w2 (w.heap.size + 1 + 1) 3 _ _ (0, 0) HZ2.out
    simp at z0 z1 z2 z3
    have fz0 := frozen_of_row w2 (w.heap.size + 1 + 1) 0 _ _ HZ2.out
    have fz1 := frozen_of_row w2 (w.heap.size + 1 + 1) 1 _ _ HZ2.out
    have fz2 := frozen_of_row w2 (w.heap.size + 1 + 1) 2 _ _ HZ2.out
    have fz3 := frozen_of_row w2 (w.heap.size + 1 + 1) 3 _ _ HZ2.out
    go_wp2_with fail
    refine bodyPost_ret (results_c2 rfl _ _ (w.heap.size + 1 + 1) 33 #[.int .i64 0, .int .i64 0, .int .i64 0, .int .i64 0] (0, 0) _ rfl ?hg Try.underlying33 rfl bill_size) rfl ?_
    case hg => first | exact heap_set4 HZ2.out | exact HZ2.out
    exact ⟨rfl, by repeat (first | assumption | (refine Below.setCell ?_ (by show w.heap.size ≤ w.heap.size + 1 + 1; omega) _))⟩
  · have KT := Lib.hid (fun w h => tax_no A c l ded cred lbp most least inc w h hl hs)
    clear hs hn
    go_enter Try.func5, Try.ntmps5
    go_wp2_with fail
    refine (KT.out _ ((h.below HB0.out (Nat.le_refl _)).more HB0.out.size)).mono ?_
    rintro e w1 ⟨rfl, hb1⟩
    have hb01 := HB0.out.trans (hb1.mono HB0.out.size)
    have HZ2 := Lib.hid (HZ0.out.on hb1)
    have z0 := cell_of_row w1 (w.heap.size + 1 + 1) 0 _ _ (0, 0) HZ2.out
    have z1 := cell_of_row w1 (w.heap.size + 1 + 1) 1 _ _ (0, 0) HZ2.out
    have z2 := cell_of_row w1 (w.heap.size + 1 + 1) 2 _ _ (0, 0) HZ2.out
    have z3 := cell_of_row w1 (w.heap.size + 1 + 1) 3 _ _ (0, 0) HZ2.out
    simp at z0 z1 z2 z3
    have fz0 := frozen_of_row w1 (w.heap.size + 1 + 1) 0 _ _ HZ2.out
    have fz1 := frozen_of_row w1 (w.heap.size + 1 + 1) 1 _ _ HZ2.out
    have fz2 := frozen_of_row w1 (w.heap.size + 1 + 1) 2 _ _ HZ2.out
    have fz3 := frozen_of_row w1 (w.heap.size + 1 + 1) 3 _ _ HZ2.out
    clear hb1
    go_wp2_with fail
    refine bodyPost_ret (results_c2 rfl _ _ (w.heap.size + 1 + 1) 33 #[.int .i64 0, .int .i64 0, .int .i64 0, .int .i64 0] (0, 0) _ rfl ?hg Try.underlying33 rfl bill_size) rfl ?_
    case hg => first | exact heap_set4 HZ2.out | exact HZ2.out
    exact ⟨rfl, by repeat (first | assumption | (refine Below.setCell ?_ (by show w.heap.size ≤ w.heap.size + 1 + 1; omega) _))⟩
end Go.Proofs.Ytkgoaodpjeonnaa
