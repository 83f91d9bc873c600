/- Parts of the proof, one behind the other: StatementAgain, walked: what was parsed is printed as it was. -/
import Derived.Test.YtlmejpkngnilcaaGreatDoorMrg40
import Derived.Test.YtlmejpkngnilcaaGreatDoorMrg41
namespace Go.Proofs.YtlmejpkngnilcaaGreatDoor
open Go.RowKit Go.Shelf

set_option maxHeartbeats 4000000 in
set_option maxRecDepth 100000 in
theorem statementAgain_walk (t : ByteArray) (a : Int) (w : World) (_w0 : t.size ≤ maxLen) (w1 : (Lit.int .i64 a).wf = true) (ht : Tab w) (hm : HasMax w) (he : Errs w) :
    Calls Tryz.prog 4 #[.string t, .int .i64 a] w fun e w' => e = .returned (.bool true) ∧ Below w.heap.size w w' := by
  have hP : PW w := ⟨ht, he, hm⟩
  have ha : -9223372036854775808 ≤ a ∧ a ≤ 9223372036854775807 := by
    simpa [Lit.wf, IntKind.has, IntKind.min, IntKind.max, IntKind.bits, IntKind.signed] using w1
  obtain ⟨ha0, ha1⟩ := ha
  obtain ⟨f, hf⟩ := dates_ex
  have KA := Lib.hid (awake_any w ht)
  have HP := Lib.hid hP
  have HF := Lib.hid hf
  clear hP hf ht hm he w1
  go_enter Tryz.func4, Tryz.ntmps4
  go_wp2_with fail
  refine KA.out.mono ?_
  rintro e w1 ⟨rfl, hb1⟩
  have HB1 := Lib.hid hb1
  clear hb1 KA
  by_cases hl : t.size ≤ 20000
  · have h20 : ¬ (20000 : Int) < (t.size : Int) := by omega
    have HP1 := Lib.hid (HP.out.below HB1.out)
    have KM := Lib.hid (money_any a ha0 ha1 w1 HP1.out.tab)
    obtain ⟨M, hM⟩ : ∃ M : ByteArray, M = ⟨(moneyL a).toArray⟩ := ⟨_, rfl⟩
    rw [← hM] at KM
    have HM := Lib.hid hM
    clear hM
    go_wp2_with fail
    refine KM.out.mono ?_
    rintro e w2 ⟨rfl, hb2⟩
    have HB2 := Lib.hid (HB1.out.trans (hb2.mono HB1.out.size))
    clear hb2 KM
    have HP2 := Lib.hid (HP.out.below HB2.out)
    have KAM : Hid (Calls Tryz.prog 11 #[.string M] w2 fun e w' => e = .returned (.tuple #[.int .i64 a, .int .i64 0]) ∧ Below w2.heap.size w2 w') := Lib.hid (by
      have h := amount_any M (moneyL a) (by rw [HM.out]) (by rw [HM.out]; have := money_len a ha0 ha1; show (moneyL a).toArray.size ≤ _; rw [List.size_toArray]; omega) w2 HP2.out.tab HP2.out.errs
      rw [amtP_money a ha0 ha1] at h
      exact h)
    go_wp2_with fail
    refine KAM.out.mono ?_
    rintro e w3 ⟨rfl, hb3⟩
    have HB3 := Lib.hid (HB2.out.trans (hb3.mono HB2.out.size))
    clear hb3 KAM
    have HP3 := Lib.hid (HP.out.below HB3.out)
    have KP := Lib.hid (sparse_any f HF.out t (by omega) w3 HP3.out)
    go_wp2_with fail
    refine KP.out.mono ?_
    rintro e w4 ⟨hb4, hcase⟩
    have HB4 := Lib.hid (HB3.out.trans (hb4.mono HB3.out.size))
    clear hb4 KP
    rcases hcase with ⟨xs, s, A, c, A2, c2, hlo, hrs, hpr, rfl, hL, hT⟩ | ⟨rfl, _⟩
    · have hsz := hlo.size.1
      have hln := hrs.len
      obtain ⟨W5, hW5⟩ : ∃ W5, W5 = w4.alloc (.cells #[.int .i64 s.id, .int .i64 s.fr, .int .i64 s.to_, .int .i64 s.owed, .int .i64 s.credit, .slice A s.l.length c, .slice A2 s.m.length c2] 25) := ⟨_, rfl⟩
      have hb5 : Below w4.heap.size w4 W5 := by rw [hW5]; exact (Below.refl _ _).alloc (Nat.le_refl _) _
      have HB5 := Lib.hid (HB4.out.trans (hb5.mono HB4.out.size))
      have KR : Hid (Calls Tryz.prog 7 #[.agg #[.int .i64 s.id, .int .i64 s.fr, .int .i64 s.to_, .int .i64 s.owed, .int .i64 s.credit, .slice A s.l.length c, .slice A2 s.m.length c2]] W5 fun e w' => e = .returned (.tuple #[.string t, .int .i64 0]) ∧ Below W5.heap.size W5 w') := Lib.hid (by
        have h := print_any f HF.out s.id s.fr s.to_ s.owed s.credit A A2 c c2 s.l s.m W5 ((hL.below hb5 (Nat.le_refl _)).more hb5.size) ((hT.below hb5 (Nat.le_refl _)).more hb5.size) (by omega) (by omega) (HP.out.below HB5.out).tab
        rw [show printV f s.id s.fr s.to_ s.owed s.credit s.l s.m = .tuple #[.string t, .int .i64 0] from hpr] at h
        exact h)
      have HW5 := Lib.hid hW5
      have b1 : (t.toList == t.toList) = true := beq_self_eq_true _
      clear hlo hrs hpr hL hT hW5 hb5 hsz hln
      unfold smtC
      go_wp2_with fail
      rw [← HW5.out]
      refine KR.out.mono ?_
      rintro e w6 ⟨rfl, hb6⟩
      have HB6 := Lib.hid (HB5.out.trans (hb6.mono HB5.out.size))
      clear hb6 KR
      go_wp2_with fail
      go_ret
      exact ⟨by simp, HB6.out⟩
    · unfold zS
      go_wp2_with fail
      go_ret
      exact ⟨rfl, HB4.out.alloc HB4.out.size _⟩
  · have h20 : (20000 : Int) < (t.size : Int) := by omega
    go_wp2_with fail
    go_ret
    exact ⟨rfl, HB1.out⟩
end Go.Proofs.YtlmejpkngnilcaaGreatDoor
