/- Parts of the proof, one behind the other: StatementBack, walked: what was printed is parsed as it was. -/
import Derived.Test.YtlmejpkngnilcaaGreatDoorMrg40
import Derived.Test.YtlmejpkngnilcaaGreatDoorQrg01
import Derived.Test.YtlmejpkngnilcaaGreatDoorMrg41
import Derived.Test.YtlmejpkngnilcaaGreatDoorQrg02
namespace Go.Proofs.YtlmejpkngnilcaaGreatDoor
open Go.RowKit Go.Shelf

theorem printL_len {f : Int → List UInt8} (hf : Dates f) {id fr to_ owed credit : Int} {l : List Ln} {m : List It} {a b : Int} (h : RightF id fr to_ owed credit l m a b) : (printL f id fr to_ owed credit l m a b).length ≤ 100000 := by
  have h1 := headW_len hf (id := id) (by have := h.id0; omega) h.id1 h.fr0 h.fr1 h.to0 h.to1
  have ho := h.ow; have hc := h.cr; have ha := h.a_; have hb := h.b_
  unfold Amt at ho hc ha hb
  have h2 := openW_len (a := owed) (b := credit) (by omega) (by omega) (by omega) (by omega)
  have h3 := openW_len (a := a) (b := b) (by omega) (by omega) (by omega) (by omega)
  have h4 : (lineL (closeW a b)).length = (lineL (openW a b)).length := by unfold closeW openW; rw [lineL_len, lineL_len]; rfl
  have h5 := flat_len (fun y => lineL (lnW f y)) 140 l (fun x hx => lnW_len hf (h.lines x hx))
  have h6 := flat_len (fun y => lineL (itW f y)) 100 m (fun x hx => itW_len hf (h.items x hx))
  have h7 := h.len; have h8 := h.mlen
  unfold printL
  simp only [List.length_append]
  omega
set_option maxHeartbeats 4000000 in
set_option maxRecDepth 100000 in
theorem statementBack_walk (id fr to_ owed credit : Int) (A A2 : Option Addr) (c c2 : Nat) (l : List Ln) (m : List It) (w : World) (hL : RdL w w.heap.size A l) (hT : RdT w w.heap.size A2 m) (ht : Tab w) (hm : HasMax w) (he : Errs w) :
    Calls Tryz.prog 3 #[.agg #[.int .i64 id, .int .i64 fr, .int .i64 to_, .int .i64 owed, .int .i64 credit, .slice A l.length c, .slice A2 m.length c2]] w fun e w' => e = .returned (.bool true) ∧ Below w.heap.size w w' := by
  obtain ⟨f, hf⟩ := dates_ex
  obtain ⟨W, hW⟩ : ∃ W : World, W = w.alloc (.cells #[.int .i64 id, .int .i64 fr, .int .i64 to_, .int .i64 owed, .int .i64 credit, .slice A l.length c, .slice A2 m.length c2] 25) := ⟨_, rfl⟩
  have hb0 : Below w.heap.size w W := by rw [hW]; exact (Below.refl _ _).alloc (Nat.le_refl _) _
  have hz : W.heap.size = w.heap.size + 1 := by rw [hW]; simp
  have g0 : W.heap[w.heap.size]? = some (.cells #[.int .i64 id, .int .i64 fr, .int .i64 to_, .int .i64 owed, .int .i64 credit, .slice A l.length c, .slice A2 m.length c2] 25) := by rw [hW]; exact heap_alloc_new w _
  have HC : Hid (∀ X, Below W.heap.size W X → X.cell? ⟨w.heap.size, 0, none⟩ = some (.int .i64 id) ∧ X.cell? ⟨w.heap.size, 1, none⟩ = some (.int .i64 fr) ∧ X.cell? ⟨w.heap.size, 2, none⟩ = some (.int .i64 to_) ∧ X.cell? ⟨w.heap.size, 3, none⟩ = some (.int .i64 owed) ∧ X.cell? ⟨w.heap.size, 4, none⟩ = some (.int .i64 credit) ∧ X.cell? ⟨w.heap.size, 5, none⟩ = some (.slice A l.length c) ∧ X.cell? ⟨w.heap.size, 6, none⟩ = some (.slice A2 m.length c2)) := Lib.hid (fun X hX => by
    have k := fun j => cell_of_row X w.heap.size j _ _ (0, 0) ((hX.block w.heap.size (by omega)).trans g0)
    rw [k, k, k, k, k, k, k]
    exact ⟨rfl, rfl, rfl, rfl, rfl, rfl, rfl⟩)
  have HPW : Hid (∀ X, Below W.heap.size W X → PW X) := Lib.hid (fun X hX => (PW.mk ht he hm).below (hb0.trans (hX.mono hb0.size)))
  have HRL : Hid (∀ X, Below W.heap.size W X → RdL X X.heap.size A l ∧ RdT X X.heap.size A2 m) := Lib.hid (fun X hX => by
    have hb := hb0.trans (hX.mono hb0.size)
    exact ⟨(hL.below hb (Nat.le_refl _)).more hb.size, (hT.below hb (Nat.le_refl _)).more hb.size⟩)
  have KA := Lib.hid (awake_any W (HPW.out W (Below.refl _ _)).tab)
  have HB0 := Lib.hid hb0
  have HW := Lib.hid hW
  have HF := Lib.hid hf
  clear hf hW hb0 hz g0 hL hT ht hm he
  go_enter Tryz.func3, Tryz.ntmps3
  go_upto_region 1 with fail
  rw [← HW.out]
  go_wp2_with fail
  refine KA.out.mono ?_
  rintro e w1 ⟨rfl, hb1⟩
  have HB1 := Lib.hid hb1
  obtain ⟨q0, q1, q2, q3, q4, q5, q6⟩ := HC.out w1 HB1.out
  have KF := Lib.hid (few_any id fr to_ owed credit A A2 c c2 l.length m.length w1)
  obtain ⟨fb, hfb⟩ : ∃ b, b = fewB l.length m.length := ⟨_, rfl⟩
  rw [← hfb] at KF
  have HFB := Lib.hid hfb
  clear hb1 KA hfb
  go_wp2_with fail
  refine KF.out.mono ?_
  rintro e w2 ⟨rfl, hb2⟩
  have HB2 := Lib.hid (HB1.out.trans (hb2.mono HB1.out.size))
  clear hb2 KF q0 q1 q2 q3 q4 q5 q6
  cases fb
  · go_wp2_with fail
    go_ret
    exact ⟨rfl, HB0.out.trans (HB2.out.mono HB0.out.size)⟩
  · have hfew : l.length ≤ 600 ∧ m.length ≤ 250 := by
      have := HFB.out
      unfold fewB at this
      simpa using this.symm
    obtain ⟨hl6, hm6⟩ := hfew
    obtain ⟨q0, q1, q2, q3, q4, q5, q6⟩ := HC.out w2 HB2.out
    obtain ⟨V, hV⟩ : ∃ V, V = printV f id fr to_ owed credit l m := ⟨_, rfl⟩
    have KP := print_any f HF.out id fr to_ owed credit A A2 c c2 l m w2 (HRL.out w2 HB2.out).1 (HRL.out w2 HB2.out).2 (by omega) (by omega) (HPW.out w2 HB2.out).tab
    rw [← hV] at KP
    cases hr : rightB id fr to_ owed credit l m with
    | false =>
      have hVE : V = .tuple #[.string ⟨#[]⟩, .int .i64 1] := by rw [hV, printV_no hr]
      rw [hVE] at KP
      have HKP := Lib.hid KP
      have HR := Lib.hid hr
      clear KP hVE hV hr
      go_wp2_with fail
      refine HKP.out.mono ?_
      rintro e w3 ⟨rfl, hb3⟩
      have HB3 := Lib.hid (HB2.out.trans (hb3.mono HB2.out.size))
      clear hb3 HKP q0 q1 q2 q3 q4 q5 q6
      obtain ⟨q0, q1, q2, q3, q4, q5, q6⟩ := HC.out w3 HB3.out
      have KR := right_ex id fr to_ owed credit A A2 c c2 l m w3 (HRL.out w3 HB3.out).1 (HRL.out w3 HB3.out).2 (by omega) (by omega)
      rw [HR.out] at KR
      have HKR := Lib.hid KR
      clear KR
      go_wp2_with fail
      refine HKR.out.mono ?_
      rintro e w4 ⟨rfl, hb4⟩
      have HB4 := Lib.hid (HB3.out.trans (hb4.mono HB3.out.size))
      clear hb4 HKR
      go_wp2_with fail
      go_ret
      exact ⟨by simp, HB0.out.trans (HB4.out.mono HB0.out.size)⟩
    | true =>
      have hF := rightB_facts hr
      obtain ⟨a, ha⟩ : ∃ a, a = (two (sumV (owed :: l.map Ln.owed))).1 := ⟨_, rfl⟩
      obtain ⟨b, hbb⟩ : ∃ a, a = (two (sumV (credit :: l.map Ln.credit))).1 := ⟨_, rfl⟩
      rw [← ha, ← hbb] at hF
      obtain ⟨t, hT⟩ : ∃ t : ByteArray, t = ⟨(printL f id fr to_ owed credit l m a b).toArray⟩ := ⟨_, rfl⟩
      have hVE : V = .tuple #[.string t, .int .i64 0] := by rw [hV, printV_yes hr, ← ha, ← hbb, hT]
      have htz : t.size ≤ 100000 := by rw [hT]; show (printL f id fr to_ owed credit l m a b).toArray.size ≤ _; rw [List.size_toArray]; exact printL_len HF.out hF
      have hps : printS f ⟨id, fr, to_, owed, credit, l, m⟩ = .tuple #[.string t, .int .i64 0] := by rw [← hVE, hV]; rfl
      rw [hVE] at KP
      have HKP := Lib.hid KP
      have HR := Lib.hid hr
      have HPS := Lib.hid hps
      clear KP hVE hV hr hF ha hbb hT hps
      go_wp2_with fail
      refine HKP.out.mono ?_
      rintro e w3 ⟨rfl, hb3⟩
      have HB3 := Lib.hid (HB2.out.trans (hb3.mono HB2.out.size))
      clear hb3 HKP q0 q1 q2 q3 q4 q5 q6
      have KX := Lib.hid (sparse_any f HF.out t htz w3 (HPW.out w3 HB3.out))
      go_wp2_with fail
      refine KX.out.mono ?_
      rintro e w4 hx
      obtain ⟨hb4, B, d, B2, d2, he4, hL4, hT4⟩ := parsed HF.out HR.out HPS.out hx
      subst he4
      have HB4 := Lib.hid (HB3.out.trans (hb4.mono HB3.out.size))
      obtain ⟨W5, hW5⟩ : ∃ W5, W5 = w4.alloc (.cells #[.int .i64 id, .int .i64 fr, .int .i64 to_, .int .i64 owed, .int .i64 credit, .slice B l.length d, .slice B2 m.length d2] 25) := ⟨_, rfl⟩
      have hb5 : Below w4.heap.size w4 W5 := by rw [hW5]; exact (Below.refl _ _).alloc (Nat.le_refl _) _
      have hB5 := HB4.out.trans (hb5.mono HB4.out.size)
      have HB5 := Lib.hid hB5
      have KS := Lib.hid (same22_any id fr to_ owed credit B B2 A A2 d d2 c c2 l m W5 ((hL4.below hb5 (Nat.le_refl _)).more hb5.size) ((hT4.below hb5 (Nat.le_refl _)).more hb5.size) (HRL.out W5 hB5).1 (HRL.out W5 hB5).2 (by omega) (by omega))
      have qq := HC.out W5 hB5
      rw [hW5] at qq
      obtain ⟨q0, q1, q2, q3, q4, q5, q6⟩ := qq
      have HW5 := Lib.hid hW5
      clear hx hb4 hL4 hT4 hW5 hb5 hB5 KX
      unfold smtC
      go_wp2_with fail
      rw [← HW5.out]
      refine KS.out.mono ?_
      rintro e w6 ⟨rfl, hb6⟩
      have HB6 := Lib.hid (HB5.out.trans (hb6.mono HB5.out.size))
      clear hb6 KS
      go_wp2_with fail
      go_ret
      exact ⟨rfl, HB0.out.trans (HB6.out.mono HB0.out.size)⟩
end Go.Proofs.YtlmejpkngnilcaaGreatDoor
