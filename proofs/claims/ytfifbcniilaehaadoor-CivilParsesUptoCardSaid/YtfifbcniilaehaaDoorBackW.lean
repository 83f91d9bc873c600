/- The walks of the laws CivilParses and CivilBack. -/
import Derived.Test.YtfifbcniilaehaaDoorPrsB
namespace Go.Proofs.YtfifbcniilaehaaDoor
open Go.RowKit

theorem parse_text {n y m d : Int} {e : Ending} (hd : IsDate n y m d) (h : ParseOf (Dig.text y m d) e) : e = .returned (.tuple #[.int .i64 n, .int .i64 0]) := by
  obtain ⟨y, m, d, rfl, rfl, rfl, hy, hm, hdd⟩ := isDate_nat hd
  obtain ⟨a1, a2⟩ := Prs.dval_digW 4 y (by omega)
  obtain ⟨b1, b2⟩ := Prs.dval_digW 2 m (by omega)
  obtain ⟨c1, c2⟩ := Prs.dval_digW 2 d (by omega)
  have hF : Prs.Fields (Dig.text (y : Int) (m : Int) (d : Int)) (Dig.digW 4 y) (Dig.digW 2 m) (Dig.digW 2 d) := by
    refine ⟨?_, by rw [Dig.digW_length], by rw [Dig.digW_length], by rw [Dig.digW_length], a2, b2, c2⟩
    unfold Dig.text
    simp
  have hV : V (Dig.digW 4 y) (Dig.digW 2 m) (Dig.digW 2 d) := by unfold V; rw [a1, b1, c1]; exact hd.1
  rcases h with ⟨p, q, r, h1, h2, rfl⟩ | ⟨h1, rfl⟩
  · obtain ⟨rfl, rfl, rfl⟩ := Prs.fields_same h1 hF
    rw [a1, b1, c1, hd.2]
  · exact absurd hV (h1 _ _ _ hF)

set_option maxHeartbeats 1000000 in
set_option maxRecDepth 100000 in
theorem civilBack_walk (n : Int) (w : World) (_w0 : (Lit.int .i64 n).wf = true) (ht : Tab w) (hm : HasMax w) :
    Calls Tryd.prog 6 #[.int .i64 n] w fun e w' => e = .returned (.bool true) ∧ Below w.heap.size w w' := by
  clear _w0
  have HT := Lib.hid ht; clear ht
  have HM := Lib.hid hm; clear hm
  by_cases c : 0 ≤ n ∧ n ≤ 3652058
  · obtain ⟨h1, h2⟩ := c
    obtain ⟨y, m, d, hd⟩ := date_there h1 h2
    have hv := hd.1
    have hnum := hd.2
    have HV := Lib.hid hv; clear hv
    have HNUM := Lib.hid hnum; clear hnum
    have HD := Lib.hid hd; clear hd
    obtain ⟨T, hT⟩ : ∃ T : ByteArray, T = ⟨(Dig.text y m d).toArray⟩ := ⟨_, rfl⟩
    have hTs : T.size < 4294967281 := by
      rw [hT]; show (Dig.text y m d).toArray.size < _
      rw [List.size_toArray, Dig.text_length]; omega
    have hTd : T.data.toList = Dig.text y m d := by rw [hT]
    have HTX := Lib.hid hT; clear hT
    have HTD := Lib.hid hTd; clear hTd
    go_enter Tryd.func6, Tryd.ntmps6
    go_wp2_with fail
    refine (awake_any _).mono ?_
    rintro e w' ⟨rfl, rfl⟩
    go_wp2_with fail
    refine (date_yes n h1 h2 _).mono ?_
    rintro e w1 ⟨he, hb1⟩
    rw [dateOf_get he HD.out]
    clear he
    go_wp2_with fail
    refine (days_yes y m d HV.out _).mono ?_
    rw [HNUM.out]
    rintro e w' ⟨rfl, rfl⟩
    go_wp2_with fail
    refine (text_yes n h1 h2 _ (HT.out.below hb1)).mono ?_
    rintro e w3 ⟨he, hb3⟩
    rw [textOf_get he HD.out, ← HTX.out]
    clear he
    have hb13 := hb1.trans (hb3.mono hb1.size)
    go_wp2_with fail
    refine (parse_any T _ hTs (HM.out.below hb13)).mono ?_
    rw [HTD.out]
    rintro e w4 ⟨he, hb4⟩
    rw [parse_text HD.out he]
    clear he
    go_wp2_with fail
    go_ret
    exact ⟨by first | rfl | simp, hb13.trans (hb4.mono hb13.size)⟩
  · have C := Lib.hid c
    by_cases c0 : n < 0
    · clear c
      go_enter Tryd.func6, Tryd.ntmps6
      go_wp2_with fail
      refine (awake_any _).mono ?_
      rintro e w' ⟨rfl, rfl⟩
      go_wp2_with fail
      refine (date_no n C.out _).mono ?_
      rintro e w' ⟨rfl, rfl⟩
      go_wp2_with fail
      go_ret
      exact ⟨rfl, Below.refl _ _⟩
    · have c1 : 3652058 < n := by omega
      clear c
      go_enter Tryd.func6, Tryd.ntmps6
      go_wp2_with fail
      refine (awake_any _).mono ?_
      rintro e w' ⟨rfl, rfl⟩
      go_wp2_with fail
      refine (date_no n C.out _).mono ?_
      rintro e w' ⟨rfl, rfl⟩
      go_wp2_with fail
      go_ret
      exact ⟨rfl, Below.refl _ _⟩

set_option maxHeartbeats 1000000 in
theorem civilParses_walk (s : ByteArray) (w : World) (_w0 : s.size ≤ maxLen) (hs : s.size ≤ 1048576) (hm : HasMax w) :
    Calls Tryd.prog 5 #[.string s] w fun e w' => e = .returned (.bool true) ∧ Below w.heap.size w w' := by
  clear _w0
  have HM := Lib.hid hm; clear hm
  go_enter Tryd.func5, Tryd.ntmps5
  go_wp2_with fail
  refine (awake_any _).mono ?_
  rintro e w' ⟨rfl, rfl⟩
  go_wp2_with fail
  refine (parse_any s _ (by omega) HM.out).mono ?_
  rintro e w1 ⟨he, hb1⟩
  have he2 := he
  rcases he2 with ⟨p, q, r, _, _, rfl⟩ | ⟨_, rfl⟩
  · obtain ⟨N, hN⟩ : ∃ N : Int, N = Cal.num (Prs.dval 0 p : Nat) (Prs.dval 0 q : Nat) (Prs.dval 0 r : Nat) := ⟨_, rfl⟩
    rw [← hN] at he ⊢
    have HE := Lib.hid he; clear he hN
    go_wp2_with fail
    refine (rparse_any s _ (by omega)).mono ?_
    rintro e w2 ⟨he, hb2⟩
    rw [parseOf_same he HE.out]
    clear he
    go_wp2_with fail
    go_ret
    exact ⟨by first | rfl | simp, hb1.trans (hb2.mono hb1.size)⟩
  · have HE := Lib.hid he; clear he
    go_wp2_with fail
    refine (rparse_any s _ (by omega)).mono ?_
    rintro e w2 ⟨he, hb2⟩
    rw [parseOf_same he HE.out]
    clear he
    go_wp2_with fail
    go_ret
    exact ⟨by first | rfl | simp, hb1.trans (hb2.mono hb1.size)⟩
end Go.Proofs.YtfifbcniilaehaaDoor
