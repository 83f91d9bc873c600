/- The statement WalGroups, walked. -/
import Derived.Test.YtaiokogbhfliiaaGreatDoorMrg40
import Derived.Test.YtaiokogbhfliiaaGreatDoorQWwD
namespace Go.Proofs.YtaiokogbhfliiaaGreatDoor
open Go.RowKit Go.Maps

namespace Wal
set_option maxHeartbeats 1000000 in
set_option maxRecDepth 100000 in
theorem walGroups_walk (a : Option Addr) (cap : Nat) (l : List Yv) (limit : Int) (W : World) (hl : RdY W a l ∧ l.length ≤ cap ∧ cap ≤ 9223372036854775807) (_w1 : (Lit.int .i64 limit).wf = true) (ht : Tab W) :
    Calls Tryz.prog 5 #[.slice a l.length cap, .int .i64 limit] W fun e W' => e = .returned (.bool true) ∧ Below W.heap.size W W' := by
  have KA := Lib.hid (awake_any W ht)
  have HT := Lib.hid ht
  have HL := Lib.hid hl.1
  clear ht hl
  go_enter Tryz.func5, Tryz.ntmps5
  go_wp2_with fail
  refine KA.out.mono ?_
  rintro e w1 ⟨rfl, hb1⟩
  have HB1 := Lib.hid hb1
  have HT1 := Lib.hid (HT.out.below hb1)
  clear hb1 KA
  by_cases h100 : (100 : Int) < (l.length : Int)
  · go_wp2_with fail
    go_ret
    exact ⟨rfl, HB1.out⟩
  by_cases h1 : limit < 1
  · go_wp2_with fail
    go_ret
    exact ⟨rfl, HB1.out⟩
  by_cases h2 : (65536 : Int) < limit
  · go_wp2_with fail
    go_ret
    exact ⟨rfl, HB1.out⟩
  have h1' : (1 : Int) ≤ limit := by omega
  have h2' : limit ≤ (65536 : Int) := by omega
  have hl100 : l.length ≤ 100 := by omega
  clear h100 h1 h2
  go_wp2_with fail
  go_loop [6] (fun i => ∃ k : Nat, i = .int .i64 (k : Int) ∧ k ≤ l.length ∧ Hid (∀ b ∈ (l.map Yv.b).take k, b.length ≤ 1000)) (fun i => l.length - (intOf i).toNat)
  case atStart => exact ⟨0, rfl, by omega, Lib.hid (fun _ h => by simp at h)⟩
  case round =>
    obtain ⟨k, rfl, hk, HS⟩ := hrel
    by_cases hlt : k < l.length
    · obtain ⟨b, off, hA, hb, r0, _⟩ := (HL.out.below HB1.out).cell hlt
      have HX : Hid ((l.map Yv.b).take (k + 1) = (l.map Yv.b).take k ++ [(l[k]).b]) := Lib.hid (by rw [List.take_succ_eq_append_getElem (by simpa using hlt), List.getElem_map])
      obtain ⟨v, hv⟩ : ∃ v, v = l[k] := ⟨_, rfl⟩
      rw [← hv] at r0 HX
      obtain ⟨vA, vc, vb⟩ := v
      simp only at r0 HX
      subst hA
      clear hv
      by_cases hbig : (1000 : Int) < (vb.length : Int)
      · go_wp2_with fail
        go_ret
        exact ⟨rfl, HB1.out⟩
      · go_wp2_with fail
        go_round
        case rel => exact ⟨k + 1, by simp, hlt, Lib.hid (by
          rw [HX.out]
          intro c hc
          rcases List.mem_append.1 hc with hc | hc
          · exact HS.out c hc
          · rw [List.mem_singleton] at hc
            rw [hc]; omega)⟩
        case measure => simp [intOf]; omega
    · have HSM : Hid (∀ b ∈ l.map Yv.b, b.length ≤ 1000) := Lib.hid (by
        have h9 := HS.out
        rw [List.take_of_length_le (by simp; omega)] at h9
        exact h9)
      clear HS
      go_wp2_with fail
      go_loopw [7] (fun i wr => ∃ e : Nat, i = .int .i64 (e : Int) ∧ e ≤ 2 ∧ Hid (Below W.heap.size W wr)) (fun i _ => 2 - (intOf i).toNat)
      case atStart => exact ⟨0, rfl, by omega, HB1⟩
      case round =>
        obtain ⟨e, rfl, he, HBR⟩ := hrel
        obtain ⟨wo, rfl⟩ : ∃ wo : World, wo = wr := ⟨_, rfl⟩
        by_cases he2 : e < 2
        · have he2' : (e : Int) < 2 := by omega
          have KN := Lib.hid (Rest.new wo 1048576 (by decide) (by decide) 1)
          have HTR := Lib.hid (TabU.of (HT.out.below HBR.out))
          go_wp2_with fail
          refine KN.out.mono ?_
          rintro e' w2 ⟨g, rfl, hr, hb2⟩
          have HR := Lib.hid hr
          have HB2 := Lib.hid (HBR.out.trans (hb2.mono HBR.out.size))
          have HT2 := Lib.hid (HTR.out.keep hb2)
          have HWZ : Hid (W.heap.size ≤ wo.heap.size) := Lib.hid HBR.out.size
          have KO := Lib.hid (hr.open_val HT2.out limit h1' h2' (by decide) (by decide) (.inl rfl) (by decide))
          clear hr hb2 KN
          go_wp2_with fail
          refine KO.out.mono ?_
          rintro e' w3 ⟨lb, A, c, Y, rfl, hrun, _, _, hb3⟩
          have HRUN := Lib.hid hrun
          have HB3 := Lib.hid (HB2.out.trans (hb3.mono HWZ.out))
          have HT3 := Lib.hid (HT2.out.keep hb3)
          clear hrun hb3 KO
          go_wp2_with fail
          go_loopw [14] (fun i wr => ∃ (j : Nat) (S wt : List (List UInt8)), i = .int .i64 (j : Int) ∧ j ≤ l.length ∧ Hid (S ++ wt = (l.map Yv.b).take j) ∧ Hid (Run wr wo.heap.size g 1048576 1 (1 + j) (j * 1025) S wt lb) ∧ Hid (Below W.heap.size W wr) ∧ Hid (TabU wo.heap.size wr)) (fun i _ => l.length - (intOf i).toNat)
          case atStart => exact ⟨0, [], [], rfl, by omega, Lib.hid rfl, HRUN, HB3, HT3⟩
          case round =>
            obtain ⟨j, S, wt, rfl, hj, HSW, HRR, HBQ, HTQ⟩ := hrel
            have HJL : Hid (S.length + wt.length = j) := Lib.hid (by
              have := congrArg List.length HSW.out
              rw [List.length_append, List.length_take, List.length_map] at this
              omega)
            by_cases hlt2 : j < l.length
            · obtain ⟨b, off, hA, hb, r0, hrd⟩ := (HL.out.below HBQ.out).cell hlt2
              have HX : Hid ((l.map Yv.b).take (j + 1) = (l.map Yv.b).take j ++ [(l[j]).b]) := Lib.hid (by rw [List.take_succ_eq_append_getElem (by simpa using hlt2), List.getElem_map])
              have HVL : Hid ((l[j]).b.length ≤ 1000) := Lib.hid (HSM.out _ (List.mem_map_of_mem (List.getElem_mem hlt2)))
              obtain ⟨v, hv⟩ : ∃ v, v = l[j] := ⟨_, rfl⟩
              rw [← hv] at r0 HX hrd HVL
              obtain ⟨vA, vc, vb⟩ := v
              simp only at r0 HX hrd HVL
              have hvl := HVL.out
              have esw : 1 + S.length + wt.length = 1 + j := by have := HJL.out; omega
              have KD := Lib.hid (HRR.out.add_val vA vc vb hrd (by omega) (by omega))
              rw [esw] at KD
              subst hA
              clear hv hrd esw
              go_wp2_with fail
              refine KD.out.mono ?_
              rintro e' w5 ⟨rfl, hr5, hb5⟩
              have HR5 := Lib.hid hr5
              have HB5 := Lib.hid (HBQ.out.trans (hb5.mono HWZ.out))
              have HT5 := Lib.hid (HTQ.out.keep hb5)
              have HSN : Hid (S ++ (wt ++ [vb]) = (l.map Yv.b).take (j + 1)) := Lib.hid (by rw [HX.out, ← HSW.out, List.append_assoc])
              clear hr5 hb5 KD
              by_cases he1 : e = 1
              · have q1 : ((e : Int) == 1) = true := by rw [he1]; rfl
                have KC := Lib.hid (HR5.out.commit_val HT5.out (by simp; omega) (by omega) (by have := HJL.out; rw [List.length_append, List.length_cons, List.length_nil]; omega))
                clear he1
                go_wp2_with fail
                refine KC.out.mono ?_
                rintro e' w7 ⟨rfl, hr7, hb7⟩
                have HR7 := Lib.hid hr7
                have HB7 := Lib.hid (HB5.out.trans (hb7.mono HWZ.out))
                have HT7 := Lib.hid (HT5.out.keep hb7)
                clear hr7 hb7 KC
                go_wp2_with fail
                exact ⟨⟨j + 1, S ++ (wt ++ [vb]), [], by simp, hlt2, Lib.hid (by rw [List.append_nil]; exact HSN.out), Lib.hid (by
                  obtain ⟨s, m, lg, x, fs, f, h9⟩ := HR7.out
                  exact ⟨s, m, lg, x, fs, f, h9.ls, h9.lbx, h9.lo, h9.plan, h9.room, by have := h9.n; omega, by have := h9.fl; omega, h9.eq, by have := h9.sz; omega⟩), HB7, HT7⟩, by simp only [intOf]; omega⟩
              · have q1 : ((e : Int) == 1) = false := by simp; omega
                go_wp2_with fail
                exact ⟨⟨j + 1, S, wt ++ [vb], by simp, hlt2, HSN, Lib.hid (by
                  obtain ⟨s, m, lg, x, fs, f, h9⟩ := HR5.out
                  exact ⟨s, m, lg, x, fs, f, h9.ls, h9.lbx, h9.lo, h9.plan, h9.room, by have := h9.n; omega, by have := h9.fl; omega, h9.eq, by have := h9.sz; omega⟩), HB5, HT5⟩, by simp only [intOf]; omega⟩
            · have HSF : Hid (S ++ wt = l.map Yv.b) := Lib.hid (by rw [HSW.out, List.take_of_length_le (by simp; omega)])
              have KC := Lib.hid (HRR.out.commit_val HTQ.out (by simp; omega) (by omega) (by have := HJL.out; omega))
              rw [HSF.out] at KC
              go_wp2_with fail
              refine KC.out.mono ?_
              rintro e' w7 ⟨rfl, hr7, hb7⟩
              have HR7 := Lib.hid hr7.rest
              have HB7 := Lib.hid (HBQ.out.trans (hb7.mono HWZ.out))
              have HT7 := Lib.hid (HTQ.out.keep hb7)
              have KX := Lib.hid (hr7.rest.crash_val (by omega) 0 none 0 [] RdS.nil (by simp))
              clear hr7 hb7 KC
              go_wp2_with fail
              refine KX.out.mono ?_
              rintro e' w8 ⟨rfl, hr8, hb8⟩
              have HB8 := Lib.hid (HB7.out.trans (hb8.mono HWZ.out))
              have HT8 := Lib.hid (HT7.out.keep hb8)
              have KO2 := Lib.hid (hr8.open_val HT8.out limit h1' h2' (by omega) (by decide) (.inl rfl) (by rw [List.length_map]; omega))
              clear hr8 hb8 KX
              go_wp2_with fail
              refine KO2.out.mono ?_
              rintro e' w9 ⟨lb2, A9, c9, Y9, rfl, _, hY9, ⟨m9, hYs9⟩, hb9⟩
              have HB9 := Lib.hid (HB8.out.trans (hb9.mono HWZ.out))
              have hyl : Y9.length = l.length := by have := congrArg List.length hY9; simpa using this
              have KS := Lib.hid (same7_any A9 a c9 cap Y9 l w9 hYs9.rd (HL.out.below HB9.out) (by omega))
              rw [hY9, decide_eq_true rfl] at KS
              obtain ⟨z, hz⟩ : ∃ z : Nat, z = (if l.map Yv.b = [] then 0 else 1) := ⟨_, rfl⟩
              have hmn : min (l.length : Int) 1 = (z : Int) := by
                rw [hz]
                rcases l with _ | ⟨v, l⟩
                · rfl
                · simp; omega
              rw [← hz]
              clear hY9 hYs9 hb9 hyl hz KO2
              go_wp2_with fail
              refine KS.out.mono ?_
              rintro e' w10 ⟨rfl, hb10⟩
              have HB10 := Lib.hid (HB9.out.trans (hb10.mono HB9.out.size))
              clear hb10 KS
              go_wp2_with fail
              exact ⟨⟨e + 1, by simp, by omega, HB10⟩, by simp only [intOf]; omega⟩
        · have he2' : ¬ (e : Int) < 2 := by omega
          go_wp2_with fail
          go_ret
          exact ⟨rfl, HBR.out⟩
end Wal
end Go.Proofs.YtaiokogbhfliiaaGreatDoor
