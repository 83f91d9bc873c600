/- The statement WalRetires, walked. -/
import Derived.Test.YtaiokogbhfliiaaGreatDoorQWwE
import Derived.Test.YtaiokogbhfliiaaGreatDoorQWpF
namespace Go.Proofs.YtaiokogbhfliiaaGreatDoor
open Go.RowKit Go.Maps

namespace Wal
section
variable {w w' : World} {base g K N T lb : Nat} {R : Int} {S wt : List (List UInt8)}
theorem Run.retire_val (h : Run w base g R 1 N T S [] lb) (ht : TabU base w) (hN : N ≤ 90000) (n : Int) :
    Calls Tryz.prog 32 #[.pointer (some ⟨lb, 0, none⟩), .int .i64 n] w fun e w' => e = .returned (.int .i64 0) ∧ (∃ k K' T' : Nat, 1 ≤ k ∧ (k = 1 ∨ (k : Int) ≤ n + 1) ∧ k ≤ S.length + 1 ∧ 1 ≤ K' ∧ (S.drop (k - 1) ≠ [] → K' = k) ∧ (S.drop (k - 1) = [] → K' = 1) ∧ Rest w' base g R K' N T' (S.drop (k - 1))) ∧ Below base w w' := by
  obtain ⟨s, m, l, x, fs, f, h⟩ := h
  have hfl := h.fl
  have h1 := retire_any h.ls ht (by rw [h.lo.cl.kept]; simp) (by omega) n
  obtain ⟨p1, p2, p3, p4, k, fs', q1, q2, q3, hcl, hflat, hsub⟩ := retire_plain h.lo h.plan n
  rw [h.lbx] at h1
  refine h1.mono ?_
  rintro e w2 ⟨rfl, m2, hls, haf⟩
  rw [h.eq] at q3 hflat
  have hrest : ∀ K', Cl (retire s l n).2.1 K' fs' → Rest w2 base g R K' N (Sto.size (retire s l n).2.1) (S.drop (k - 1)) := fun K' hc =>
    ⟨_, m2, fs', hls.st, hc, p2, p3.trans h.room, fun y hy => by
      have h9 := h.lo.inc y (hsub y hy)
      have h8 := h.lo.last
      have h7 := h.n
      omega, by rw [p4]; exact hfl, hflat, Nat.le_refl _⟩
  refine ⟨by rw [p1], ?_, haf.below h.ls⟩
  by_cases h0 : S.drop (k - 1) = []
  · refine ⟨k, 1, _, q1, q2, by omega, Nat.le_refl _, fun h => absurd h0 h, fun _ => rfl, hrest 1 ⟨hcl.ok, hcl.off, hcl.dir, hcl.disk, hcl.kept, lies_empty 1 (hflat.trans h0) hcl.lies, hcl.sync⟩⟩
  · exact ⟨k, k, _, q1, q2, by omega, q1, fun _ => rfl, fun h => absurd h h0, hrest k hcl⟩
end
set_option maxHeartbeats 1000000 in
set_option maxRecDepth 100000 in
theorem walRetires_walk (limit : Int) (a : Option Addr) (cap : Nat) (l : List Yv) (n : Int) (W : World) (_w0 : (Lit.int .i64 limit).wf = true) (hl : RdY W a l ∧ l.length ≤ cap ∧ cap ≤ 9223372036854775807) (_w2 : (Lit.int .i64 n).wf = true) (ht : Tab W) :
    Calls Tryz.prog 7 #[.int .i64 limit, .slice a l.length cap, .int .i64 n] W fun e W' => e = .returned (.bool true) ∧ Below W.heap.size W W' := by
  have KA := Lib.hid (awake_any W ht)
  have HT := Lib.hid ht
  have HL := Lib.hid hl.1
  have HCAP := Lib.hid hl.2
  clear ht hl
  go_enter Tryz.func7, Tryz.ntmps7
  go_wp2_with fail
  refine KA.out.mono ?_
  rintro e w1 ⟨rfl, hb1⟩
  have HB1 := Lib.hid hb1
  have HT1 := Lib.hid (HT.out.below hb1)
  clear hb1 KA
  by_cases h1 : limit < 1
  · go_wp2_with fail
    go_ret
    exact ⟨rfl, HB1.out⟩
  by_cases h2 : (65536 : Int) < limit
  · go_wp2_with fail
    go_ret
    exact ⟨rfl, HB1.out⟩
  by_cases h60 : (60 : Int) < (l.length : Int)
  · go_wp2_with fail
    go_ret
    exact ⟨rfl, HB1.out⟩
  by_cases h3 : n < 0
  · go_wp2_with fail
    go_ret
    exact ⟨rfl, HB1.out⟩
  by_cases h4 : (100 : Int) < n
  · go_wp2_with fail
    go_ret
    exact ⟨rfl, HB1.out⟩
  have h1' : (1 : Int) ≤ limit := by omega
  have h2' : limit ≤ (65536 : Int) := by omega
  have hl60 : l.length ≤ 60 := by omega
  have KN := Lib.hid (Rest.new w1 1048576 (by decide) (by decide) 1)
  have HTR := Lib.hid (TabU.of HT1.out)
  go_wp2_with fail
  refine KN.out.mono ?_
  rintro e' w2 ⟨g, rfl, hr, hb2⟩
  have HR := Lib.hid hr
  have HB2 := Lib.hid (HB1.out.trans (hb2.mono HB1.out.size))
  have HT2 := Lib.hid (HTR.out.keep hb2)
  have HWZ : Hid (W.heap.size ≤ w1.heap.size) := Lib.hid HB1.out.size
  have KO := Lib.hid (hr.open_val HT2.out limit h1' h2' (by decide) (by decide) (.inl rfl) (by decide))
  clear hr hb2 KN
  go_wp2_with fail
  refine KO.out.mono ?_
  rintro e' w3 ⟨lb, A, c, Y, rfl, hrun, _, _, hb3⟩
  have HRUN := Lib.hid hrun
  have HB3 := Lib.hid (HB2.out.trans (hb3.mono HWZ.out))
  have HT3 := Lib.hid (HT2.out.keep hb3)
  clear hrun hb3 KO
  clear h1 h2 h60
  go_wp2_with fail
  go_loopw [13] (fun i wr => ∃ j : Nat, i = .int .i64 (j : Int) ∧ j ≤ l.length ∧ Hid (Run wr w1.heap.size g 1048576 1 (1 + j) (j * 1025) ((l.map Yv.b).take j) [] lb) ∧ Hid (Below W.heap.size W wr) ∧ Hid (TabU w1.heap.size wr)) (fun i _ => l.length - (intOf i).toNat)
  case atStart => exact ⟨0, rfl, by omega, HRUN, HB3, HT3⟩
  case round =>
    obtain ⟨j, rfl, hj, HRR, HBQ, HTQ⟩ := hrel
    by_cases hlt2 : j < l.length
    · obtain ⟨b, off, hA, hb, r0, hrd⟩ := (HL.out.below HBQ.out).cell hlt2
      have HX : Hid ((l.map Yv.b).take (j + 1) = (l.map Yv.b).take j ++ [(l[j]).b]) := Lib.hid (by rw [List.take_succ_eq_append_getElem (by simpa using hlt2), List.getElem_map])
      obtain ⟨v, hv⟩ : ∃ v, v = l[j] := ⟨_, rfl⟩
      rw [← hv] at r0 HX hrd
      obtain ⟨vA, vc, vb⟩ := v
      simp only at r0 HX hrd
      obtain ⟨S, hS⟩ : ∃ S, S = (l.map Yv.b).take j := ⟨_, rfl⟩
      have hsl : S.length = j := by rw [hS, List.length_take, List.length_map]; omega
      rw [← hS] at HRR HX
      have HSL := Lib.hid hsl
      subst hA
      by_cases hbig : (1000 : Int) < (vb.length : Int)
      · clear hv hrd hS hsl
        go_wp2_with fail
        go_ret
        exact ⟨rfl, HBQ.out⟩
      · have KD := Lib.hid (HRR.out.add_val vA vc vb hrd (by omega) (by simp; omega))
        clear hv hrd hS hsl
        go_wp2_with fail
        refine KD.out.mono ?_
        rintro e' w5 ⟨rfl, hr5, hb5⟩
        have HB5 := Lib.hid (HBQ.out.trans (hb5.mono HWZ.out))
        have HT5 := Lib.hid (HTQ.out.keep hb5)
        have KC := Lib.hid (hr5.commit_val HT5.out (by simp; omega) (by omega) (by simp))
        clear hr5 hb5 KD
        go_wp2_with fail
        refine KC.out.mono ?_
        rintro e' w7 ⟨rfl, hr7, hb7⟩
        have HR7 := Lib.hid hr7
        have HB7 := Lib.hid (HB5.out.trans (hb7.mono HWZ.out))
        have HT7 := Lib.hid (HT5.out.keep hb7)
        clear hr7 hb7 KC
        go_wp2_with fail
        exact ⟨⟨j + 1, by simp, hlt2, Lib.hid (by
          rw [HX.out]
          obtain ⟨s, m, lg, x, fs, f, h9⟩ := HR7.out
          exact ⟨s, m, lg, x, fs, f, h9.ls, h9.lbx, h9.lo, h9.plan, h9.room, by have := h9.n; omega, by have := h9.fl; omega, h9.eq, by have := h9.sz; omega⟩), HB7, HT7⟩, by simp only [intOf]; omega⟩
    · have hje : j = l.length := by omega
      have HRF : Hid (Run wr w1.heap.size g 1048576 1 (1 + l.length) (l.length * 1025) (l.map Yv.b) [] lb) := Lib.hid (by
        have h9 := HRR.out
        rw [hje, List.take_of_length_le (by simp)] at h9
        exact h9)
      have KR := Lib.hid (HRF.out.retire_val HTQ.out (by omega) n)
      clear hje HRR
      go_wp2_with fail
      refine KR.out.mono ?_
      rintro e' w7 ⟨rfl, ⟨k, K', T', hk1, hk2, hk3, hK1, hK2, hK3, hrs⟩, hb7⟩
      have HB7 := Lib.hid (HBQ.out.trans (hb7.mono HWZ.out))
      have HT7 := Lib.hid (HTQ.out.keep hb7)
      rw [List.length_map] at hk3
      obtain ⟨D, hD⟩ : ∃ D, D = (l.map Yv.b).drop (k - 1) := ⟨_, rfl⟩
      rw [← hD] at hK2 hK3 hrs
      have hdl : D.length = l.length - (k - 1) := by rw [hD, List.length_drop, List.length_map]
      have KO2 := Lib.hid (hrs.open_val HT7.out limit h1' h2' (by omega) hK1 (by
        by_cases h0 : D = []
        · exact .inl (hK3 h0)
        · exact .inr h0) (by
        by_cases h0 : D = []
        · rw [hK3 h0, hdl]; omega
        · rw [hK2 h0, hdl]; omega))
      have HD := Lib.hid hD
      have HDL := Lib.hid hdl
      have HK2 := Lib.hid hK2
      clear hrs hb7 KR hD hdl hK2 hK3 hK1
      go_wp2_with fail
      refine KO2.out.mono ?_
      rintro e' w9 ⟨lb2, A9, c9, Y9, rfl, _, hY9, ⟨m9, hYs9⟩, hb9⟩
      have HB9 := Lib.hid (HB7.out.trans (hb9.mono HWZ.out))
      have hyl : Y9.length = D.length := by have := congrArg List.length hY9; simpa using this
      have HYL := Lib.hid hyl
      have HY9 := Lib.hid hY9
      have HYS := Lib.hid hYs9.rd
      clear hY9 hYs9 hb9 hyl KO2
      by_cases h0 : D = []
      · have hz : Y9.length = 0 := by rw [HYL.out, h0]; rfl
        have hy0 : Y9 = [] := List.eq_nil_of_length_eq_zero hz
        subst hy0
        have hn2 : (l.length : Int) ≤ n := by
          have h9 := HDL.out
          rw [h0, List.length_nil] at h9
          rcases hk2 with e | e <;> omega
        subst h0
        clear hz hk2
        go_wp2_with fail
        go_ret
        exact ⟨rfl, HB9.out⟩
      · have hK := HK2.out h0
        obtain ⟨q, rfl⟩ : ∃ q, k = q + 1 := ⟨k - 1, by omega⟩
        rw [Nat.add_sub_cancel] at HD HDL
        have hDL := HDL.out
        have hD0 : 0 < D.length := List.length_pos_iff.2 h0
        have hql : q < l.length := by omega
        have hfirst : ((if D = [] then 0 else K' : Nat) : Int) = (q : Int) + 1 := by rw [if_neg h0, hK]; rfl
        rw [hfirst]
        have hy0 : 0 < Y9.length := by rw [HYL.out]; exact hD0
        have e3 : ((Y9.length : Int) == 0) = false := beq_eq_false_iff_ne.2 (by omega)
        have hmn : min (q : Int) (l.length : Int) = (q : Int) := by omega
        have hqn : (q : Int) + 1 ≤ n + 1 := by rcases hk2 with e | e <;> omega
        have hcap := HCAP.out
        have hne : ¬ cap = q := by omega
        have hdr : RdY w9 (Option.map (fun x => x.add q) a) (l.drop q) := by
          have h8 := HL.out.below HB9.out
          have h9 := RdS.drop (f := Yv.cells) (n := 1) (fun _ => rfl) h8.row (k := q) (cap := cap) (by omega) hcap.1
          rw [if_neg hne] at h9
          simp only [Nat.mul_one] at h9
          exact ⟨h9, fun v hv => h8.ok v (List.mem_of_mem_drop hv)⟩
        have hKS := same7_any A9 (Option.map (fun x => x.add q) a) c9 (cap - q) Y9 (l.drop q) w9 HYS.out hdr (by rw [HYL.out]; omega)
        rw [List.length_drop, HY9.out, HD.out, List.map_drop, decide_eq_true rfl] at hKS
        have KS := Lib.hid hKS
        clear hDL hD0 hfirst hK h0 hk2 hdr hKS
        go_wp2_with fail
        refine KS.out.mono ?_
        rintro e' w10 ⟨rfl, hb10⟩
        have HB10 := Lib.hid (HB9.out.trans (hb10.mono HB9.out.size))
        have hq1 : (1 : Int) ≤ (q : Int) + 1 := by omega
        clear hb10 KS
        go_wp2_with fail
        go_ret
        exact ⟨rfl, HB10.out⟩
end Wal
end Go.Proofs.YtaiokogbhfliiaaGreatDoor
