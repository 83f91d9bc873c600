/- The statement WalLasts, walked. -/
import Derived.Test.YtaiokogbhfliiaaGreatDoorQWwK
namespace Go.Proofs.YtaiokogbhfliiaaGreatDoor
open Go.RowKit Go.Maps

namespace Wal
set_option maxHeartbeats 1000000 in
set_option maxRecDepth 100000 in
theorem walLasts_walk (limit : Int) (a : Option Addr) (cap : Nat) (l : List Sv) (W : World) (_w0 : (Lit.int .i64 limit).wf = true) (hl : RdT W a l) (ht : Tab W) :
    Calls Tryz.prog 6 #[.int .i64 limit, .slice a l.length cap] W fun e W' => e = .returned (.bool true) ∧ Below W.heap.size W W' := by
  have KA := Lib.hid (awake_any W ht)
  have HT := Lib.hid ht
  have HL := Lib.hid hl
  clear ht hl
  go_enter Tryz.func6, Tryz.ntmps6
  go_wp2_with fail
  refine KA.out.mono ?_
  rintro e w1 ⟨rfl, hb1⟩
  have HB1 := Lib.hid hb1
  have HT1 := Lib.hid (TabU.of (HT.out.below hb1))
  have KM := Lib.hid (much_any a cap l w1 (HL.out.below hb1))
  clear hb1 KA
  go_wp2_with fail
  refine KM.out.mono ?_
  rintro e w2 ⟨⟨q, rfl, hq⟩, rfl⟩
  have HQ := Lib.hid hq
  clear hq KM
  rcases q with _ | _
  · by_cases h1 : limit < 1
    · go_wp2_with fail
      go_ret
      exact ⟨rfl, HB1.out⟩
    by_cases h2 : (65536 : Int) < limit
    · go_wp2_with fail
      go_ret
      exact ⟨rfl, HB1.out⟩
    have KN := Lib.hid (Sto.new_any 4194304 (by decide) (by decide) w2)
    have h1' : (1 : Int) ≤ limit := by omega
    have h2' : limit ≤ (65536 : Int) := by omega
    go_wp2_with fail
    refine KN.out.mono ?_
    rintro e w3 ⟨g, m3, rfl, hst, hb3⟩
    obtain ⟨base, hbase⟩ : ∃ b, b = w2.heap.size := ⟨_, rfl⟩
    rw [← hbase] at hst
    have HWB : Hid (W.heap.size ≤ base) := Lib.hid (by rw [hbase]; exact HB1.out.size)
    have HB3 := Lib.hid (HB1.out.trans (hb3.mono HB1.out.size))
    have HT3 : Hid (TabU base w3) := Lib.hid (by rw [hbase]; exact HT1.out.keep hb3)
    have HBS : Hid (base ≤ w3.heap.size) := Lib.hid (by rw [hbase]; exact hb3.size)
    obtain ⟨s4, l4, ho, hlas⟩ := las_new 4194304 (by decide) limit (by omega) (by omega)
    have KO := Lib.hid (opens_any hst HT3.out HBS.out limit (by show (0 : Nat) ≤ 400000; decide) (by show (0 : Nat) ≤ 100000; decide))
    rw [ho] at KO
    have HLAS := Lib.hid hlas
    have HST3 := Lib.hid hst
    clear hst hb3 ho hlas KN hbase
    go_wp2_with fail
    refine KO.out.mono ?_
    rintro e w4 (⟨h3, _⟩ | ⟨l5, bs, lb, A, c, Y, m4, h3, _, rfl, hls, haf, hlb, hY, hYs⟩)
    · cases h3
    injection h3 with h3
    injection h3 with h3 h4
    subst h3 h4
    have hbw := haf.below HST3.out
    have HR4 : Hid (LasR w4 base g 0 lb [] [] none 0 [] none 0 []) := Lib.hid ⟨s4, m4, l4, _, hls, rfl, HLAS.out, Yt.nil _ _ _ _, Yt.nil _ _ _ _, fun q e => by cases e⟩
    have HB4 := Lib.hid (HB3.out.trans (hbw.mono HWB.out))
    have HT4 := Lib.hid (HT3.out.keep hbw)
    obtain rfl : Y = [] := by simpa using hY
    clear hls haf hlb hY hYs KO hbw HLAS HST3
    go_wp2_with fail
    go_loopw [9, 12, 13, 14] (fun lp su op i wr => ∃ (k lb sc oc : Nat) (SA OA : Option Addr) (SY OY : List Yv), lp = .pointer (some ⟨lb, 0, none⟩) ∧ su = .slice SA SY.length sc ∧ op = .slice OA OY.length oc ∧ i = .int .i64 (k : Int) ∧ k ≤ l.length ∧ k ≤ 100 ∧ Hid (LasR wr base g k lb (SY.map Yv.b) (OY.map Yv.b) SA sc SY OA oc OY) ∧ Hid (Below W.heap.size W wr) ∧ Hid (TabU base wr)) (fun _ _ _ i _ => 100 - (intOf i).toNat)
    case atStart => exact ⟨0, lb, 0, 0, none, none, [], [], rfl, rfl, rfl, rfl, by omega, by omega, HR4, HB4, HT4⟩
    case round =>
      obtain ⟨k, lb, sc, oc, SA, OA, SY, OY, rfl, rfl, rfl, rfl, hk, hk2, HR, HB, HT5⟩ := hrel
      by_cases hkl : k < l.length
      · by_cases hk6 : k < 100
        · have hk6i : (k : Int) < 100 := by omega
          have hkli : (k : Int) < (l.length : Int) := by omega
          have hrt := HL.out.below HB.out
          obtain ⟨b, off, hA, hb, hc, hok⟩ := hrt.cell hkl
          have HBV : Hid ((l[k]).b.length ≤ 70000) := Lib.hid (HQ.out (by trivial) _ (by
            rw [List.mem_take_iff_getElem]
            exact ⟨k, by omega, rfl⟩))
          have hok0 := HL.out.ok _ (List.getElem_mem hkl)
          have HV0 : Hid (RdB wr base (l[k]).A (l[k]).b ∧ RdS Sto.I1 1 wr base (l[k]).KA (l[k]).keep ∧ (l[k]).keep.length ≤ 9223372036854775807) := Lib.hid ⟨(hok0.b.below HB.out (Nat.le_refl _)).more HWB.out, (hok0.keep.below HB.out (Nat.le_refl _)).more HWB.out, hok0.kl⟩
          obtain ⟨v, hv⟩ : ∃ v, v = l[k] := ⟨_, rfl⟩
          rw [← hv] at hc HBV HV0
          have r0 := hc 0 _ rfl
          have r1 := hc 1 _ rfl
          have r2 := hc 2 _ rfl
          have r3 := hc 3 _ rfl
          rw [Nat.add_zero] at r0
          obtain ⟨vd, vn, vA, vc, vb, vK, vk, vl⟩ := v
          simp only at r0 r1 r2 r3 HBV HV0
          clear hv hok hok0 hc hrt
          subst hA
          obtain ⟨O, hO⟩ : ∃ O : Obj, Obj.cells #[.int .i64 vd, .int .i64 vn, .slice vA vb.length vc, .slice vK vl.length vk] 60 = O := ⟨_, rfl⟩
          have HTG : Hid (Sto.Tag (wr.alloc O) wr.heap.size 60 ∧ ∀ X : World, X.heap[wr.heap.size]? = (wr.alloc O).heap[wr.heap.size]? → X.cell? ⟨wr.heap.size, 2, none⟩ = some (.slice vA vb.length vc)) := Lib.hid (by
            rw [← hO]
            refine ⟨⟨_, _, heap_alloc_new wr _⟩, fun X hX => ?_⟩
            rw [cell_of_row X wr.heap.size 2 _ _ (0, 0) (hX.trans (heap_alloc_new wr _))]; rfl)
          have hba : Below wr.heap.size wr (wr.alloc O) := (Below.refl _ _).alloc (Nat.le_refl _) _
          have hbs := HR.out.base_le
          have HRA := Lib.hid (HR.out.below hba)
          have HBA := Lib.hid (HB.out.trans (hba.mono HB.out.size))
          have HTA := Lib.hid (HT5.out.keep (hba.mono hbs))
          have HVA : Hid (RdB (wr.alloc O) base vA vb ∧ RdS Sto.I1 1 (wr.alloc O) base vK vl ∧ vl.length ≤ 9223372036854775807) := Lib.hid ⟨HV0.out.1.below hba hbs, HV0.out.2.1.below hba hbs, HV0.out.2.2⟩
          have HLEN := Lib.hid HR.out.len
          have hsl : SY.length ≤ 100 := by have := HLEN.out; rw [List.length_map, List.length_map] at this; omega
          have hol : OY.length ≤ 100 := by have := HLEN.out; rw [List.length_map, List.length_map] at this; omega
          have hbA : base ≤ (wr.alloc O).heap.size := HRA.out.base_le
          have hvl : vb.length ≤ 70000 := HBV.out
          obtain ⟨W1, hW1⟩ : ∃ W1, W1 = wr.alloc O := ⟨_, rfl⟩
          rw [← hW1] at HTG HRA HBA HTA HVA hbA
          rw [← hO] at hW1
          have HW1 := Lib.hid hW1
          clear hba hbs hO hW1
          by_cases d0 : vd = 0
          · subst d0
            have KA := Lib.hid (HRA.out.add_val vA vc vb (HVA.out.1.more hbA) (by omega))
            rw [HW1.out] at KA
            go_wp2_with fail
            refine KA.out.mono ?_
            rintro e w5 ⟨n, cc, rfl, hr5, hb5, hst5⟩
            rw [← HW1.out] at hb5 hst5
            have d2 := HTG.out.2 w5 (hst5 _ HTG.out.1)
            have HB5 := Lib.hid (HBA.out.trans (hb5.mono HWB.out))
            have HT5 := Lib.hid (HTA.out.keep hb5)
            have HV5 := Lib.hid (HVA.out.1.below hb5 (Nat.le_refl _))
            by_cases hcc : cc = 0
            · subst hcc
              rw [if_pos rfl] at hr5
              have HR5 := Lib.hid hr5
              have hb5s := hr5.base_le
              clear hr5 hb5 hst5 KA
              go_wp2_with (at_builtin; refine wpList_append_s _ rfl _ _ yvT rfl base OA oc OY rfl (HR5.out.rows.2.alloc _) (w5.heap.size + 1) (some ⟨w5.heap.size, 0, none⟩) 1 1 [⟨vA, vc, vb⟩] rfl rfl (rd_yv_new w5 ⟨vA, vc, vb⟩) (by simp; omega) (by unfold maxLen; simp; omega) (by simp; omega) ?_; intro A8 c8 L8 w8 hl8 ho8 hg8 hat8; have HGO := Lib.hid hg8; have HOO := Lib.hid ho8; have HLO := Lib.hid hl8; have HAT := Lib.hid hat8; clear hg8 ho8 hl8 hat8)
              have hl := HLO.out
              have hoo := HOO.out
              rw [hl] at hoo
              have hp := HR5.out.pushO ⟨vA, vc, vb⟩ HV5.out ((Below.refl _ _).alloc (Nat.le_refl _) _) HGO.out hoo (by
                rcases HAT.out with h | h
                · exact .inl h
                · exact .inr h)
              refine ⟨⟨k + 1, lb, sc, c8, SA, A8, SY, L8, rfl, rfl, rfl, by simp, hkl, hk6, ?_, Lib.hid (HB5.out.trans (hp.2.1.mono HWB.out)), Lib.hid (HT5.out.keep hp.2.1)⟩, by simp only [intOf]; omega⟩
              have h9 := hp.1
              rw [← hl] at h9
              exact Lib.hid (by
                have e : L8.map Yv.b = OY.map Yv.b ++ [vb] := by rw [hl, List.map_append]; rfl
                rw [e]; exact h9)
            · rw [if_neg hcc] at hr5
              have e1 : (cc == 0) = false := by simpa using hcc
              have HR5 := Lib.hid hr5
              clear hr5 hb5 hst5 KA hcc
              go_wp2_with fail
              exact ⟨⟨k + 1, lb, sc, oc, SA, OA, SY, OY, rfl, rfl, rfl, by simp, hkl, hk6, HR5, HB5, HT5⟩, by simp only [intOf]; omega⟩
          by_cases d1 : vd = 1
          · subst d1
            have KC := Lib.hid (HRA.out.commit_val HTA.out (by omega))
            rw [HW1.out] at KC
            go_wp2_with fail
            refine KC.out.mono ?_
            rintro e w5 ⟨cc, rfl, hr5, hb5, hst5⟩
            rw [← HW1.out] at hb5 hst5
            have HB5 := Lib.hid (HBA.out.trans (hb5.mono HWB.out))
            have HT5 := Lib.hid (HTA.out.keep hb5)
            by_cases hcc : cc = 0
            · subst hcc
              rw [if_pos rfl, if_pos rfl] at hr5
              have HR5 := Lib.hid hr5
              have hb5s := hr5.base_le
              clear hr5 hb5 hst5 KC
              go_wp2_with (at_builtin; refine wpList_append_s _ rfl _ _ yvT rfl base SA sc SY rfl HR5.out.rows.1 w5.heap.size OA OY.length oc OY rfl rfl HR5.out.rows.2.rd (by omega) (by unfold maxLen; omega) (by omega) ?_; intro A8 c8 L8 w8 hl8 ho8 hg8 hat8; have HGO := Lib.hid hg8; have HOO := Lib.hid ho8; have HLO := Lib.hid hl8; clear hg8 ho8 hl8 hat8)
              have hl := HLO.out
              have hoo := HOO.out
              rw [hl] at hoo
              have hp := HR5.out.join (Below.refl _ _) HGO.out hoo
              refine ⟨⟨k + 1, lb, c8, 0, A8, none, L8, [], rfl, rfl, rfl, by simp, hkl, hk6, ?_, Lib.hid (HB5.out.trans (hp.2.1.mono HWB.out)), Lib.hid (HT5.out.keep hp.2.1)⟩, by simp only [intOf]; omega⟩
              have h9 := hp.1
              rw [← hl] at h9
              exact Lib.hid (by
                have e : L8.map Yv.b = SY.map Yv.b ++ OY.map Yv.b := by rw [hl, List.map_append]
                rw [e]; exact h9)
            · rw [if_neg hcc, if_neg hcc] at hr5
              have e1 : (cc == 0) = false := by simpa using hcc
              have HR5 := Lib.hid hr5
              clear hr5 hb5 hst5 KC hcc
              go_wp2_with fail
              exact ⟨⟨k + 1, lb, sc, oc, SA, OA, SY, OY, rfl, rfl, rfl, by simp, hkl, hk6, HR5, HB5, HT5⟩, by simp only [intOf]; omega⟩
          by_cases d4 : vd = 4
          · subst d4
            have KP := Lib.hid (HRA.out.plan_val vA vc vb (HVA.out.1.more hbA) (by omega))
            rw [HW1.out] at KP
            go_wp2_with fail
            refine KP.out.mono ?_
            rintro e w5 ⟨rfl, hr5, hb5, hst5⟩
            rw [← HW1.out] at hb5 hst5
            have HB5 := Lib.hid (HBA.out.trans (hb5.mono HWB.out))
            have HT5 := Lib.hid (HTA.out.keep hb5)
            have HR5 := Lib.hid hr5
            clear hr5 hb5 hst5 KP
            go_wp2_with fail
            exact ⟨⟨k + 1, lb, sc, oc, SA, OA, SY, OY, rfl, rfl, rfl, by simp, hkl, hk6, HR5, HB5, HT5⟩, by simp only [intOf]; omega⟩
          by_cases d5 : vd = 5
          · subst d5
            have KX := Lib.hid (HRA.out.crash_val (by omega) vn vK vk vl HVA.out.2.1 HVA.out.2.2)
            rw [HW1.out] at KX
            go_wp2_with fail
            refine KX.out.mono ?_
            rintro e w5 ⟨rfl, hr5, hb5⟩
            rw [← HW1.out] at hb5
            have HB5 := Lib.hid (HBA.out.trans (hb5.mono HWB.out))
            have HT5 := Lib.hid (HTA.out.keep hb5)
            have KO := Lib.hid (hr5.open_val HT5.out limit h1' h2' (by omega))
            clear hr5 hb5 KX
            go_wp2_with fail
            refine KO.out.mono ?_
            rintro e w6 ⟨lb2, A2, c2, Y, j, rfl, hY, hr6, hs6, ho6, hb6⟩
            have HB6 := Lib.hid (HB5.out.trans (hb6.mono HWB.out))
            have HT6 := Lib.hid (HT5.out.keep hb6)
            have HR6 := Lib.hid hr6
            have HS6 := Lib.hid (And.intro hs6 ho6)
            have HY := Lib.hid hY
            have hyl : Y.length = SY.length + min j OY.length := by
              have := congrArg List.length hY
              rw [List.length_map, List.length_append, List.length_take, List.length_map, List.length_map] at this
              exact this
            have y1 : ¬ (Y.length : Int) < (SY.length : Int) := by omega
            have y2 : ¬ ((SY.length : Int) + (OY.length : Int)) < (Y.length : Int) := by omega
            have y3 : Y.length ≤ 200 := by omega
            have HYE : Hid (Y.length = SY.length + min j OY.length) := Lib.hid hyl
            have HYL : Hid (Y.length ≤ (SY ++ OY).length) := Lib.hid (by rw [List.length_append]; omega)
            have hw1 : IntKind.i64.wrap ((SY.length : Int) + (OY.length : Int)) = (SY.length : Int) + (OY.length : Int) := by rw [IntKind.wrap_i64]; omega
            obtain ⟨z, hz⟩ : ∃ z : Nat, z = (if Y = [] then 0 else 1) := ⟨_, rfl⟩
            rw [← hz]
            have hzz : (z = 0 ∧ Y.length = 0) ∨ (z = 1 ∧ 0 < Y.length) := by
              rcases Y with _ | ⟨v, Y⟩
              · exact .inl ⟨hz, rfl⟩
              · exact .inr ⟨by rw [hz, if_neg (by simp)], by simp⟩
            clear hY hr6 hs6 ho6 hb6 hyl hz KO
            have HO6 : Hid (OwnS Yv.cells 1 (w6.alloc (.cells #[] 23)) w6.heap.size 23 (some ⟨w6.heap.size, 0, none⟩) 0 ([] : List Yv)) := Lib.hid (World.ownsRow_lit (e := 23) (size := 1) w6 #[] 0 (Nat.le_refl _) (by unfold maxLen; omega) rfl)
            have hzq : (0 < Y.length ∧ (0 : Int) < (Y.length : Int)) ∨ (¬ 0 < Y.length ∧ ¬ (0 : Int) < (Y.length : Int)) := by omega
            rcases hzz with ⟨rfl, hz⟩ | ⟨rfl, hz⟩
            all_goals
              rcases hzq with ⟨y4, y5⟩ | ⟨y4, y5⟩
              all_goals first | (exfalso; omega) | skip
              clear hz
              go_wp2_with (first
                | (at_builtin; refine wpList_append_s _ rfl _ _ yvT rfl w6.heap.size (some ⟨w6.heap.size, 0, none⟩) 0 ([] : List Yv) rfl HO6.out w6.heap.size SA SY.length sc SY rfl rfl (HS6.out.1.row.alloc (Nat.le_refl _) _) (by simp; omega) (by unfold maxLen; simp; omega) (by simp) ?_; intro A8 c8 L8 w8 hl8 ho8 hg8 hat8; have HOO := Lib.hid ho8; have HLO := Lib.hid hl8; have hll8 : L8.length ≤ 100 := (by rw [hl8]; simp; omega); have HB8 := Lib.hid (((Below.refl _ w6).alloc (Nat.le_refl _) _).grown hg8 (by simp) (fun g e => by injection e with e; exact Nat.le_of_eq e)); have hbs8 : w6.heap.size ≤ w8.heap.size := HB8.out.size; clear hg8 ho8 hl8 hat8)
                | (at_builtin; refine wpList_append_s _ rfl _ _ yvT rfl w6.heap.size A8 c8 L8 rfl HOO.out w6.heap.size OA OY.length oc OY rfl rfl (HS6.out.2.row.below HB8.out (Nat.le_refl _)) (by omega) (by unfold maxLen; omega) hbs8 ?_; intro A9 c9 L9 w9 hl9 ho9 hg9 hat9; have HO9 := Lib.hid ho9; have HL9 := Lib.hid hl9; have HB9 := Lib.hid (HB8.out.grown hg9 (by omega) (fun g e => (HOO.out.blk_ge g e).1)); have hc9 : Y.length ≤ c9 := (by have h1 := ho9.cap; have h2 := HYL.out; rw [hl9, HLO.out, List.nil_append] at h1; omega); clear hg9 ho9 hl9 hat9))
              have HE : Hid (Y.map Yv.b = ((SY ++ OY).take Y.length).map Yv.b) := Lib.hid (by
                rw [HY.out, List.map_take, List.map_append, take_both _ _ j _ (by rw [List.length_map, List.length_map]; exact HYE.out)])
              have HB69 := HB9
              have hrq : RdY w9 A9 ((SY ++ OY).take Y.length) := ⟨by
                have h1 := HO9.out.rd
                rw [HL9.out, HLO.out, List.nil_append] at h1
                exact RdS.take (f := Yv.cells) (n := 1) (fun _ => rfl) h1 HYL.out, fun v hv => by
                have h1 := List.mem_of_mem_take hv
                rcases List.mem_append.1 h1 with h1 | h1
                · exact ((HS6.out.1.below HB69.out).ok v h1)
                · exact ((HS6.out.2.below HB69.out).ok v h1)⟩
              have KS := Lib.hid (same7_any A2 A9 c2 c9 Y ((SY ++ OY).take Y.length) w9 (HR6.out.rd.below HB69.out) hrq (by omega))
              rw [decide_eq_true HE.out, List.length_take, Nat.min_eq_left HYL.out] at KS
              clear hrq
              refine KS.out.mono ?_
              rintro e w10 ⟨rfl, hb10⟩
              have hb610 := HB69.out.trans (hb10.mono HB69.out.size)
              have HF : Hid (LasR w10 base g (k + 1) lb2 (Y.map Yv.b) [] A2 c2 Y none 0 [] ∧ Below W.heap.size W w10 ∧ TabU base w10) := Lib.hid ⟨HR6.out.below hb610, HB6.out.trans (hb610.mono HB6.out.size), HT6.out.keep (hb610.mono HR6.out.base_le)⟩
              clear hb10 hb610 KS
              go_wp2_with fail
              exact ⟨⟨k + 1, lb2, c2, 0, A2, none, Y, [], rfl, rfl, rfl, by simp, hkl, hk6, Lib.hid HF.out.1, Lib.hid HF.out.2.1, Lib.hid HF.out.2.2⟩, by simp only [intOf]; omega⟩
          · have e0 : (vd == 0) = false := by simpa using d0
            have e1 : (vd == 1) = false := by simpa using d1
            have e4 : (vd == 4) = false := by simpa using d4
            have e5 : (vd == 5) = false := by simpa using d5
            clear d0 d1 d4 d5
            rw [HW1.out] at HRA HBA HTA
            go_wp2_with fail
            exact ⟨⟨k + 1, lb, sc, oc, SA, OA, SY, OY, rfl, rfl, rfl, by simp, hkl, hk6, Lib.hid (HRA.out.mono (Nat.le_succ _)), HBA, HTA⟩, by simp only [intOf]; omega⟩
        · have hk6i : ¬ (k : Int) < 100 := by omega
          have hkli : (k : Int) < (l.length : Int) := by omega
          go_wp2_with fail
          go_ret
          exact ⟨rfl, HB.out⟩
      · have hkli : ¬ (k : Int) < (l.length : Int) := by omega
        go_wp2_with fail
        go_ret
        exact ⟨rfl, HB.out⟩
  · go_wp2_with fail
    go_ret
    exact ⟨rfl, HB1.out⟩
end Wal
end Go.Proofs.YtaiokogbhfliiaaGreatDoor
