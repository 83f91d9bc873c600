/- The statement WalEnds, walked. -/
import Derived.Test.YtaiokogbhfliiaaGreatDoorMrg40
import Derived.Test.YtaiokogbhfliiaaGreatDoorQWwD
import Derived.Test.YtaiokogbhfliiaaGreatDoorQWpG
import Derived.Test.YtaiokogbhfliiaaGreatDoorMrg05
import Derived.Test.YtaiokogbhfliiaaGreatDoorMrg16
import Derived.Test.YtaiokogbhfliiaaGreatDoorMrg01
namespace Go.Proofs.YtaiokogbhfliiaaGreatDoor
open Go.RowKit Go.Maps

namespace Wal
section
variable {w w' : World} {base g K N T lb : Nat} {R : Int} {S wt : List (List UInt8)}
theorem Run.add_over (h : Run w base g R K N T S wt lb) (bA : Option Addr) (bc : Nat) (b : List UInt8) (hb : RdB w w.heap.size bA b) (hl : b.length ≤ 60000) (hn : ¬ K + S.length + wt.length ≤ 1099511627776) :
    Calls Tryz.prog 29 #[.pointer (some ⟨lb, 0, none⟩), .slice bA b.length bc] w fun e w' => e = .returned (.tuple #[.int .i64 0, .int .i64 2]) ∧ Run w' base g R K N T S wt lb ∧ Below base w w' := by
  obtain ⟨s, m, l, x, fs, f, h⟩ := h
  have hnx : l.next = K + S.length + wt.length := by rw [← h.eq]; exact h.lo.next
  have h1 := add_any h.ls bA bc b hb (by omega)
  rw [h.lbx, Wal.add_over b h.lo.brk (by omega) (by omega)] at h1
  refine h1.mono ?_
  rintro e w2 ⟨rfl, m2, x2, hls, haf⟩
  exact ⟨rfl, ⟨s, m2, l, x2, fs, f, hls, haf.lb.trans h.lbx, h.lo, h.plan, h.room, h.n, h.fl, h.eq, h.sz⟩, haf.below h.ls⟩
end
set_option maxHeartbeats 1000000 in
set_option maxRecDepth 100000 in
theorem walEnds_walk (num : Int) (a1 : Option Addr) (c1 : Nat) (l1 : List UInt8) (a2 : Option Addr) (c2 : Nat) (l2 : List UInt8) (W : World) (_w0 : (Lit.int .i64 num).wf = true) (g1 : l1.length ≤ c1) (_b1 : c1 ≤ 9223372036854775807) (r1 : RdB W W.heap.size a1 l1) (g2 : l2.length ≤ c2) (_b2 : c2 ≤ 9223372036854775807) (r2 : RdB W W.heap.size a2 l2) (ht : Tab W) :
    Calls Tryz.prog 4 #[.int .i64 num, .slice a1 l1.length c1, .slice a2 l2.length c2] W fun e W' => e = .returned (.bool true) ∧ Below W.heap.size W W' := by
  have KA := Lib.hid (awake_any W ht)
  have HT := Lib.hid ht
  have HR1 := Lib.hid r1
  have HR2 := Lib.hid r2
  clear ht r1 r2
  go_enter Tryz.func4, Tryz.ntmps4
  go_wp2_with fail
  refine KA.out.mono ?_
  rintro e w1 ⟨rfl, hb1⟩
  have HB1 := Lib.hid hb1
  have HT1 := Lib.hid (HT.out.below hb1)
  have KN := Lib.hid (Sto.new_any 10000 (by decide) (by decide) w1)
  clear hb1 KA
  go_wp2_with fail
  refine KN.out.mono ?_
  rintro e w2 ⟨g, m, rfl, hst, hb2⟩
  have HST := Lib.hid hst
  have HB2 := Lib.hid (HB1.out.trans (hb2.mono HB1.out.size))
  have HT2 := Lib.hid ((TabU.of HT1.out).keep hb2)
  clear hst hb2 KN
  by_cases h1 : num < 1
  · go_wp2_with fail
    go_ret
    exact ⟨rfl, HB2.out⟩
  by_cases h2 : (2199023255552 : Int) < num
  · go_wp2_with fail
    go_ret
    exact ⟨rfl, HB2.out⟩
  by_cases h3 : (1000 : Int) < (l1.length : Int)
  · go_wp2_with fail
    go_ret
    exact ⟨rfl, HB2.out⟩
  by_cases h4 : (1000 : Int) < (l2.length : Int)
  · go_wp2_with fail
    go_ret
    exact ⟨rfl, HB2.out⟩
  obtain ⟨n, rfl⟩ := Int.eq_ofNat_of_zero_le (show 0 ≤ num by omega)
  have KN := Lib.hid (rnumber_any n (by omega) w2)
  have hl1 : l1.length ≤ 1000 := by omega
  have hl2 : l2.length ≤ 1000 := by omega
  have hn1 : 1 ≤ n := by omega
  have hn2 : n ≤ 2199023255552 := by omega
  have hnum := Cod.number_len (n := n) (by omega)
  go_wp2_with fail
  refine KN.out.mono ?_
  rintro e w3 ⟨A3, c3, rfl, ho3, hb3⟩
  have HO3 := Lib.hid ho3
  have hw1 : w1.heap.size ≤ w2.heap.size := by have := HST.out.r.gb; have := HST.out.r.gt.lt; omega
  have HB32 := Lib.hid hb3
  have HB3 := Lib.hid (hb3.mono hw1)
  have HB3W := Lib.hid (HB2.out.trans (HB3.out.mono HB1.out.size))
  have HT3 := Lib.hid (HT2.out.keep HB3.out)
  have HR1' := Lib.hid ((HR1.out.below HB3W.out (Nat.le_refl _)).more HB3W.out.size)
  have hb3s := hb3.size
  clear hb3 ho3 KN
  go_wp2_with (at_builtin; refine wpList_append_b _ rfl _ _ bt rfl w2.heap.size A3 c3 (Cod.number n) rfl HO3.out w3.heap.size a1 l1.length c1 l1 rfl rfl HR1'.out (by omega) (by have := (hb3s : w2.heap.size ≤ w3.heap.size); exact this) ?_; intro A4 c4 L4 w4 hl4 ho4 hg4 hat4; have HL4 := Lib.hid hl4; clear hl4)
  have HB4 : Hid (Below w2.heap.size w2 w4) := Lib.hid (HB32.out.grown hg4 hb3s (fun q e => (HO3.out.blk_ge q e).1))
  have HL4l : Hid (L4.length ≤ 1010) := Lib.hid (by rw [HL4.out, List.length_append]; omega)
  have KP := Lib.hid (rfput_yes 66 A4 c4 L4 w4 ho4.rd (by have := HL4l.out; omega))
  clear ho4 hg4 hat4
  go_wp2_with fail
  refine KP.out.mono ?_
  rintro e w5 ⟨A5, c5, rfl, ho5, hb5⟩
  obtain ⟨F, hF⟩ : ∃ F, F = Frm.put 66 L4 := ⟨_, rfl⟩
  have HF : Hid (F = one (n, l1)) := Lib.hid (by rw [hF, HL4.out]; rfl)
  rw [← hF] at ho5 ⊢
  have hFl : F.length ≤ 1025 := by
    rw [HF.out]
    have := one_len2 (n, l1) (by simp only; omega) (by simp only; omega)
    simp only at this
    omega
  have HB5 : Hid (Below w2.heap.size w2 w5) := Lib.hid (HB4.out.trans (hb5.mono HB4.out.size))
  have HST5 := Lib.hid (HST.out.below HB5.out)
  have HP5 : Hid (Sto.Apart w5 g m A5) := Lib.hid (Sto.Apart.new (HST.out.below HB4.out).r ho5)
  have HF5 := Lib.hid ho5.rd
  have h7 : (⟨(name 7).toArray⟩ : ByteArray) = ⟨#[108, 111, 103, 45, 48, 48, 48, 48, 48, 55]⟩ := by decide +kernel
  have h7l : (name 7).length ≤ maxLen := by rw [name_len]; unfold maxLen; omega
  have hKC := Sto.create_any (name 7) h7l w5 w1.heap.size g _ _ HST5.out (by show (0 : Nat) ≤ 1000000; decide) (by show (0 : Nat) ≤ 1000000; decide)
  rw [h7, ends1] at hKC
  have KC := Lib.hid hKC
  clear ho5 hb5 hF hKC KP
  go_wp2_with fail
  refine KC.out.mono ?_
  rintro e w6 ⟨rfl, m6, hst6, haf6⟩
  have HB6 : Hid (Below W.heap.size W w6) := Lib.hid ((HB2.out.trans (HB5.out.mono HB2.out.size)).trans ((haf6.below HST5.out.r).mono HB1.out.size))
  have HT6 := Lib.hid ((HT2.out.keep (HB5.out.mono hw1)).keep (haf6.below HST5.out.r))
  have HF6 := Lib.hid (Sto.rdB_aft HF5.out HP5.out haf6)
  have HP6 := Lib.hid (HP5.out.aft haf6)
  have hKA := Sto.append_any (name 7) h7l A5 c5 F hst6 HF6.out HP6.out (by show (1 : Nat) ≤ 1000000; decide)
  rw [h7, ends2 F (by omega)] at hKA
  have KA2 := Lib.hid hKA
  have HST6 := Lib.hid hst6
  clear hst6 haf6 hKA KC
  go_wp2_with fail
  refine KA2.out.mono ?_
  rintro e w7 ⟨rfl, m7, hst7, haf7⟩
  have HB7 : Hid (Below W.heap.size W w7) := Lib.hid (HB6.out.trans ((haf7.below HST6.out.r).mono HB1.out.size))
  have HT7 := Lib.hid (HT6.out.keep (haf7.below HST6.out.r))
  have hKS := Sto.sync_any (name 7) h7l w7 w1.heap.size g _ _ hst7
  rw [h7, ends3 F] at hKS
  have KS := Lib.hid hKS
  have HST7 := Lib.hid hst7
  clear hst7 haf7 hKS KA2
  go_wp2_with fail
  refine KS.out.mono ?_
  rintro e w8 ⟨rfl, m8, hst8, haf8⟩
  have HB8 : Hid (Below W.heap.size W w8) := Lib.hid (HB7.out.trans ((haf8.below HST7.out.r).mono HB1.out.size))
  have HT8 := Lib.hid (HT7.out.keep (haf8.below HST7.out.r))
  have hKD := Sto.syncDir_any hst8
  rw [ends4 F] at hKD
  have KD := Lib.hid hKD
  have HST8 := Lib.hid hst8
  clear hst8 haf8 hKD KS
  go_wp2_with fail
  refine KD.out.mono ?_
  rintro e w9 ⟨rfl, m9, hst9, haf9⟩
  have HB9 : Hid (Below W.heap.size W w9) := Lib.hid (HB8.out.trans ((haf9.below HST8.out.r).mono HB1.out.size))
  have HT9 := Lib.hid (HT8.out.keep (haf9.below HST8.out.r))
  have HST9 := Lib.hid hst9
  clear hst9 haf9 KD h7 h7l
  have HCL : Hid (Cl (oneFile F) (if n ≤ 1099511627776 then n else 1) [⟨7, 0, if n ≤ 1099511627776 then [l1] else []⟩]) := Lib.hid (by
    have h9 := HST9.out.r.ok
    rw [HF.out] at h9 ⊢
    exact ends_cl n l1 hn1 hn2 hl1 h9)
  have HREST : Hid (Rest w9 w1.heap.size g 10000 (if n ≤ 1099511627776 then n else 1) 7 1025 (if n ≤ 1099511627776 then [l1] else [])) := Lib.hid ⟨_, m9, _, HST9.out, HCL.out, rfl, rfl, (fun f hf => by rw [List.mem_singleton] at hf; rw [hf]; exact Nat.le_refl _), by show (1 : Nat) ≤ 7; decide, by simp [flat], by
    show (F.length + 0) ≤ 1025
    omega⟩
  by_cases h40 : n ≤ 1099511627776
  · rw [if_pos h40, if_pos h40] at HREST
    have KO := Lib.hid (HREST.out.open_val HT9.out 50 (by decide) (by decide) (by decide) hn1 (.inr (by simp)) (by simp; omega))
    rw [if_neg (by simp)] at KO
    clear HCL HREST HST9 HST8 HST7 HST6 HST5 HP6 HF6 HP5 HF5 HL4 HL4l HF hFl HO3 HB4 HB5 HB6 HB7 HB8 HB3 HB3W HB32 hb3s HT8 HT7 HT6 HT3 HST HR1' hw1 hnum
    go_wp2_with fail
    refine KO.out.mono ?_
    rintro e w10 ⟨lb, A, c, Y, rfl, hrun, hY, ⟨mY, hYs⟩, hb10⟩
    have HRUN := Lib.hid hrun
    have HB10 := Lib.hid (HB9.out.trans (hb10.mono HB1.out.size))
    have HT10 := Lib.hid (HT9.out.keep hb10)
    obtain ⟨y, rfl⟩ : ∃ y, Y = [y] := by
      have := congrArg List.length hY
      simp only [List.length_map, List.length_cons, List.length_nil] at this
      exact List.length_eq_one_iff.1 this
    obtain ⟨yb, yo, rfl, hyb, r1, q1⟩ := hYs.rd.cell (k := 0) (by simp)
    have hyl : y.b = l1 := by simpa using hY
    simp only [List.getElem_cons_zero, Nat.add_zero] at r1 q1
    obtain ⟨yA, yc, yv⟩ := y
    simp only at hyl r1 q1
    subst hyl
    have q2 : RdB w10 w10.heap.size a1 yv := (HR1.out.below HB10.out (Nat.le_refl _)).more HB10.out.size
    have s1 : ∀ a, (convert 23 9 (.slice yA yv.length yc)).run Tryz.prog (w10.drewN a) = .ok (.string ⟨yv.toArray⟩) (w10.drewN a) := fun a => strB_of (q1.below (Wal.below_drewN w10 a) (Nat.le_refl _))
    have s2 : ∀ a, (convert 23 9 (.slice a1 yv.length c1)).run Tryz.prog (w10.drewN a) = .ok (.string ⟨yv.toArray⟩) (w10.drewN a) := fun a => strB_of (q2.below (Wal.below_drewN w10 a) (Nat.le_refl _))
    obtain ⟨S1, hS1⟩ : ∃ S : ByteArray, ⟨yv.toArray⟩ = S := ⟨_, rfl⟩
    rw [hS1] at s1 s2
    have kx : ∀ a, Calls Tryz.prog 19 #[.pointer (some ⟨lb, 0, none⟩)] (w10.drewN a) fun e w' => e = .returned (.int .i64 (((n : Nat) : Int) + 1)) ∧ w' = w10.drewN a := fun a => (HRUN.out.below (Wal.below_drewN w10 a)).next_val
    clear hrun hb10 KO hY hYs hS1 q1 q2
    go_wp2_with fail
    go_quiet (exact Calls.quiet_of_same (kx _))
    refine Sto.drewN_of (fun V hbV hVh => ?_)
    have HBV := Lib.hid (HB10.out.trans (hbV.mono HB10.out.size))
    have HTV := Lib.hid (HT10.out.keep (hbV.mono HRUN.out.base_le))
    have HRV := Lib.hid (HRUN.out.below hbV)
    have HR2V : Hid (RdB V V.heap.size a2 l2) := Lib.hid ((HR2.out.below HBV.out (Nat.le_refl _)).more HBV.out.size)
    clear hbV hVh s1 s2 kx r1 HRUN HB10 HT10 HR1
    by_cases h41 : n < 1099511627776
    · have KD := Lib.hid (HRV.out.add_val a2 c2 l2 HR2V.out (by omega) (by simp; omega))
      have h41i : (n : Int) < 1099511627776 := by omega
      go_wp2_with fail
      refine KD.out.mono ?_
      rintro e w12 ⟨rfl, hr12, hb12⟩
      have HB12 := Lib.hid (HBV.out.trans (hb12.mono HB1.out.size))
      have HT12 := Lib.hid (HTV.out.keep hb12)
      have KC := Lib.hid (hr12.commit_val HT12.out (by omega) (by decide) (by simp))
      clear hr12 hb12 KD
      go_wp2_with fail
      refine KC.out.mono ?_
      rintro e w13 ⟨rfl, hr13, hb13⟩
      have HB13 := Lib.hid (HB12.out.trans (hb13.mono HB1.out.size))
      have HT13 := Lib.hid (HT12.out.keep hb13)
      have KO := Lib.hid (hr13.rest.open_val HT13.out 50 (by decide) (by decide) (by decide) hn1 (.inr (by simp)) (by simp; omega))
      rw [if_neg (by simp)] at KO
      clear hr13 hb13 KC
      go_wp2_with fail
      refine KO.out.mono ?_
      rintro e w14 ⟨lb2, A2, c2', Y2, rfl, hrun, hY, ⟨mY, hYs⟩, hb14⟩
      have HB14 := Lib.hid (HB13.out.trans (hb14.mono HB1.out.size))
      obtain ⟨y1, y2, rfl⟩ : ∃ y1 y2, Y2 = [y1, y2] := by
        have := congrArg List.length hY
        simp only [List.length_map, List.length_append, List.length_cons, List.length_nil] at this
        rcases Y2 with _ | ⟨y1, _ | ⟨y2, _ | ⟨y3, r⟩⟩⟩
        · simp at this
        · simp at this
        · exact ⟨y1, y2, rfl⟩
        · simp at this
      obtain ⟨yb2, yo2, rfl, hyb2, r1, q1⟩ := hYs.rd.cell (k := 1) (by simp)
      have hyl : y2.b = l2 := by
        simp only [List.map_cons, List.map_nil, List.nil_append, List.cons_append] at hY
        injection hY with _ hY
        injection hY
      simp only [List.getElem_cons_zero, List.getElem_cons_succ] at r1 q1
      obtain ⟨yA2, yc2, yv2⟩ := y2
      simp only at hyl r1 q1
      subst hyl
      have q2 : RdB w14 w14.heap.size a2 yv2 := (HR2.out.below HB14.out (Nat.le_refl _)).more HB14.out.size
      have s1 : ∀ a, (convert 23 9 (.slice yA2 yv2.length yc2)).run Tryz.prog (w14.drewN a) = .ok (.string ⟨yv2.toArray⟩) (w14.drewN a) := fun a => strB_of (q1.below (Wal.below_drewN w14 a) (Nat.le_refl _))
      have s2 : ∀ a, (convert 23 9 (.slice a2 yv2.length c2)).run Tryz.prog (w14.drewN a) = .ok (.string ⟨yv2.toArray⟩) (w14.drewN a) := fun a => strB_of (q2.below (Wal.below_drewN w14 a) (Nat.le_refl _))
      obtain ⟨S1, hS1⟩ : ∃ S : ByteArray, ⟨yv2.toArray⟩ = S := ⟨_, rfl⟩
      rw [hS1] at s1 s2
      have hq : ((n : Int) == 1099511627776) = false := by simp; omega
      clear hrun hb14 KO hY hYs hS1 q1 q2
      go_wp2_with fail
      go_quiet (fail)
      refine Sto.drewN_of (fun V hbV hVh => ?_)
      have HBV := Lib.hid (HB14.out.trans (hbV.mono HB14.out.size))
      clear hbV hVh
      go_wp2_with fail
      go_ret
      exact ⟨rfl, HBV.out⟩
    · have he : n = 1099511627776 := by omega
      subst he
      have KD := Lib.hid (HRV.out.add_over a2 c2 l2 HR2V.out (by omega) (by simp))
      go_wp2_with fail
      refine KD.out.mono ?_
      rintro e w12 ⟨rfl, hr12, hb12⟩
      have HB12 := Lib.hid (HBV.out.trans (hb12.mono HB1.out.size))
      have HT12 := Lib.hid (HTV.out.keep hb12)
      have KC := Lib.hid (hr12.commit_val HT12.out (by omega) (by decide) (by simp))
      clear hr12 hb12 KD
      go_wp2_with fail
      refine KC.out.mono ?_
      rintro e w13 ⟨rfl, hr13, hb13⟩
      have HB13 := Lib.hid (HB12.out.trans (hb13.mono HB1.out.size))
      have HT13 := Lib.hid (HT12.out.keep hb13)
      have KO := Lib.hid (hr13.rest.open_val HT13.out 50 (by decide) (by decide) (by decide) hn1 (.inr (by simp)) (by simp))
      clear hr13 hb13 KC
      go_wp2_with fail
      refine KO.out.mono ?_
      rintro e w14 ⟨lb2, A2, c2', Y2, rfl, hrun, hY, _, hb14⟩
      have HB14 := Lib.hid (HB13.out.trans (hb14.mono HB1.out.size))
      obtain ⟨y1, rfl⟩ : ∃ y1, Y2 = [y1] := by
        have := congrArg List.length hY
        simp only [List.length_map, List.length_append, List.length_cons, List.length_nil] at this
        exact List.length_eq_one_iff.1 this
      clear hrun hb14 KO hY
      go_wp2_with fail
      go_ret
      exact ⟨rfl, HB14.out⟩
  · rw [if_neg h40, if_neg h40] at HREST
    have KO := Lib.hid (HREST.out.open_val HT9.out 50 (by decide) (by decide) (by decide) (by decide) (.inl rfl) (by decide))
    rw [if_pos rfl] at KO
    clear HCL HREST HST9 HST8 HST7 HST6 HST5 HP6 HF6 HP5 HF5 HL4 HL4l HF hFl HO3 HB4 HB5 HB6 HB7 HB8 HB3 HB3W HB32 hb3s HT8 HT7 HT6 HT3 HST HR1' hw1 hnum
    go_wp2_with fail
    refine KO.out.mono ?_
    rintro e w10 ⟨lb, A, c, Y, rfl, hrun, hY, _, hb10⟩
    have HRUN := Lib.hid hrun
    have HB10 := Lib.hid (HB9.out.trans (hb10.mono HB1.out.size))
    have hY0 : Y = [] := by simpa using hY
    subst hY0
    have KX := Lib.hid hrun.next_val
    clear hrun hb10 KO hY
    go_wp2_with fail
    refine KX.out.mono ?_
    rintro e w11 ⟨rfl, rfl⟩
    clear KX
    go_wp2_with fail
    go_ret
    exact ⟨rfl, HB10.out⟩
end Wal
end Go.Proofs.YtaiokogbhfliiaaGreatDoor
