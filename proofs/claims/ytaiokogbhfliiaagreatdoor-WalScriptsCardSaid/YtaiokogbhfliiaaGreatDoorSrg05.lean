/- Parts of the proof, one behind the other: stores: two stores that are the same, with some files.; alike: both stores have the same files. -/
import Derived.Test.YtaiokogbhfliiaaGreatDoorSrg04
import Derived.Test.YtaiokogbhfliiaaGreatDoorMrg30
import Derived.Test.YtaiokogbhfliiaaGreatDoorSrg01
import Derived.Test.YtaiokogbhfliiaaGreatDoorMrg32
import Derived.Test.YtaiokogbhfliiaaGreatDoorMrg28
import Derived.BigQuiet
namespace Go.Proofs.YtaiokogbhfliiaaGreatDoor
open Go.RowKit Go.Maps

theorem results_q3 {fn : Func} {t u v : Tmp} (h : fn.results = #[.tmp t, .tmp u, .tmp v]) (tmps : Array Value) (P : Program) (w : World) :
    (results fn tmps).run P w = .ok (.tuple #[tmps.getD t undef, tmps.getD u undef, tmps.getD v undef]) w := by simp [results, h]
namespace Ref
def FileS (b off k : Nat) (v0 v1 : Value) (W : World) : Prop := W.cell? ⟨b, off + k * 2, none⟩ = some v0 ∧ W.cell? ⟨b, off + k * 2 + 1, none⟩ = some v1
/-- What stores gives. -/
def StoresP (w : World) (n : Nat) (e : Ending) (w' : World) : Prop := ∃ bs g s m br gr mr, e = .returned (.tuple #[.pointer (some ⟨g, 0, none⟩), .pointer (some ⟨gr, 0, none⟩), .bool true]) ∧ Both w' w bs g s m br gr s mr ∧ s.kept.length ≤ n ∧ s.files.length ≤ n ∧ Sto.Nm s
set_option maxHeartbeats 12000000 in
set_option maxRecDepth 100000 in
theorem stores_any (fa : Option Addr) (fc : Nat) (fl : List Fl) (w : World) (hf : RdF w fa fl) (hl : fl.length ≤ 20) (hv : ∀ v ∈ fl, v.b.length ≤ 30000 ∧ v.n.length ≤ 1000) :
    Calls Tryz.prog 12 #[.slice fa fl.length fc] w (StoresP w fl.length) := by
  have HF := Lib.hid hf
  have HV := Lib.hid hv
  have KN := Lib.hid (Sto.new_any 1048576 (by decide) (by decide) w)
  clear hf hv
  go_enter Tryz.func12, Tryz.ntmps12
  go_wp2_with fail
  refine KN.out.mono ?_
  rintro e w1 ⟨g, m, rfl, hst, hb1⟩
  have KR := Lib.hid (new_any 1048576 (by decide) (by decide) w1)
  have HST := Lib.hid hst
  have HB1 := Lib.hid hb1
  clear hst hb1 KN
  go_wp2_with fail
  refine KR.out.mono ?_
  rintro e w2 ⟨gr, mr, rfl, hst2, hno, hb2⟩
  obtain ⟨bs, hbs⟩ : ∃ bs, bs = w.heap.size := ⟨_, rfl⟩
  obtain ⟨br, hbr⟩ : ∃ br, br = w1.heap.size := ⟨_, rfl⟩
  have HB : Hid (Both w2 w bs g (Sto.new 1048576) m br gr (Sto.new 1048576) mr) := Lib.hid (by
    rw [hbs, hbr]
    exact ⟨HST.out.below hb2, hst2, fun k hk => absurd hk (hno k), Nat.le_refl _, HB1.out.size, HB1.out.size, HB1.out.trans (hb2.mono HB1.out.size)⟩)
  clear hbs hbr hst2 hno hb2 KR
  go_wp2_with fail
  go_loopw [9] (fun i wr => ∃ (k : Nat) (s : Sto.St) (m : Sto.Mem) (mr : Mem), k ≤ fl.length ∧ i = .int .i64 (k : Int) ∧ s.kept.length ≤ k ∧ s.files.length ≤ k ∧ Hid (Sto.Nm s) ∧ Hid (Both wr w bs g s m br gr s mr)) (fun i _ => fl.length - (intOf i).toNat)
  case atStart => exact ⟨0, Sto.new 1048576, m, mr, by omega, rfl, Nat.le_refl _, Nat.le_refl _, Lib.hid (Sto.Nm.new _), HB⟩
  case round =>
    clear HB
    obtain ⟨k, s, m, mr, hk, rfl, hs1, hs2, HM, HB⟩ := hrel
    by_cases hlt : k < fl.length
    · have hlt' : (k : Int) < (fl.length : Int) := by omega
      obtain ⟨b, off, hA, hb, c0, c1, hok⟩ := HF.out.cell hlt
      have hvb := HV.out fl[k] (List.getElem_mem hlt)
      obtain ⟨v, hv⟩ : ∃ v, v = fl[k] := ⟨_, rfl⟩
      rw [← hv] at c0 c1 hok hvb
      obtain ⟨n, bA, bc, bl⟩ := v
      simp only at c0 c1 hvb
      unfold Sto.str at c0
      obtain ⟨S, hS⟩ : ∃ S : ByteArray, (⟨n.toArray⟩ : ByteArray) = S := ⟨_, rfl⟩
      have HS := Lib.hid hS
      rw [hS] at c0
      have HOK := Lib.hid hok.b
      have hnl : n.length ≤ 1000 := hvb.2
      have hbl : bl.length ≤ 30000 := hvb.1
      have HNL : Hid (n.length ≤ maxLen) := Lib.hid (by unfold maxLen; omega)
      have HC : Hid (∀ V, Below w.heap.size w V → FileS b off k (.string S) (.slice bA bl.length bc) V) := Lib.hid (fun V hbV => ⟨(hbV.cell (p := ⟨b, off + k * 2, none⟩) hb).trans c0, (hbV.cell (p := ⟨b, off + k * 2 + 1, none⟩) hb).trans c1⟩)
      subst hA
      obtain ⟨q0, q1⟩ := HC.out _ HB.out.below
      have K1 := Lib.hid (Sto.create_any n HNL.out wr bs g s m HB.out.real (by omega) (by omega))
      rw [HS.out] at K1
      have hz1 := Sto.create_sz (s := s) n
      obtain ⟨s1, hs⟩ : ∃ s1, s1 = (Sto.create s n).2 := ⟨_, rfl⟩
      have HS1 := Lib.hid hs
      rw [← hs] at hz1
      clear hv hok hvb c0 c1 hS hs
      go_wp2_with fail
      refine K1.out.mono ?_
      rintro e w3 ⟨rfl, m1, hst3, haf3⟩
      rw [← HS1.out] at hst3
      have HB3 := Lib.hid (HB.out.op hst3 (Aft0.of_aft haf3))
      have K2 := Lib.hid (create_any n (by omega) HB3.out.ref (by omega) (by omega))
      unfold Sto.str at K2
      rw [HS.out] at K2
      clear hst3 haf3 K1 q0 q1
      obtain ⟨q0, q1⟩ := HC.out _ HB3.out.below
      go_wp2_with fail
      refine K2.out.mono ?_
      rintro e w4 ⟨rfl, mr4, hst4, haf4⟩
      rw [← HS1.out] at hst4
      have HB4 := Lib.hid (HB3.out.rop hst4 haf4 (by decide))
      clear hst4 haf4 K2 q0 q1
      obtain ⟨q0, q1⟩ := HC.out _ HB4.out.below
      go_wp2_with fail
      obtain ⟨V, hV⟩ : ∃ V, w4.drew = V := ⟨_, rfl⟩
      have hbV : Below w4.heap.size w4 V := by rw [← hV]; exact (Below.refl _ _).drew
      have HBV := Lib.hid (HB4.out.keep hbV)
      have HS0 := HC.out _ HBV.out.below
      refine wp_region_E 12 (FileS b off k (.string S) (.slice bA bl.length bc)) (by kernel_rfl) ?_
      rw [hV]
      clear hV hbV q0 q1
      refine wpAnyE_take (i := 0) (v := ?_) rfl (by kernel_rfl) (by kernel_rfl) (by kernel_rfl) (by kernel_rfl) (fun _ _ _ h => h) (Or.inl ⟨by rfl, ?_⟩) HS0 ?_
      rotate_left
      · (intro wy hSw; obtain ⟨q0, q1⟩ := hSw; go_simp; try with_reducible rfl)
      try simp only [Act.put, List.setIfInBounds_toArray]
      refine wpAnyE_take (i := 1) (v := ?_) rfl (by kernel_rfl) (by kernel_rfl) (by kernel_rfl) (by kernel_rfl) (fun _ _ _ h => h) (Or.inl ⟨by rfl, ?_⟩) HS0 ?_
      rotate_left
      · (intro wy hSw; obtain ⟨q0, q1⟩ := hSw; go_simp; try with_reducible rfl)
      try simp only [Act.put]
      refine wpAnyE_take (i := 2) (v := ?_) rfl (by kernel_rfl) (by kernel_rfl) (by kernel_rfl) (by kernel_rfl) (fun _ _ _ h => h) (Or.inl ⟨by rfl, ?_⟩) HS0 ?_
      rotate_left
      · (intro wy hSw; obtain ⟨q0, q1⟩ := hSw; go_simp; try with_reducible rfl)
      try simp only [Act.put]
      refine wpAnyE_take (i := 3) (v := ?_) rfl (by kernel_rfl) (by kernel_rfl) (by kernel_rfl) (by kernel_rfl) (fun _ _ _ h => h) (Or.inl ⟨by rfl, ?_⟩) HS0 ?_
      rotate_left
      · (intro wy hSw; obtain ⟨q0, q1⟩ := hSw; go_simp; try with_reducible rfl)
      try simp only [Act.put]
      refine wpAnyE_take (i := 4) (v := ?_) rfl (by kernel_rfl) (by kernel_rfl) (by kernel_rfl) (by kernel_rfl) (fun _ _ _ h => h) (Or.inl ⟨by rfl, ?_⟩) HS0 ?_
      rotate_left
      · (intro wy hSw; obtain ⟨q0, q1⟩ := hSw; go_simp; try with_reducible rfl)
      try simp only [Act.put]
      refine wpAnyE_take (i := 5) (v := ?_) rfl (by kernel_rfl) (by kernel_rfl) (by kernel_rfl) (by kernel_rfl) (fun _ _ _ h => h) (Or.inl ⟨by rfl, ?_⟩) HS0 ?_
      rotate_left
      · (intro wy hSw; obtain ⟨q0, q1⟩ := hSw; go_simp; try with_reducible rfl)
      try simp only [Act.put]
      refine wpAnyE_take (i := 6) (v := ?_) rfl (by kernel_rfl) (by kernel_rfl) (by kernel_rfl) (by kernel_rfl) (fun _ _ _ h => h) (Or.inl ⟨by rfl, ?_⟩) HS0 ?_
      rotate_left
      · (intro wy hSw; obtain ⟨q0, q1⟩ := hSw; go_simp; try with_reducible rfl)
      try simp only [Act.put]
      refine wpAnyE_take (i := 7) (v := ?_) rfl (by kernel_rfl) (by kernel_rfl) (by kernel_rfl) (by kernel_rfl) (fun _ _ _ h => h) (Or.inl ⟨by rfl, ?_⟩) HS0 ?_
      rotate_left
      · (intro wy hSw; obtain ⟨q0, q1⟩ := hSw; go_simp; try with_reducible rfl)
      try simp only [Act.put]
      refine wpAnyE_take (i := 8) (v := ?_) rfl (by kernel_rfl) (by kernel_rfl) (by kernel_rfl) (by kernel_rfl) (fun _ _ _ h => h) (Or.inl ⟨by rfl, ?_⟩) HS0 ?_
      rotate_left
      · (intro wy hSw; obtain ⟨q0, q1⟩ := hSw; go_simp; try with_reducible rfl)
      try simp only [Act.put]
      refine wpAnyE_take (i := 9) (v := ?_) rfl (by kernel_rfl) (by kernel_rfl) (by kernel_rfl) (by kernel_rfl) (fun _ _ _ h => h) (Or.inl ⟨by rfl, ?_⟩) HS0 ?_
      rotate_left
      · (intro wy hSw; obtain ⟨q0, q1⟩ := hSw; go_simp; try with_reducible rfl)
      try simp only [Act.put]
      refine wpAnyE_take (i := 10) (v := ?_) rfl (by kernel_rfl) (by kernel_rfl) (by kernel_rfl) (by kernel_rfl) (fun _ _ _ h => h) (Or.inl ⟨by rfl, ?_⟩) HS0 ?_
      rotate_left
      · (intro wy hSw; obtain ⟨q0, q1⟩ := hSw; go_simp; try with_reducible rfl)
      try simp only [Act.put]
      obtain ⟨y1, y2, _⟩ := HBV.out.bytes HOK.out
      have K3 := Lib.hid (Sto.append_any0 n HNL.out bA bc bl HBV.out.real y1 y2 (by omega))
      rw [HS.out] at K3
      have hz2 := Sto.append_sz (s := s1) n bl
      obtain ⟨x, hx⟩ : ∃ x, x = Sto.append s1 n bl := ⟨_, rfl⟩
      have HX := Lib.hid hx
      rw [← hx] at hz2 K3
      obtain ⟨x0, s2⟩ := x
      simp only at hz2
      clear y1 y2 hx
      refine wpAnyE_one (i := 11) (by kernel_rfl) rfl (fun K hK => ?_)
      go_simp
      refine K3.out.mono ?_
      rintro e w5 ⟨rfl, m5, hst5, haf5⟩
      simp only at hst5
      have HB5 := Lib.hid (HBV.out.op hst5 (Aft0.of_aft haf5))
      have HS9 := HC.out _ HB5.out.below
      clear hst5 haf5 K3
      refine hK _ _ HS9 ?_
      clear hK K HS0
      try simp only
      refine wpAnyE_last (by kernel_rfl) (by kernel_rfl) rfl (fun K hK => ?_)
      go_simp
      refine hK _ _ ?_
      clear hK K
      obtain ⟨q0, q1⟩ := HS9
      go_wp2_with fail
      obtain ⟨V, hV⟩ : ∃ V, w5.drew = V := ⟨_, rfl⟩
      have hbV : Below w5.heap.size w5 V := by rw [← hV]; exact (Below.refl _ _).drew
      have HBV := Lib.hid (HB5.out.keep hbV)
      have HS0 := HC.out _ HBV.out.below
      refine wp_region_E 12 (FileS b off k (.string S) (.slice bA bl.length bc)) (by kernel_rfl) ?_
      rw [hV]
      clear hV hbV q0 q1
      refine wpAnyE_take (i := 0) (v := ?_) rfl (by kernel_rfl) (by kernel_rfl) (by kernel_rfl) (by kernel_rfl) (fun _ _ _ h => h) (Or.inl ⟨by rfl, ?_⟩) HS0 ?_
      rotate_left
      · (intro wy hSw; obtain ⟨q0, q1⟩ := hSw; go_simp; try with_reducible rfl)
      try simp only [Act.put, List.setIfInBounds_toArray]
      refine wpAnyE_take (i := 1) (v := ?_) rfl (by kernel_rfl) (by kernel_rfl) (by kernel_rfl) (by kernel_rfl) (fun _ _ _ h => h) (Or.inl ⟨by rfl, ?_⟩) HS0 ?_
      rotate_left
      · (intro wy hSw; obtain ⟨q0, q1⟩ := hSw; go_simp; try with_reducible rfl)
      try simp only [Act.put]
      refine wpAnyE_take (i := 2) (v := ?_) rfl (by kernel_rfl) (by kernel_rfl) (by kernel_rfl) (by kernel_rfl) (fun _ _ _ h => h) (Or.inl ⟨by rfl, ?_⟩) HS0 ?_
      rotate_left
      · (intro wy hSw; obtain ⟨q0, q1⟩ := hSw; go_simp; try with_reducible rfl)
      try simp only [Act.put]
      refine wpAnyE_take (i := 3) (v := ?_) rfl (by kernel_rfl) (by kernel_rfl) (by kernel_rfl) (by kernel_rfl) (fun _ _ _ h => h) (Or.inl ⟨by rfl, ?_⟩) HS0 ?_
      rotate_left
      · (intro wy hSw; obtain ⟨q0, q1⟩ := hSw; go_simp; try with_reducible rfl)
      try simp only [Act.put]
      refine wpAnyE_take (i := 4) (v := ?_) rfl (by kernel_rfl) (by kernel_rfl) (by kernel_rfl) (by kernel_rfl) (fun _ _ _ h => h) (Or.inl ⟨by rfl, ?_⟩) HS0 ?_
      rotate_left
      · (intro wy hSw; obtain ⟨q0, q1⟩ := hSw; go_simp; try with_reducible rfl)
      try simp only [Act.put]
      refine wpAnyE_take (i := 5) (v := ?_) rfl (by kernel_rfl) (by kernel_rfl) (by kernel_rfl) (by kernel_rfl) (fun _ _ _ h => h) (Or.inl ⟨by rfl, ?_⟩) HS0 ?_
      rotate_left
      · (intro wy hSw; obtain ⟨q0, q1⟩ := hSw; go_simp; try with_reducible rfl)
      try simp only [Act.put]
      refine wpAnyE_take (i := 6) (v := ?_) rfl (by kernel_rfl) (by kernel_rfl) (by kernel_rfl) (by kernel_rfl) (fun _ _ _ h => h) (Or.inl ⟨by rfl, ?_⟩) HS0 ?_
      rotate_left
      · (intro wy hSw; obtain ⟨q0, q1⟩ := hSw; go_simp; try with_reducible rfl)
      try simp only [Act.put]
      refine wpAnyE_take (i := 7) (v := ?_) rfl (by kernel_rfl) (by kernel_rfl) (by kernel_rfl) (by kernel_rfl) (fun _ _ _ h => h) (Or.inl ⟨by rfl, ?_⟩) HS0 ?_
      rotate_left
      · (intro wy hSw; obtain ⟨q0, q1⟩ := hSw; go_simp; try with_reducible rfl)
      try simp only [Act.put]
      refine wpAnyE_take (i := 8) (v := ?_) rfl (by kernel_rfl) (by kernel_rfl) (by kernel_rfl) (by kernel_rfl) (fun _ _ _ h => h) (Or.inl ⟨by rfl, ?_⟩) HS0 ?_
      rotate_left
      · (intro wy hSw; obtain ⟨q0, q1⟩ := hSw; go_simp; try with_reducible rfl)
      try simp only [Act.put]
      refine wpAnyE_take (i := 9) (v := ?_) rfl (by kernel_rfl) (by kernel_rfl) (by kernel_rfl) (by kernel_rfl) (fun _ _ _ h => h) (Or.inl ⟨by rfl, ?_⟩) HS0 ?_
      rotate_left
      · (intro wy hSw; obtain ⟨q0, q1⟩ := hSw; go_simp; try with_reducible rfl)
      try simp only [Act.put]
      refine wpAnyE_take (i := 10) (v := ?_) rfl (by kernel_rfl) (by kernel_rfl) (by kernel_rfl) (by kernel_rfl) (fun _ _ _ h => h) (Or.inl ⟨by rfl, ?_⟩) HS0 ?_
      rotate_left
      · (intro wy hSw; obtain ⟨q0, q1⟩ := hSw; go_simp; try with_reducible rfl)
      try simp only [Act.put]
      obtain ⟨_, _, y3⟩ := HBV.out.bytes HOK.out
      have K4 := Lib.hid (append_any n (by omega) bA bc bl y3 (by omega) HBV.out.ref (by omega))
      unfold Sto.str at K4
      rw [HS.out, ← HX.out] at K4
      clear y3
      refine wpAnyE_one (i := 11) (by kernel_rfl) rfl (fun K hK => ?_)
      go_simp
      refine K4.out.mono ?_
      rintro e w6 ⟨rfl, mr6, hst6, haf6⟩
      simp only at hst6
      have HB6 := Lib.hid (HBV.out.rop hst6 haf6 (by decide))
      have HS9 := HC.out _ HB6.out.below
      clear hst6 haf6 K4
      refine hK _ _ HS9 ?_
      clear hK K HS0
      try simp only
      refine wpAnyE_last (by kernel_rfl) (by kernel_rfl) rfl (fun K hK => ?_)
      go_simp
      refine hK _ _ ?_
      clear hK K
      obtain ⟨q0, q1⟩ := HS9
      have K5 := Lib.hid (Sto.sync_any n HNL.out w6 bs g s2 m5 HB6.out.real)
      rw [HS.out] at K5
      have hz3 := Sto.sync_sz (s := s2) n
      obtain ⟨s3, hs⟩ : ∃ s3, s3 = (Sto.sync s2 n).2 := ⟨_, rfl⟩
      have HS3 := Lib.hid hs
      rw [← hs] at hz3
      clear hs
      go_wp2_with fail
      refine K5.out.mono ?_
      rintro e w7 ⟨rfl, m7, hst7, haf7⟩
      rw [← HS3.out] at hst7
      have HB7 := Lib.hid (HB6.out.op hst7 (Aft0.of_aft haf7))
      have K6 := Lib.hid (sync_any n (by omega) HB7.out.ref (by omega))
      unfold Sto.str at K6
      rw [HS.out] at K6
      clear hst7 haf7 K5 q0 q1
      obtain ⟨q0, q1⟩ := HC.out _ HB7.out.below
      go_wp2_with fail
      refine K6.out.mono ?_
      rintro e w8 ⟨rfl, mr8, hst8, haf8⟩
      rw [← HS3.out] at hst8
      have HB8 := Lib.hid (HB7.out.rop hst8 haf8 (by decide))
      clear hst8 haf8 K6 q0 q1
      go_wp2_with fail
      have HM3 : Hid (Sto.Nm s3) := Lib.hid (by
        have e := congrArg Prod.snd HX.out
        simp only at e
        rw [HS3.out, e, HS1.out]
        exact ((HM.out.create hnl).append bl).sync)
      exact ⟨⟨k + 1, s3, m7, mr8, hlt, by simp, by omega, by omega, HM3, HB8⟩, by simp only [intOf]; omega⟩
    · have hlt' : ¬ (k : Int) < (fl.length : Int) := by omega
      have K1 := Lib.hid (Sto.syncDir_any HB.out.real)
      have hz1 := Sto.syncDir_sz (s := s)
      obtain ⟨s1, hs⟩ : ∃ s1, s1 = (Sto.syncDir s).2 := ⟨_, rfl⟩
      have HS1 := Lib.hid hs
      rw [← hs] at hz1
      clear hs
      go_wp2_with fail
      refine K1.out.mono ?_
      rintro e w3 ⟨rfl, m1, hst3, haf3⟩
      rw [← HS1.out] at hst3
      have HB3 := Lib.hid (HB.out.op hst3 (Aft0.of_aft haf3))
      have K2 := Lib.hid (syncDir_any HB3.out.ref (by omega))
      clear hst3 haf3 K1
      go_wp2_with fail
      refine K2.out.mono ?_
      rintro e w4 ⟨rfl, mr4, hst4, haf4⟩
      rw [← HS1.out] at hst4
      have HB4 := Lib.hid (HB3.out.rop hst4 haf4 (by decide))
      clear hst4 haf4 K2
      go_wp2_with fail
      refine bodyPost_ret (results_q3 rfl _ _ _) rfl ?_
      exact ⟨bs, g, s1, m1, br, gr, mr4, rfl, HB4.out, by omega, by omega, by rw [HS1.out]; exact HM.out.syncDir⟩
end Ref
end Go.Proofs.YtaiokogbhfliiaaGreatDoor

namespace Go.Proofs.YtaiokogbhfliiaaGreatDoor
open Go.RowKit Go.Maps

namespace Ref
set_option maxHeartbeats 2000000 in
set_option maxRecDepth 100000 in
theorem alike_any {w W : World} {bs g br gr : Nat} {s : Sto.St} {m : Sto.Mem} {mr : Mem} (h : Both w W bs g s m br gr s mr) (hf : s.files.length ≤ 1000000) (hm : Sto.Nm s) :
    Calls Tryz.prog 18 #[.pointer (some ⟨g, 0, none⟩), .pointer (some ⟨gr, 0, none⟩)] w fun e w' => e = .returned (.bool true) ∧ Below w.heap.size w w' := by
  have H := Lib.hid h
  have K1 := Lib.hid (names_any h.ref hf)
  have HNM := Lib.hid hm.names
  clear h hm
  go_enter Tryz.func18, Tryz.ntmps18
  have hnl : (Sto.names s).length ≤ 1000000 := by unfold Sto.names; rw [List.length_map]; have := H.out.real.r.ok.gnow.len; omega
  obtain ⟨N, hN⟩ : ∃ N, N = Sto.names s := ⟨_, rfl⟩
  have HNN := Lib.hid hN
  rw [← hN] at K1 hnl
  clear hN
  go_wp2_with fail
  refine K1.out.mono ?_
  rintro e w1 ⟨A, c, rfl, ho1, hb1⟩
  have HO1 := Lib.hid ho1
  have HB1 := Lib.hid hb1
  have K2 := Lib.hid (Sto.names_any (H.out.keep hb1).real hf)
  rw [← HNN.out] at K2
  clear ho1 hb1 K1
  go_wp2_with fail
  refine K2.out.mono ?_
  rintro e w2 ⟨A2, c2, rfl, ho2, hb2⟩
  have HO2 := Lib.hid ho2
  have HB2 := Lib.hid (HB1.out.trans (hb2.mono HB1.out.size))
  have HOR : Hid (RdS Sto.S1 1 w2 w2.heap.size A N) := Lib.hid ((HO1.out.rd.below hb2 (Nat.le_refl _)).more hb2.size)
  have K3 := Lib.hid (same6_any A2 A c2 c N N w2 ho2.rd HOR.out (by omega))
  rw [decide_eq_true rfl] at K3
  clear ho2 hb2 K2
  go_wp2_with fail
  refine K3.out.mono ?_
  rintro e w3 ⟨rfl, hb3⟩
  have HB3 := Lib.hid (HB2.out.trans (hb3.mono HB2.out.size))
  have HR3 : Hid (RdS Sto.S1 1 w3 w3.heap.size A N) := Lib.hid ((HOR.out.below hb3 (Nat.le_refl _)).more hb3.size)
  clear hb3 K3
  go_wp2_with fail
  have HBT := Lib.hid (H.out.keep HB3.out)
  obtain ⟨o, ho⟩ : ∃ o, o = s.off := ⟨_, rfl⟩
  have KO : Hid (∀ X, Sto.StAt X bs g s m → Calls Tryz.prog 44 #[.pointer (some ⟨g, 0, none⟩)] X fun e w' => e = .returned (.bool o) ∧ w' = X) := Lib.hid (fun X hX => (Sto.off_any hX).mono fun _ _ ⟨h1, h2⟩ => ⟨by rw [h1, ho], h2⟩)
  obtain ⟨_, _, _, _, _, _, c6⟩ := HBT.out.ref.cells
  rw [← ho] at c6
  have HR0 := Lib.hid HBT.out.real
  clear ho
  go_quiet ((go_at_call 44; exact Calls.quiet_of_same (KO.out _ (by first | exact HR0.out | exact HR0.out.below (Wal.below_drewN _ _)))))
  refine Sto.drewN_of (fun V hbV hVh => ?_)
  have HB0 := Lib.hid (HBT.out.keep hbV)
  have HBW := Lib.hid (HB3.out.trans (hbV.mono HB3.out.size))
  have HNV : Hid (RdS Sto.S1 1 V V.heap.size A N) := Lib.hid ((HR3.out.below hbV (Nat.le_refl _)).more hbV.size)
  clear hbV hVh c6
  go_wp2_with fail
  go_loopw [7] (fun i wr => ∃ k : Nat, k ≤ N.length ∧ i = .int .i64 (k : Int) ∧ Hid (Below V.heap.size V wr)) (fun i _ => N.length - (intOf i).toNat)
  case atStart => exact ⟨0, by omega, rfl, Lib.hid (Below.refl _ _)⟩
  case round =>
    obtain ⟨k, hk, rfl, HBR⟩ := hrel
    by_cases hlt : k < N.length
    · have hlt' : (k : Int) < (N.length : Int) := by omega
      have hk0 : (0 : Int) ≤ (k : Int) := by omega
      have HBo := Lib.hid (HB0.out.keep HBR.out)
      obtain ⟨b1, o1, hA, hb1, q1⟩ := RdS.row (f := Sto.S1) (n := 1) (fun _ => rfl) (by omega) ((HNV.out.below HBR.out (Nat.le_refl _)).more HBR.out.size) (by omega)
      have r1 := q1 k hlt 0 _ rfl
      rw [Nat.add_zero, Nat.mul_one] at r1
      have hnl2 := HNM.out N[k] (by rw [← HNN.out]; exact List.getElem_mem hlt)
      obtain ⟨n, hn⟩ : ∃ n, n = N[k] := ⟨_, rfl⟩
      rw [← hn] at r1 hnl2
      unfold Sto.str at r1
      obtain ⟨S, hS⟩ : ∃ S : ByteArray, (⟨n.toArray⟩ : ByteArray) = S := ⟨_, rfl⟩
      rw [hS] at r1
      have HS := Lib.hid hS
      have K4 := Lib.hid (Sto.read_any n (by unfold maxLen; omega) HBo.out.real)
      rw [hS] at K4
      obtain ⟨z, hz⟩ : ∃ z, z = Sto.read s n := ⟨_, rfl⟩
      have HZ := Lib.hid hz
      rw [← hz] at K4
      obtain ⟨z0, zb⟩ := z
      have HC : Hid (∀ X, Below wr.heap.size wr X → X.cell? ⟨b1, o1 + k, none⟩ = some (.string S)) := Lib.hid (fun X hX => (hX.cell (p := ⟨b1, o1 + k, none⟩) hb1).trans r1)
      subst hA
      clear hn hS hz q1
      go_wp2_with fail
      refine K4.out.mono ?_
      rintro e w4 ⟨hb4, A4, c4, rfl, ho4⟩
      simp only at ho4
      have HB4 := Lib.hid (HBo.out.keep hb4)
      have HBB := Lib.hid hb4
      have HO4 := Lib.hid ho4
      have K5 := Lib.hid (read_any n (by omega) HB4.out.ref hf)
      unfold Sto.str at K5
      rw [HS.out, ← HZ.out] at K5
      have r4 := HC.out _ hb4
      clear hb4 ho4 K4 r1
      go_wp2_with fail
      refine K5.out.mono ?_
      rintro e w5 ⟨hb5, A5, c5, rfl, ho5⟩
      simp only at ho5
      have s1 := strB_of (c := c4) (HO4.out.rd.below hb5 (Nat.le_refl _))
      have s2 := strB_of (c := c5) ho5.rd
      have HBR5 := Lib.hid (HBR.out.trans ((HBB.out.trans (hb5.mono HBB.out.size)).mono HBR.out.size))
      unfold StrB at s1 s2
      obtain ⟨S2, hS2⟩ : ∃ S : ByteArray, (⟨zb.toArray⟩ : ByteArray) = S := ⟨_, rfl⟩
      rw [hS2] at s1 s2
      clear hb5 ho5 K5 hS2 r4
      go_wp2_with fail
      exact ⟨⟨k + 1, hlt, by simp, HBR5⟩, by simp only [intOf]; omega⟩
    · have hlt' : ¬ (k : Int) < (N.length : Int) := by omega
      go_wp2_with fail
      go_ret
      exact ⟨rfl, HBW.out.trans (HBR.out.mono HBW.out.size)⟩
end Ref
end Go.Proofs.YtaiokogbhfliiaaGreatDoor
