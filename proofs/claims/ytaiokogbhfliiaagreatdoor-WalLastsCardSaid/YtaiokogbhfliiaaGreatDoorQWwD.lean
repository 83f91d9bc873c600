/- The reference's Same, at rows of bytes. -/
import Derived.Test.YtaiokogbhfliiaaGreatDoorMrg39
import Derived.Test.YtaiokogbhfliiaaGreatDoorMrg16
import Derived.Test.YtaiokogbhfliiaaGreatDoorMrg01
namespace Go.Proofs.YtaiokogbhfliiaaGreatDoor
open Go.RowKit Go.Maps

/-- A row of bytes that can be read. -/
structure RdY (w : World) (A : Option Addr) (Y : List Yv) : Prop where
  row : RdS Yv.cells 1 w w.heap.size A Y
  ok : ∀ v ∈ Y, RdB w w.heap.size v.A v.b
theorem RdY.below {w w' : World} {A : Option Addr} {Y : List Yv} (h : RdY w A Y) (hb : Below w.heap.size w w') : RdY w' A Y := ⟨(h.row.below hb (Nat.le_refl _)).more hb.size, fun v hv => ((h.ok v hv).below hb (Nat.le_refl _)).more hb.size⟩
theorem Ys.rd {w : World} {base g c : Nat} {m : Sto.Mem} {A : Option Addr} {Y : List Yv} (h : Ys w base g m A c Y) : RdY w A Y := ⟨h.row.rd, fun v hv => (h.ok v hv).1.rd⟩
theorem RdY.cell {w : World} {A : Option Addr} {Y : List Yv} (h : RdY w A Y) {k : Nat} (hk : k < Y.length) : ∃ b off, A = some ⟨b, off, none⟩ ∧ b < w.heap.size ∧ w.cell? ⟨b, off + k, none⟩ = some (.slice (Y[k]).A (Y[k]).b.length (Y[k]).c) ∧ RdB w w.heap.size (Y[k]).A (Y[k]).b := by
  obtain ⟨b, off, hA, hb, hc⟩ := RdS.row (f := Yv.cells) (n := 1) (fun _ => rfl) (by omega) h.row (by omega)
  have r0 := hc k hk 0 _ rfl
  rw [Nat.add_zero, Nat.mul_one] at r0
  exact ⟨b, off, hA, hb, r0, h.ok _ (List.getElem_mem hk)⟩
set_option maxHeartbeats 1000000 in
set_option maxRecDepth 100000 in
theorem same7_any (A B : Option Addr) (c d : Nat) (X Y : List Yv) (w : World) (ha : RdY w A X) (hb : RdY w B Y) (hl : X.length ≤ 9000000000000000) :
    Calls Tryz.prog 17 #[.slice A X.length c, .slice B Y.length d] w fun e w' => e = .returned (.bool (decide (X.map Yv.b = Y.map Yv.b))) ∧ Below w.heap.size w w' := by
  have HA := Lib.hid ha
  have HB := Lib.hid hb
  clear ha hb
  go_enter Tryz.func17, Tryz.ntmps17
  by_cases hn : X.length = Y.length
  · have e1 : ((X.length : Int) == (Y.length : Int)) = true := by rw [hn]; simp
    have e2 : ((X.length : Int) != (Y.length : Int)) = false := by rw [hn]; simp
    have HN := Lib.hid hn
    clear hn
    go_wp2_with fail
    go_loopw [5] (fun i wr => ∃ k : Nat, k ≤ X.length ∧ i = .int .i64 (k : Int) ∧ Hid ((X.map Yv.b).take k = (Y.map Yv.b).take k) ∧ Hid (Below w.heap.size w wr)) (fun i _ => X.length - (intOf i).toNat)
    case atStart => exact ⟨0, by omega, rfl, Lib.hid rfl, Lib.hid (Below.refl _ _)⟩
    case round =>
      obtain ⟨k, hk, rfl, HT, HBR⟩ := hrel
      by_cases hlt : k < X.length
      · have hlt2 : k < Y.length := by have := HN.out; omega
        obtain ⟨b1, o1, hA, hb1, r1, q1⟩ := (HA.out.below HBR.out).cell hlt
        obtain ⟨b2, o2, hB, hb2, r2, q2⟩ := (HB.out.below HBR.out).cell hlt2
        have HX : Hid ((X.map Yv.b).take (k + 1) = (X.map Yv.b).take k ++ [(X[k]).b]) := Lib.hid (by rw [List.take_succ_eq_append_getElem (by simpa using hlt), List.getElem_map])
        have HY : Hid ((Y.map Yv.b).take (k + 1) = (Y.map Yv.b).take k ++ [(Y[k]).b]) := Lib.hid (by rw [List.take_succ_eq_append_getElem (by simpa using hlt2), List.getElem_map])
        obtain ⟨x, hx⟩ : ∃ x, x = X[k] := ⟨_, rfl⟩
        obtain ⟨y, hy⟩ : ∃ y, y = Y[k] := ⟨_, rfl⟩
        rw [← hx] at r1 q1 HX
        rw [← hy] at r2 q2 HY
        obtain ⟨xA, xc, xb⟩ := x
        obtain ⟨yA, yc, yb⟩ := y
        simp only at r1 q1 HX r2 q2 HY
        have s1 : ∀ a, (convert 23 9 (.slice xA xb.length xc)).run Tryz.prog (wr.drewN a) = .ok (.string ⟨xb.toArray⟩) (wr.drewN a) := fun a => strB_of (q1.below (Wal.below_drewN wr a) (Nat.le_refl _))
        have s2 : ∀ a, (convert 23 9 (.slice yA yb.length yc)).run Tryz.prog (wr.drewN a) = .ok (.string ⟨yb.toArray⟩) (wr.drewN a) := fun a => strB_of (q2.below (Wal.below_drewN wr a) (Nat.le_refl _))
        obtain ⟨S1, hS1⟩ : ∃ S : ByteArray, ⟨xb.toArray⟩ = S := ⟨_, rfl⟩
        obtain ⟨S2, hS2⟩ : ∃ S : ByteArray, ⟨yb.toArray⟩ = S := ⟨_, rfl⟩
        have hlt' : (k : Int) < (X.length : Int) := by omega
        have hlt2' : (k : Int) < (Y.length : Int) := by omega
        have hk0 : (0 : Int) ≤ (k : Int) := by omega
        subst hA hB
        by_cases he : xb = yb
        · subst he
          have e12 : S1 = S2 := hS1.symm.trans hS2
          subst e12
          rw [hS1] at s1 s2
          clear hx hy hS1 hS2 q1 q2
          go_wp2_with fail
          go_quiet (fail)
          refine Sto.drewN_of (fun V hbV hVh => ?_)
          have HBV := Lib.hid (HBR.out.trans (hbV.mono HBR.out.size))
          clear hbV hVh
          go_wp2_with fail
          exact ⟨⟨k + 1, hlt, by simp, Lib.hid (by rw [HX.out, HY.out, HT.out]), HBV⟩, by simp only [intOf]; omega⟩
        · have hne := str_ne hS1 hS2 he
          have hne2 : (S1.toList != S2.toList) = true := by rw [bne, hne]; rfl
          rw [hS1] at s1
          rw [hS2] at s2
          have HE : Hid (decide (X.map Yv.b = Y.map Yv.b) = false) := Lib.hid (by
            rw [decide_eq_false_iff_not]
            intro h
            have h1 := HX.out
            rw [h, HY.out] at h1
            have h2 := List.append_cancel_left h1
            injection h2 with h2
            exact he h2.symm)
          clear hx hy hS1 hS2 q1 q2 he
          go_wp2_with fail
          go_quiet (fail)
          refine Sto.drewN_of (fun V hbV hVh => ?_)
          have HBV := Lib.hid (HBR.out.trans (hbV.mono HBR.out.size))
          clear hbV hVh
          go_wp2_with fail
          go_ret
          exact ⟨by rw [HE.out]; rfl, HBV.out⟩
      · have hke : k = X.length := by omega
        have HE : Hid (decide (X.map Yv.b = Y.map Yv.b) = true) := Lib.hid (by
          rw [decide_eq_true_iff]
          have h1 := HT.out
          rw [hke, List.take_of_length_le (by simp), List.take_of_length_le (by simp [HN.out])] at h1
          exact h1)
        clear hke
        go_wp2_with fail
        go_ret
        exact ⟨by rw [HE.out]; rfl, HBR.out⟩
  · have e1 : ((X.length : Int) == (Y.length : Int)) = false := by simp; omega
    have e2 : ((X.length : Int) != (Y.length : Int)) = true := by simp; omega
    have HE : Hid (decide (X.map Yv.b = Y.map Yv.b) = false) := Lib.hid (by
      rw [decide_eq_false_iff_not]
      intro h
      have := congrArg List.length h
      rw [List.length_map, List.length_map] at this
      exact hn this)
    go_wp2_with fail
    go_ret
    exact ⟨by rw [HE.out]; rfl, Below.refl _ _⟩
end Go.Proofs.YtaiokogbhfliiaaGreatDoor
