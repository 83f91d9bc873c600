/- Parts of the proof, one behind the other: The contract of the reference's Take.; Frames in a row, in memory; the plain law of Scan. -/
import Derived.Test.YtaiokogbhfliiaaGreatDoorMrg16
import Derived.Test.YtaiokogbhfliiaaGreatDoorMrg17
import Derived.Test.YtaiokogbhfliiaaGreatDoorMrg01
import Derived.Test.YtaiokogbhfliiaaGreatDoorMrg05
import Derived.Deep.RegionHeld
import Derived.Test.YtaiokogbhfliiaaGreatDoorMrg03
namespace Go.Proofs.YtaiokogbhfliiaaGreatDoor
open Go.RowKit

theorem rframe_size : (Tryz.prog.info? 164).map (fun x => x.size) = some 2 := by kernel_rfl
theorem rtakeTextS_cut (A : Option Addr) (n c : Nat) (b : List UInt8) (w : World) (hn : n = b.length) (h : RdB w w.heap.size A b) (hl : b.length ≤ 140737488355328) (hc : b.length ≤ c) (hcc : c ≤ 9223372036854775807) :
    Calls Tryz.prog 163 #[.slice A n c] w (TakenS w A (cutT (Cod.take b))) := by subst hn; exact rtakeTextS_any A c b w h hl hc hcc
set_option maxHeartbeats 2000000 in
set_option maxRecDepth 100000 in
theorem rftake_any (A : Option Addr) (c : Nat) (b : List UInt8) (w : World) (h : RdB w w.heap.size A b) (hl : b.length ≤ 140737488355328) (hc : b.length ≤ c) (hcc : c ≤ 9223372036854775807) :
    Calls Tryz.prog 135 #[.slice A b.length c] w (TakenR w A (Frm.take b)) := by
  have HAL : Hid (∀ o, Below w.heap.size w (w.alloc o)) := Lib.hid (fun o => (Below.refl _ _).alloc (Nat.le_refl _) o)
  rcases b with _ | ⟨k, b⟩
  · go_enter Tryz.func135, Tryz.ntmps135
    go_wp2_with fail
    refine bodyPost_ret (results_c3 rfl _ _ w.heap.size 164 #[.int .u8 0, .slice none 0 0] _ _ rfl (heap_alloc_new _ _) Tryz.underlying164 rfl rframe_size) rfl ?_
    exact takenR_no rfl (HAL.out _)
  · obtain ⟨g, off, rfl, hab, hcell⟩ := h.at_ (k := 0) (by simp)
    have hcut := h.cut (k := 1) (c := c) (by simp) hc
    simp only [List.drop_succ_cons, List.drop_zero] at hcut
    have HH := Lib.hid h
    obtain ⟨n, hn⟩ : ∃ n, n = b.length := ⟨_, rfl⟩
    have hcell0 : w.cell? ⟨g, off, none⟩ = some (.int .u8 (k.toNat : Int)) := by simpa using hcell
    have hln : (k :: b).length = n + 1 := by rw [hn]; rfl
    rw [hln] at hl hc ⊢
    have h1c : (1 : Int) ≤ (c : Int) := by omega
    obtain ⟨kn, hkn⟩ : ∃ kn, kn = k.toNat := ⟨_, rfl⟩
    rw [← hkn] at hcell0
    have HC0 := Lib.hid hcell0
    have HKN := Lib.hid hkn
    by_cases hc1 : c = 1
    · subst hc1
      have hn0 : n = 0 := by omega
      subst hn0
      have hb0 : b = [] := List.eq_nil_of_length_eq_zero hn.symm
      subst hb0
      have hx : cutT (Cod.take []) = none := rfl
      have HE := Lib.hid (take_cons_none (k := k) hx)
      have KT : Hid (∀ A w, Calls Tryz.prog 163 #[.slice A 0 0] w (TakenS w A none)) := Lib.hid (fun A w => by
        have := rtakeTextS_cut A 0 0 [] w rfl RdB.nil (by simp) (by simp) (by omega)
        rwa [hx] at this)
      clear hcell hcut h hn hln hkn hx
      go_enter Tryz.func135, Tryz.ntmps135
      go_wp2_with fail
      refine (KT.out _ _).mono ?_
      intro e w1 hh
      obtain ⟨hb1, rfl⟩ := takenS_none hh
      have hcw : w1.heap[w.heap.size]? = some (.cells #[.int .u8 0, .slice none 0 0] 164) := (hb1.block _ (by simp)).trans (heap_alloc_new _ _)
      have HCW := Lib.hid hcw
      have HB1 : Hid (Below w.heap.size w w1) := Lib.hid ((HAL.out _).trans (hb1.mono (by simp)))
      have q0 := cell_of_row w1 w.heap.size 0 _ _ (0, 0) hcw
      have q1 := cell_of_row w1 w.heap.size 1 _ _ (0, 0) hcw
      have f0 := frozen_of_row w1 w.heap.size 0 _ _ hcw
      have f1 := frozen_of_row w1 w.heap.size 1 _ _ hcw
      simp only [List.getElem?_toArray, List.getElem?_cons_zero, List.getElem?_cons_succ] at q0 q1
      clear hh hcw hb1
      go_wp2_with fail
      refine bodyPost_ret (results_c3 rfl _ _ w.heap.size 164 #[.int .u8 0, .slice none 0 0] _ _ rfl (heap_set2 HCW.out) Tryz.underlying164 rfl rframe_size) rfl ?_
      exact takenR_no HE.out ((HB1.out.setCell (by simp) _).setCell (by simp) _)
    · rw [if_neg hc1] at hcut
      have HCUT := Lib.hid hcut
      have HN := Lib.hid hn
      clear hcell hcut h hn hln hcell0 hkn
      go_enter Tryz.func135, Tryz.ntmps135
      go_wp2_with fail
      refine (rtakeTextS_cut _ _ _ b _ HN.out ((HCUT.out.alloc (Nat.le_refl _) _).more (by simp)) (by have := HN.out; omega) (by have := HN.out; omega) (by omega)).mono ?_
      cases hx : cutT (Cod.take b) with
      | none =>
        intro e w1 hh
        obtain ⟨hb1, rfl⟩ := takenS_none hh
        have HE := Lib.hid (take_cons_none (k := k) hx)
        have hcw : w1.heap[w.heap.size]? = some (.cells #[.int .u8 0, .slice none 0 0] 164) := (hb1.block _ (by simp)).trans (heap_alloc_new _ _)
        have HCW := Lib.hid hcw
        have HB1 : Hid (Below w.heap.size w w1) := Lib.hid ((HAL.out _).trans (hb1.mono (by simp)))
        have q0 := cell_of_row w1 w.heap.size 0 _ _ (0, 0) hcw
        have q1 := cell_of_row w1 w.heap.size 1 _ _ (0, 0) hcw
        have f0 := frozen_of_row w1 w.heap.size 0 _ _ hcw
        have f1 := frozen_of_row w1 w.heap.size 1 _ _ hcw
        simp only [List.getElem?_toArray, List.getElem?_cons_zero, List.getElem?_cons_succ] at q0 q1
        clear hx hh hcw hb1
        go_wp2_with fail
        refine bodyPost_ret (results_c3 rfl _ _ w.heap.size 164 #[.int .u8 0, .slice none 0 0] _ _ rfl (heap_set2 HCW.out) Tryz.underlying164 rfl rframe_size) rfl ?_
        exact takenR_no HE.out ((HB1.out.setCell (by simp) _).setCell (by simp) _)
      | some v =>
        obtain ⟨t, r⟩ := v
        intro e w1 hh
        obtain ⟨hb1, A1, c1, B1, d1, rfl, ho1, hr1, hd1, hdd1, hf1⟩ := takenS_some hh
        have hcw : w1.heap[w.heap.size]? = some (.cells #[.int .u8 0, .slice none 0 0] 164) := (hb1.block _ (by simp)).trans (heap_alloc_new _ _)
        have HCW := Lib.hid hcw
        have HB1 : Hid (Below w.heap.size w w1) := Lib.hid ((HAL.out _).trans (hb1.mono (by simp)))
        have HO1 : Hid (Own w1 (w.heap.size + 1) 5 A1 c1 t) := Lib.hid (by simpa using ho1)
        have HFG : Hid (∀ x, blk B1 = some x → x ≠ w.heap.size) := Lib.hid (fun x hx => by
          rcases hf1 x hx with h1 | ⟨h1, _⟩
          · have : g = x := by simpa [blk] using h1
            omega
          · have : w.heap.size + 1 ≤ x := (by simpa using h1); omega)
        have HR1 := Lib.hid hr1
        have q0 := cell_of_row w1 w.heap.size 0 _ _ (0, 0) hcw
        have q1 := cell_of_row w1 w.heap.size 1 _ _ (0, 0) hcw
        have f0 := frozen_of_row w1 w.heap.size 0 _ _ hcw
        have f1 := frozen_of_row w1 w.heap.size 1 _ _ hcw
        simp only [List.getElem?_toArray, List.getElem?_cons_zero, List.getElem?_cons_succ] at q0 q1
        have htx := Frm.cutT_text hx
        have HX := Lib.hid hx
        have HTX := Lib.hid htx
        clear hx hh hcw hb1 hf1 hr1 ho1 htx
        by_cases hr : (r.length : Int) < 4
        · have HE := Lib.hid (take_cons_no (k := k) HX.out (fun h => by have := h.2.1; omega))
          go_wp2_with fail
          refine bodyPost_ret (results_c3 rfl _ _ w.heap.size 164 #[.int .u8 0, .slice none 0 0] _ _ rfl (heap_set2 HCW.out) Tryz.underlying164 rfl rframe_size) rfl ?_
          exact takenR_no HE.out ((HB1.out.setCell (by simp) _).setCell (by simp) _)
        by_cases ht : (65536 : Int) < (t.length : Int)
        · have HE := Lib.hid (take_cons_no (k := k) HX.out (fun h => by have := h.1; omega))
          go_wp2_with fail
          refine bodyPost_ret (results_c3 rfl _ _ w.heap.size 164 #[.int .u8 0, .slice none 0 0] _ _ rfl (heap_set2 HCW.out) Tryz.underlying164 rfl rframe_size) rfl ?_
          exact takenR_no HE.out ((HB1.out.setCell (by simp) _).setCell (by simp) _)
        have hz1 : w.heap.size < w1.heap.size := by have := HCW.out; rw [Array.getElem?_eq_some_iff] at this; exact this.1
        have HZ1 := Lib.hid hz1
        have c0 := (HB1.out.cell (p := ⟨g, off, none⟩) hab).trans HC0.out
        have KP := Lib.hid (rfput_yes k A1 c1 t w1 (HO1.out.rd) (by omega))
        rw [← HKN.out] at KP
        obtain ⟨F, hF⟩ : ∃ F, F = Frm.put k t := ⟨_, rfl⟩
        rw [← hF] at KP
        have htk : (k :: b).take (n + 1 - r.length + 4) = Frm.head k t ++ r.take 4 ∧ (k :: b).drop (n + 1 - r.length + 4) = r.drop 4 ∧ r.length ≤ n := by
          have h1 := HTX.out
          have h2 := HN.out
          have h3 : n = (Cod.text t).length + r.length := by rw [h2, h1, List.length_append]
          have h4 : n + 1 - r.length + 4 = (Frm.head k t).length + 4 := by unfold Frm.head; rw [List.length_cons]; omega
          have h5 : k :: b = Frm.head k t ++ r := by rw [h1]; rfl
          refine ⟨?_, ?_, by omega⟩
          · rw [h4, h5, List.take_append, List.take_of_length_le (by omega)]; congr 2; omega
          · rw [h4, h5, List.drop_append, List.drop_eq_nil_of_le (by omega)]; simp
        obtain ⟨X, hX⟩ : ∃ X, X = n + 1 - r.length + 4 := ⟨_, rfl⟩
        rw [← hX] at htk
        have hXn : X ≤ n + 1 := by omega
        have HTK := Lib.hid htk
        have HFI : Hid (F = (k :: b).take X ↔ r.take 4 = Frm.be4 (Chk.sum (Frm.head k t))) := Lib.hid (by
          rw [hF, HTK.out.1, Frm.put]
          constructor
          · intro h; exact (List.append_cancel_left h).symm
          · intro h; rw [h])
        have hrn := htk.2.2
        have hsum : IntKind.i64.wrap ((n : Int) + 1 - (r.length : Int) + 4) = (X : Int) := by rw [IntKind.wrap_i64]; omega
        have hsum2 : (n : Int) + 1 - (r.length : Int) + 4 = (X : Int) := by omega
        have HRT : Hid (RdB w w.heap.size (some ⟨g, off, none⟩) ((k :: b).take X)) := Lib.hid (HH.out.take (by have := HN.out; rw [List.length_cons]; omega))
        have HLT : Hid (((k :: b).take X).length = X) := Lib.hid (by have := HN.out; rw [List.length_take, List.length_cons]; omega)
        clear htk hX hF
        go_wp2_with fail
        refine KP.out.mono ?_
        rintro e w3 ⟨PA, pc, rfl, hoP, hb3⟩
        have hcw3 := (hb3.block _ HZ1.out).trans HCW.out
        have HCW3 := Lib.hid hcw3
        have HB3 := Lib.hid (HB1.out.trans (hb3.mono HB1.out.size))
        have c03 := (HB3.out.cell (p := ⟨g, off, none⟩) hab).trans HC0.out
        have q0 := cell_of_row w3 w.heap.size 0 _ _ (0, 0) hcw3
        have q1 := cell_of_row w3 w.heap.size 1 _ _ (0, 0) hcw3
        have f0 := frozen_of_row w3 w.heap.size 0 _ _ hcw3
        have f1 := frozen_of_row w3 w.heap.size 1 _ _ hcw3
        simp only [List.getElem?_toArray, List.getElem?_cons_zero, List.getElem?_cons_succ] at q0 q1
        have HO3 := Lib.hid (HO1.out.below hb3)
        obtain ⟨SF, hSF⟩ : ∃ SF : ByteArray, SF = ⟨F.toArray⟩ := ⟨_, rfl⟩
        obtain ⟨SB, hSB⟩ : ∃ SB : ByteArray, SB = ⟨((k :: b).take X).toArray⟩ := ⟨_, rfl⟩
        have HS : Hid (∀ w', Below w3.heap.size w3 w' → (convert 23 9 (.slice PA F.length pc)).run Tryz.prog w' = .ok (.string SF) w' ∧ (convert 23 9 (.slice (some ⟨g, off, none⟩) X c)).run Tryz.prog w' = .ok (.string SB) w' ∧ Below w3.heap.size w3 w') := Lib.hid (fun w' hb => by
          have s1 := strB_of (c := pc) (hoP.rd.below hb (Nat.le_refl _))
          have s2 := strB_of (c := c) (HRT.out.below (HB3.out.trans (hb.mono HB3.out.size)) (Nat.le_refl _))
          unfold StrB at s1 s2
          rw [HLT.out, ← hSB] at s2
          rw [← hSF] at s1
          exact ⟨s1, s2, hb⟩)
        have hX0 : (0 : Int) ≤ (X : Int) := by omega
        have hX1 : (X : Int) ≤ (c : Int) := by omega
        have hk0 : (0 : Int) < (n : Int) + 1 := by omega
        clear hcw3 hb3 hoP KP hsum hsum2 c0
        by_cases hfx : F = (k :: b).take X
        · have HE := Lib.hid (take_cons_yes (k := k) HX.out ⟨by omega, by omega, HFI.out.1 hfx⟩)
          have hss : SB = SF := by rw [hSB, hSF, ← hfx]
          subst hss
          clear hSF hSB hfx
          go_wp2_with fail
          go_region_held (fun w' => (convert 23 9 (.slice PA F.length pc)).run Tryz.prog w' = .ok (.string SB) w' ∧ (convert 23 9 (.slice (some ⟨g, off, none⟩) X c)).run Tryz.prog w' = .ok (.string SB) w' ∧ Below w3.heap.size w3 w') (first | exact HS.out _ ((Below.refl _ _).drew) | exact HS.out _ (Below.refl _ _)) (fail)
          have hr4 := HH.out.cut (k := X) (c := c) (by have := HN.out; rw [List.length_cons]; omega) (by have := HN.out; rw [List.length_cons]; omega)
          rw [HTK.out.2.1] at hr4
          have HRL : Hid ((r.drop 4).length = n + 1 - X) := Lib.hid (by rw [← HTK.out.2.1, List.length_drop, List.length_cons, ← HN.out])
          have HK : Hid (((w3.setCell ⟨w.heap.size, 0, none⟩ (.int .u8 (kn : Int))).setCell ⟨w.heap.size, 1, none⟩ (.slice A1 t.length c1)).cell? ⟨g, off, none⟩ = some (.int .u8 (kn : Int))) := Lib.hid (by
            rw [World.cell?_setCell_other _ _ _ _ (fun e => by injection e with e1; omega), World.cell?_setCell_other _ _ _ _ (fun e => by injection e with e1; omega)]
            exact c03)
          have hX2 : (X : Int) ≤ (n : Int) + 1 := by omega
          by_cases hcX : c = X
          · subst hcX
            rw [if_pos rfl] at hr4
            have HR4 := Lib.hid ((hr4.below HB3.out (Nat.le_refl _)).more HB3.out.size)
            clear hr4
            go_wp2_with fail
            go_region_held (fun w' => w'.cell? ⟨g, off, none⟩ = some (.int .u8 (kn : Int))) (first | exact c03 | exact HK.out) (fail)
            go_wp2_with fail
            refine bodyPost_ret (results_c3 rfl _ _ w.heap.size 164 #[.int .u8 (kn : Int), .slice A1 t.length c1] _ _ rfl (heap_set2 HCW3.out) Tryz.underlying164 rfl rframe_size) rfl ?_
            rw [HE.out]
            refine ⟨((HB3.out.setCell (by simp) _).setCell (by simp) _).drew.drew, A1, c1, some ⟨g, off, none⟩, 0, ?_, own_le2 (own_sets HO3.out (by omega) _ _), (rdB_sets2 HR4.out (fun x hx => by have : g = x := (by simpa [blk] using hx); omega) _ _).more (by simp), by have := HRL.out; omega, by omega, fun x hx => .inl hx⟩
            rw [HKN.out, show (r.drop 4).length = 0 by have := HRL.out; omega]; rfl
          · have hcX2 : (X : Int) < (c : Int) := by omega
            rw [if_neg hcX] at hr4
            have HR4 := Lib.hid ((hr4.below HB3.out (Nat.le_refl _)).more HB3.out.size)
            clear hr4
            go_wp2_with fail
            go_region_held (fun w' => w'.cell? ⟨g, off, none⟩ = some (.int .u8 (kn : Int))) (first | exact c03 | exact HK.out) (fail)
            go_wp2_with fail
            refine bodyPost_ret (results_c3 rfl _ _ w.heap.size 164 #[.int .u8 (kn : Int), .slice A1 t.length c1] _ _ rfl (heap_set2 HCW3.out) Tryz.underlying164 rfl rframe_size) rfl ?_
            rw [HE.out]
            refine ⟨((HB3.out.setCell (by simp) _).setCell (by simp) _).drew.drew, A1, c1, some ⟨g, off + X, none⟩, c - X, ?_, own_le2 (own_sets HO3.out (by omega) _ _), (rdB_sets2 HR4.out (fun x hx => by have : g = x := (by simpa [blk] using hx); omega) _ _).more (by simp), by have := HRL.out; omega, by omega, fun x hx => .inl hx⟩
            rw [HKN.out, HRL.out]; rfl
        · have HE := Lib.hid (take_cons_no (k := k) HX.out (fun h => hfx (HFI.out.2 h.2.2)))
          have hne := str_ne hSF.symm hSB.symm hfx
          clear hSF hSB hfx
          go_wp2_with fail
          go_region_held (fun w' => (convert 23 9 (.slice PA F.length pc)).run Tryz.prog w' = .ok (.string SF) w' ∧ (convert 23 9 (.slice (some ⟨g, off, none⟩) X c)).run Tryz.prog w' = .ok (.string SB) w' ∧ Below w3.heap.size w3 w') (first | exact HS.out _ ((Below.refl _ _).drew) | exact HS.out _ (Below.refl _ _)) (fail)
          go_wp2_with fail
          refine bodyPost_ret (results_c3 rfl _ _ w.heap.size 164 #[.int .u8 0, .slice none 0 0] _ _ rfl (heap_set2 HCW3.out) Tryz.underlying164 rfl rframe_size) rfl ?_
          exact takenR_no HE.out ((HB3.out.setCell (by simp) _).setCell (by simp) _).drew
end Go.Proofs.YtaiokogbhfliiaaGreatDoor

namespace Go.Proofs.YtaiokogbhfliiaaGreatDoor
open Go.RowKit

namespace Frm
/-- Frames, one behind the other. -/
def flat (l : List (UInt8 × List UInt8)) : List UInt8 := l.flatMap (fun p => put p.1 p.2)
theorem flat_snoc (l : List (UInt8 × List UInt8)) (k : UInt8) (t : List UInt8) : flat (l ++ [(k, t)]) = flat l ++ put k t := by simp [flat]
theorem put_pos (k : UInt8) (t : List UInt8) : 0 < (put k t).length := by unfold put head; simp
theorem flat_len (l : List (UInt8 × List UInt8)) : l.length ≤ (flat l).length := by
  induction l with
  | nil => simp
  | cons p l ih =>
    have := put_pos p.1 p.2
    have e : flat (p :: l) = put p.1 p.2 ++ flat l := by simp [flat]
    rw [e, List.length_append, List.length_cons]; omega
/-- What scanning comes to. -/
structure Scans (b : List UInt8) (l : List (UInt8 × List UInt8)) (r : List UInt8) : Prop where
  eq : b = flat l ++ r
  fit : ∀ p ∈ l, p.2.length ≤ 65536
theorem Scans.nil (b : List UInt8) : Scans b [] b := ⟨rfl, fun p hp => by cases hp⟩
theorem Scans.step {b r r' t : List UInt8} {k : UInt8} {l : List (UInt8 × List UInt8)} (h : Scans b l r) (ht : take r = some (k, t, r')) : Scans b (l ++ [(k, t)]) r' := by
  obtain ⟨e, hf⟩ := of_take ht
  refine ⟨by rw [h.eq, e, flat_snoc, List.append_assoc], fun p hp => ?_⟩
  simp only [List.mem_append, List.mem_singleton] at hp
  rcases hp with hp | hp
  · exact h.fit p hp
  · rw [hp]; exact hf
theorem Scans.len {b r : List UInt8} {l : List (UInt8 × List UInt8)} (h : Scans b l r) : l.length ≤ b.length ∧ r.length ≤ b.length := by
  have := flat_len l
  rw [h.eq, List.length_append]; omega
end Frm
/-- A frame as it lies in memory. -/
structure Fv where
  k : UInt8
  A : Option Addr
  c : Nat
  b : List UInt8
def Fv.cells (f : Fv) : List Value := [.int .u8 (f.k.toNat : Int), .slice f.A f.b.length f.c]
def Fv.pr (f : Fv) : UInt8 × List UInt8 := (f.k, f.b)
theorem frT : RT Tryz.prog 143 147 Fv.cells 2 32 (.agg #[.int .u8 0, .slice none 0 0]) :=
  ⟨Tryz.underlying143, by kernel_rfl, fun _ => rfl, fun _ u hu => by simp [Fv.cells] at hu; rcases hu with h | h <;> (subst h; rfl), by omega, rfl⟩
theorem rfrT : RT Tryz.prog 161 164 Fv.cells 2 32 (.agg #[.int .u8 0, .slice none 0 0]) :=
  ⟨Tryz.underlying161, by kernel_rfl, fun _ => rfl, fun _ u hu => by simp [Fv.cells] at hu; rcases hu with h | h <;> (subst h; rfl), by omega, rfl⟩
structure RdFv (w : World) (B : Nat) (A : Option Addr) (l : List Fv) : Prop where
  row : RdS Fv.cells 2 w B A l
  ok : ∀ f ∈ l, RdB w B f.A f.b ∧ f.b.length ≤ f.c ∧ f.c ≤ 9223372036854775807
theorem RdFv.below {w w' : World} {B D : Nat} {A : Option Addr} {l : List Fv} (h : RdFv w B A l) (hb : Below D w w') (hD : B ≤ D) : RdFv w' B A l := ⟨h.row.below hb hD, fun f hf => ⟨(h.ok f hf).1.below hb hD, (h.ok f hf).2⟩⟩
theorem RdFv.more {w : World} {B B' : Nat} {A : Option Addr} {l : List Fv} (h : RdFv w B A l) (hB : B ≤ B') : RdFv w B' A l := ⟨h.row.more hB, fun f hf => ⟨(h.ok f hf).1.more hB, (h.ok f hf).2⟩⟩
theorem RdFv.row2 {w : World} {B : Nat} {A : Option Addr} {l : List Fv} (h : RdFv w B A l) (hl : 0 < l.length) : ∃ b off, A = some ⟨b, off, none⟩ ∧ b < B ∧ ∀ k (hk : k < l.length), w.cell? ⟨b, off + k * 2, none⟩ = some (.int .u8 (l[k].k.toNat : Int)) ∧
    w.cell? ⟨b, off + k * 2 + 1, none⟩ = some (.slice l[k].A l[k].b.length l[k].c) := by
  obtain ⟨b, off, hA, hb, hc⟩ := RdS.row (f := Fv.cells) (n := 2) (fun _ => rfl) (by omega) h.row hl
  exact ⟨b, off, hA, hb, fun k hk => ⟨hc k hk 0 _ rfl, hc k hk 1 _ rfl⟩⟩
/-- Frames of the call's own, their bytes apart from the row. -/
structure OwnFv (T : TypeId) (w : World) (base : Nat) (A : Option Addr) (c : Nat) (l : List Fv) : Prop where
  row : OwnS Fv.cells 2 w base T A c l
  own : ∀ f ∈ l, Own w base 5 f.A f.c f.b ∧ Off [blk A] (blk f.A)
section
variable {T : TypeId} {w w' : World} {base c c' : Nat} {A A' : Option Addr} {l : List Fv} {f : Fv}
theorem OwnFv.nil : OwnFv T w base none 0 [] := ⟨OwnS.nil _ _ _, fun f hf => by cases hf⟩
theorem OwnFv.call (h : OwnFv T w base A c l) (hb : Below w.heap.size w w') : OwnFv T w' base A c l := ⟨h.row.below hb, fun f hf => ⟨(h.own f hf).1.below hb, (h.own f hf).2⟩⟩
theorem OwnFv.lts (h : OwnFv T w base A c l) : ∀ g, some g ∈ [blk A] → g < w.heap.size := fun g hg => by
  have h1 : some g = blk A := by simpa using hg
  exact (h.row.blk_ge g h1.symm).2
theorem OwnFv.app (h : OwnFv T w base A c l) (hf : Own w base 5 f.A f.c f.b) (hof : Off [blk A] (blk f.A)) (ho : OwnS Fv.cells 2 w' base T A' c' (l ++ [f])) (hg : w.grownBy w' (blk A)) (hat : blk A' = blk A ∨ blk A' = some w.heap.size) : OwnFv T w' base A' c' (l ++ [f]) := by
  have hR : ∀ r ∈ ([blk A'] : List (Option Nat)), r ∈ ([blk A] : List (Option Nat)) ∨ r = some w.heap.size := fun r hr => by
    simp only [List.mem_singleton] at hr ⊢
    rcases hat with h1 | h1
    · exact .inl (hr.trans h1)
    · exact .inr (hr.trans h1)
  refine ⟨ho, fun q hq => ?_⟩
  simp only [List.mem_append, List.mem_singleton] at hq
  rcases hq with hq | hq
  · obtain ⟨h1, h2⟩ := h.own q hq
    exact ⟨h1.kept hg (h2.ne (by simp)), h2.new (fun g hg => (h1.blk_ge g hg).2) hR⟩
  · rw [hq]
    exact ⟨hf.kept hg (hof.ne (by simp)), hof.new (fun g hg => (hf.blk_ge g hg).2) hR⟩
theorem OwnFv.rd (h : OwnFv T w base A c l) : RdFv w w.heap.size A l := ⟨h.row.rd, fun f hf => ⟨(h.own f hf).1.rd, (h.own f hf).1.cap, (h.own f hf).1.cap_le⟩⟩
end
theorem off_frs {R : List (Option Nat)} {w : World} {n : Nat} {A B : Option Addr} (h : Off R (blk A)) (hR : ∀ g, some g ∈ R → g < n) (hf : Frs w n A B) : Off R (blk B) := fun g hg hm => by
  rcases hf g hg with h1 | ⟨h1, _⟩
  · exact h g h1 hm
  · have := hR g hm; omega
theorem ownS_cap_le {α : Type} {f : α → List Value} {n base c : Nat} {w : World} {e : TypeId} {A : Option Addr} {l : List α} (h : OwnS f n w base e A c l) : c ≤ 9223372036854775807 := by
  rcases h.2 with ⟨hv, _⟩ | ⟨g, cap, cur, hv, _, _, _, hc, _⟩
  · injection hv with _ _ h3; omega
  · injection hv with _ _ h3; unfold maxLen at hc; omega
theorem off_row {w : World} {n : Nat} {OA OA' B : Option Addr} {r : List UInt8} (h : Off [blk OA] (blk B)) (hat : blk OA' = blk OA ∨ blk OA' = some n) (hr : RdB w w.heap.size B r) (hw : w.heap.size ≤ n) : r ≠ [] → Off [blk OA'] (blk B) := fun hne => by
  refine h.new (n := n) (fun g hg => ?_) (fun x hx => ?_)
  · obtain ⟨ad, e, h1, _⟩ := hr.2 (List.length_pos_iff.2 hne)
    subst e
    have hg' : ad.block = g := by simpa [blk] using hg
    omega
  · simp only [List.mem_singleton] at hx ⊢
    rcases hat with h1 | h1
    · exact .inl (hx.trans h1)
    · exact .inr (hx.trans h1)
theorem rdB_kept {w w' : World} {A : Option Addr} {l : List UInt8} {row : Option Nat} (h : RdB w w.heap.size A l) (hg : w.grownBy w' row) (hne : blk A = none ∨ blk A ≠ row) : RdB w' w'.heap.size A l := by
  refine ⟨h.1, fun hn => ?_⟩
  obtain ⟨ad, e, hb, hc⟩ := h.2 hn
  subst e
  refine ⟨ad, rfl, Nat.lt_of_lt_of_le hb hg.size, fun j u hu => ?_⟩
  rw [World.cell?_of_block (hg.block _ (by rw [block_of_add]; exact hb) (by rw [block_of_add]; exact hne.resolve_left (by simp [blk])))]
  exact hc j u hu
theorem rd_frame_new (T : TypeId) (w : World) (f : Fv) : RdS Fv.cells 2 (w.alloc (.cells #[.int .u8 (f.k.toNat : Int), .slice f.A f.b.length f.c] T)) (w.heap.size + 1) (some ⟨w.heap.size, 0, none⟩) [f] := by
  refine RdS.of (f := Fv.cells) (n := 2) (l := [f]) (fun _ => rfl) _ 0 (by omega) (fun k hk j u hj => ?_)
  obtain rfl : k = 0 := by simp at hk; exact hk
  have hj' : f.cells[j]? = some u := hj
  rw [cell_of_row _ w.heap.size _ _ _ (0, 0) (heap_alloc_new w _)]
  simpa [Fv.cells] using hj'
theorem rd_frame_new2 (T : TypeId) (w : World) (o : Obj) (f : Fv) : RdS Fv.cells 2 ((w.alloc o).alloc (.cells #[.int .u8 (f.k.toNat : Int), .slice f.A f.b.length f.c] T)) (w.heap.size + 2) (some ⟨w.heap.size + 1, 0, none⟩) [f] := by
  have := rd_frame_new T (w.alloc o) f
  simpa using this
theorem below_al2 (w : World) (o p : Obj) : Below w.heap.size w ((w.alloc o).alloc p) := ((Below.refl _ _).alloc (Nat.le_refl _) _).alloc (by simp) _
/-- What was scanned, in memory. -/
def Scanned (w : World) (b : List UInt8) (e : Ending) (w' : World) : Prop := ∃ (l : List Fv) (r : List UInt8) (A : Option Addr) (c : Nat), Frm.Scans b (l.map Fv.pr) r ∧ Frm.take r = none ∧
  e = .returned (.tuple #[.slice A l.length c, .int .i64 ((b.length : Int) - (r.length : Int))]) ∧ RdFv w' w'.heap.size A l ∧ l.length ≤ c ∧ c ≤ 9223372036854775807 ∧ Below w.heap.size w w'
end Go.Proofs.YtaiokogbhfliiaaGreatDoor
