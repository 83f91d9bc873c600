/- Parts of the proof, one behind the other: The contract of the reference's Take.; Frames in a row, in memory; the plain law of Scan.; The contract of the closure that frames hands back.; The contract of frame.Scan: a range over the frames.; Pairs of the call's own in memory; what Parse gives.; The contract of block's number.; The contract of block's split (written by a program).; Plain: a pair taken of a block's bytes. -/
import Derived.Test.YtgafionfojnieaaDoorMrg30
import Derived.Test.YtgafionfojnieaaDoorMrg39
import Derived.Test.YtgafionfojnieaaDoorMrg40
import Derived.Test.YtgafionfojnieaaDoorMrg05
import Derived.Test.YtgafionfojnieaaDoorMrg10
import Derived.Test.YtgafionfojnieaaDoorMrg18
import Derived.Test.YtgafionfojnieaaDoorMrg31
import Derived.Test.YtgafionfojnieaaDoorMrg38
import Derived.Deep.QuietTactic
import Derived.BigQuiet
import Derived.Laws.BitsAllLaws
import Derived.Test.YtgafionfojnieaaDoorMrg34
import Derived.Test.YtgafionfojnieaaDoorMrg15
namespace Go.Proofs.YtgafionfojnieaaDoor
open Go.RowKit

theorem rframe_size : (Tryd.prog.info? 62).map (fun x => x.size) = some 2 := by kernel_rfl
theorem rtakeTextS_cut (A : Option Addr) (n c : Nat) (b : List UInt8) (w : World) (hn : n = b.length) (h : RdB w w.heap.size A b) (hl : b.length ≤ 140737488355328) (hc : b.length ≤ c) (hcc : c ≤ 9223372036854775807) :
    Calls Tryd.prog 58 #[.slice A n c] w (TakenS w A (cutT (Cod.take b))) := by subst hn; exact rtakeTextS_any A c b w h hl hc hcc
set_option maxHeartbeats 2000000 in
set_option maxRecDepth 100000 in
theorem rftake_any (A : Option Addr) (c : Nat) (b : List UInt8) (w : World) (h : RdB w w.heap.size A b) (hl : b.length ≤ 140737488355328) (hc : b.length ≤ c) (hcc : c ≤ 9223372036854775807) :
    Calls Tryd.prog 57 #[.slice A b.length c] w (TakenR w A (Frm.take b)) := by
  have HAL : Hid (∀ o, Below w.heap.size w (w.alloc o)) := Lib.hid (fun o => (Below.refl _ _).alloc (Nat.le_refl _) o)
  rcases b with _ | ⟨k, b⟩
  · go_enter Tryd.func57, Tryd.ntmps57
    go_wp2_with fail
    refine bodyPost_ret (results_c3 rfl _ _ w.heap.size 62 #[.int .u8 0, .slice none 0 0] _ _ rfl (heap_alloc_new _ _) Tryd.underlying62 rfl rframe_size) rfl ?_
    exact takenR_no rfl (HAL.out _)
  · obtain ⟨g, off, rfl, hab, hcell⟩ := h.at_ (k := 0) (by simp)
    have hcut := h.cut (k := 1) (c := c) (by simp) hc
    simp only [List.drop_succ_cons, List.drop_zero] at hcut
    have HH := Lib.hid h
    obtain ⟨n, hn⟩ : ∃ n, n = b.length := ⟨_, rfl⟩
    have hcell0 : w.cell? ⟨g, off, none⟩ = some (.int .u8 (k.toNat : Int)) := by simpa using hcell
    have hln : (k :: b).length = n + 1 := by rw [hn]; rfl
    rw [hln] at hl hc ⊢
    have h1c : (1 : Int) ≤ (c : Int) := by omega
    obtain ⟨kn, hkn⟩ : ∃ kn, kn = k.toNat := ⟨_, rfl⟩
    rw [← hkn] at hcell0
    have HC0 := Lib.hid hcell0
    have HKN := Lib.hid hkn
    by_cases hc1 : c = 1
    · subst hc1
      have hn0 : n = 0 := by omega
      subst hn0
      have hb0 : b = [] := List.eq_nil_of_length_eq_zero hn.symm
      subst hb0
      have hx : cutT (Cod.take []) = none := rfl
      have HE := Lib.hid (take_cons_none (k := k) hx)
      have KT : Hid (∀ A w, Calls Tryd.prog 58 #[.slice A 0 0] w (TakenS w A none)) := Lib.hid (fun A w => by
        have := rtakeTextS_cut A 0 0 [] w rfl RdB.nil (by simp) (by simp) (by omega)
        rwa [hx] at this)
      clear hcell hcut h hn hln hkn hx
      go_enter Tryd.func57, Tryd.ntmps57
      go_wp2_with fail
      refine (KT.out _ _).mono ?_
      intro e w1 hh
      obtain ⟨hb1, rfl⟩ := takenS_none hh
      have hcw : w1.heap[w.heap.size]? = some (.cells #[.int .u8 0, .slice none 0 0] 62) := (hb1.block _ (by simp)).trans (heap_alloc_new _ _)
      have HCW := Lib.hid hcw
      have HB1 : Hid (Below w.heap.size w w1) := Lib.hid ((HAL.out _).trans (hb1.mono (by simp)))
      have q0 := cell_of_row w1 w.heap.size 0 _ _ (0, 0) hcw
      have q1 := cell_of_row w1 w.heap.size 1 _ _ (0, 0) hcw
      have f0 := frozen_of_row w1 w.heap.size 0 _ _ hcw
      have f1 := frozen_of_row w1 w.heap.size 1 _ _ hcw
      simp only [List.getElem?_toArray, List.getElem?_cons_zero, List.getElem?_cons_succ] at q0 q1
      clear hh hcw hb1
      go_wp2_with fail
      refine bodyPost_ret (results_c3 rfl _ _ w.heap.size 62 #[.int .u8 0, .slice none 0 0] _ _ rfl (heap_set2 HCW.out) Tryd.underlying62 rfl rframe_size) rfl ?_
      exact takenR_no HE.out ((HB1.out.setCell (by simp) _).setCell (by simp) _)
    · rw [if_neg hc1] at hcut
      have HCUT := Lib.hid hcut
      have HN := Lib.hid hn
      clear hcell hcut h hn hln hcell0 hkn
      go_enter Tryd.func57, Tryd.ntmps57
      go_wp2_with fail
      refine (rtakeTextS_cut _ _ _ b _ HN.out ((HCUT.out.alloc (Nat.le_refl _) _).more (by simp)) (by have := HN.out; omega) (by have := HN.out; omega) (by omega)).mono ?_
      cases hx : cutT (Cod.take b) with
      | none =>
        intro e w1 hh
        obtain ⟨hb1, rfl⟩ := takenS_none hh
        have HE := Lib.hid (take_cons_none (k := k) hx)
        have hcw : w1.heap[w.heap.size]? = some (.cells #[.int .u8 0, .slice none 0 0] 62) := (hb1.block _ (by simp)).trans (heap_alloc_new _ _)
        have HCW := Lib.hid hcw
        have HB1 : Hid (Below w.heap.size w w1) := Lib.hid ((HAL.out _).trans (hb1.mono (by simp)))
        have q0 := cell_of_row w1 w.heap.size 0 _ _ (0, 0) hcw
        have q1 := cell_of_row w1 w.heap.size 1 _ _ (0, 0) hcw
        have f0 := frozen_of_row w1 w.heap.size 0 _ _ hcw
        have f1 := frozen_of_row w1 w.heap.size 1 _ _ hcw
        simp only [List.getElem?_toArray, List.getElem?_cons_zero, List.getElem?_cons_succ] at q0 q1
        clear hx hh hcw hb1
        go_wp2_with fail
        refine bodyPost_ret (results_c3 rfl _ _ w.heap.size 62 #[.int .u8 0, .slice none 0 0] _ _ rfl (heap_set2 HCW.out) Tryd.underlying62 rfl rframe_size) rfl ?_
        exact takenR_no HE.out ((HB1.out.setCell (by simp) _).setCell (by simp) _)
      | some v =>
        obtain ⟨t, r⟩ := v
        intro e w1 hh
        obtain ⟨hb1, A1, c1, B1, d1, rfl, ho1, hr1, hd1, hdd1, hf1⟩ := takenS_some hh
        have hcw : w1.heap[w.heap.size]? = some (.cells #[.int .u8 0, .slice none 0 0] 62) := (hb1.block _ (by simp)).trans (heap_alloc_new _ _)
        have HCW := Lib.hid hcw
        have HB1 : Hid (Below w.heap.size w w1) := Lib.hid ((HAL.out _).trans (hb1.mono (by simp)))
        have HO1 : Hid (Own w1 (w.heap.size + 1) 5 A1 c1 t) := Lib.hid (by simpa using ho1)
        have HFG : Hid (∀ x, blk B1 = some x → x ≠ w.heap.size) := Lib.hid (fun x hx => by
          rcases hf1 x hx with h1 | ⟨h1, _⟩
          · have : g = x := by simpa [blk] using h1
            omega
          · have : w.heap.size + 1 ≤ x := (by simpa using h1); omega)
        have HR1 := Lib.hid hr1
        have q0 := cell_of_row w1 w.heap.size 0 _ _ (0, 0) hcw
        have q1 := cell_of_row w1 w.heap.size 1 _ _ (0, 0) hcw
        have f0 := frozen_of_row w1 w.heap.size 0 _ _ hcw
        have f1 := frozen_of_row w1 w.heap.size 1 _ _ hcw
        simp only [List.getElem?_toArray, List.getElem?_cons_zero, List.getElem?_cons_succ] at q0 q1
        have htx := Frm.cutT_text hx
        have HX := Lib.hid hx
        have HTX := Lib.hid htx
        clear hx hh hcw hb1 hf1 hr1 ho1 htx
        by_cases hr : (r.length : Int) < 4
        · have HE := Lib.hid (take_cons_no (k := k) HX.out (fun h => by have := h.2.1; omega))
          go_wp2_with fail
          refine bodyPost_ret (results_c3 rfl _ _ w.heap.size 62 #[.int .u8 0, .slice none 0 0] _ _ rfl (heap_set2 HCW.out) Tryd.underlying62 rfl rframe_size) rfl ?_
          exact takenR_no HE.out ((HB1.out.setCell (by simp) _).setCell (by simp) _)
        by_cases ht : (65536 : Int) < (t.length : Int)
        · have HE := Lib.hid (take_cons_no (k := k) HX.out (fun h => by have := h.1; omega))
          go_wp2_with fail
          refine bodyPost_ret (results_c3 rfl _ _ w.heap.size 62 #[.int .u8 0, .slice none 0 0] _ _ rfl (heap_set2 HCW.out) Tryd.underlying62 rfl rframe_size) rfl ?_
          exact takenR_no HE.out ((HB1.out.setCell (by simp) _).setCell (by simp) _)
        have hz1 : w.heap.size < w1.heap.size := by have := HCW.out; rw [Array.getElem?_eq_some_iff] at this; exact this.1
        have HZ1 := Lib.hid hz1
        have c0 := (HB1.out.cell (p := ⟨g, off, none⟩) hab).trans HC0.out
        have KP := Lib.hid (rfput_yes k A1 c1 t w1 (HO1.out.rd) (by omega))
        rw [← HKN.out] at KP
        obtain ⟨F, hF⟩ : ∃ F, F = Frm.put k t := ⟨_, rfl⟩
        rw [← hF] at KP
        have htk : (k :: b).take (n + 1 - r.length + 4) = Frm.head k t ++ r.take 4 ∧ (k :: b).drop (n + 1 - r.length + 4) = r.drop 4 ∧ r.length ≤ n := by
          have h1 := HTX.out
          have h2 := HN.out
          have h3 : n = (Cod.text t).length + r.length := by rw [h2, h1, List.length_append]
          have h4 : n + 1 - r.length + 4 = (Frm.head k t).length + 4 := by unfold Frm.head; rw [List.length_cons]; omega
          have h5 : k :: b = Frm.head k t ++ r := by rw [h1]; rfl
          refine ⟨?_, ?_, by omega⟩
          · rw [h4, h5, List.take_append, List.take_of_length_le (by omega)]; congr 2; omega
          · rw [h4, h5, List.drop_append, List.drop_eq_nil_of_le (by omega)]; simp
        obtain ⟨X, hX⟩ : ∃ X, X = n + 1 - r.length + 4 := ⟨_, rfl⟩
        rw [← hX] at htk
        have hXn : X ≤ n + 1 := by omega
        have HTK := Lib.hid htk
        have HFI : Hid (F = (k :: b).take X ↔ r.take 4 = Frm.be4 (Chk.sum (Frm.head k t))) := Lib.hid (by
          rw [hF, HTK.out.1, Frm.put]
          constructor
          · intro h; exact (List.append_cancel_left h).symm
          · intro h; rw [h])
        have hrn := htk.2.2
        have hsum : IntKind.i64.wrap ((n : Int) + 1 - (r.length : Int) + 4) = (X : Int) := by rw [IntKind.wrap_i64]; omega
        have hsum2 : (n : Int) + 1 - (r.length : Int) + 4 = (X : Int) := by omega
        have HRT : Hid (RdB w w.heap.size (some ⟨g, off, none⟩) ((k :: b).take X)) := Lib.hid (HH.out.take (by have := HN.out; rw [List.length_cons]; omega))
        have HLT : Hid (((k :: b).take X).length = X) := Lib.hid (by have := HN.out; rw [List.length_take, List.length_cons]; omega)
        clear htk hX hF
        go_wp2_with fail
        refine KP.out.mono ?_
        rintro e w3 ⟨PA, pc, rfl, hoP, hb3⟩
        have hcw3 := (hb3.block _ HZ1.out).trans HCW.out
        have HCW3 := Lib.hid hcw3
        have HB3 := Lib.hid (HB1.out.trans (hb3.mono HB1.out.size))
        have c03 := (HB3.out.cell (p := ⟨g, off, none⟩) hab).trans HC0.out
        have q0 := cell_of_row w3 w.heap.size 0 _ _ (0, 0) hcw3
        have q1 := cell_of_row w3 w.heap.size 1 _ _ (0, 0) hcw3
        have f0 := frozen_of_row w3 w.heap.size 0 _ _ hcw3
        have f1 := frozen_of_row w3 w.heap.size 1 _ _ hcw3
        simp only [List.getElem?_toArray, List.getElem?_cons_zero, List.getElem?_cons_succ] at q0 q1
        have HO3 := Lib.hid (HO1.out.below hb3)
        obtain ⟨SF, hSF⟩ : ∃ SF : ByteArray, SF = ⟨F.toArray⟩ := ⟨_, rfl⟩
        obtain ⟨SB, hSB⟩ : ∃ SB : ByteArray, SB = ⟨((k :: b).take X).toArray⟩ := ⟨_, rfl⟩
        have HS : Hid (∀ w', Below w3.heap.size w3 w' → (convert 25 9 (.slice PA F.length pc)).run Tryd.prog w' = .ok (.string SF) w' ∧ (convert 25 9 (.slice (some ⟨g, off, none⟩) X c)).run Tryd.prog w' = .ok (.string SB) w' ∧ Below w3.heap.size w3 w') := Lib.hid (fun w' hb => by
          have s1 := strB_of (c := pc) (hoP.rd.below hb (Nat.le_refl _))
          have s2 := strB_of (c := c) (HRT.out.below (HB3.out.trans (hb.mono HB3.out.size)) (Nat.le_refl _))
          unfold StrB at s1 s2
          rw [HLT.out, ← hSB] at s2
          rw [← hSF] at s1
          exact ⟨s1, s2, hb⟩)
        have hX0 : (0 : Int) ≤ (X : Int) := by omega
        have hX1 : (X : Int) ≤ (c : Int) := by omega
        have hk0 : (0 : Int) < (n : Int) + 1 := by omega
        clear hcw3 hb3 hoP KP hsum hsum2 c0
        by_cases hfx : F = (k :: b).take X
        · have HE := Lib.hid (take_cons_yes (k := k) HX.out ⟨by omega, by omega, HFI.out.1 hfx⟩)
          have hss : SB = SF := by rw [hSB, hSF, ← hfx]
          subst hss
          clear hSF hSB hfx
          go_wp2_with fail
          go_region_held (fun w' => (convert 25 9 (.slice PA F.length pc)).run Tryd.prog w' = .ok (.string SB) w' ∧ (convert 25 9 (.slice (some ⟨g, off, none⟩) X c)).run Tryd.prog w' = .ok (.string SB) w' ∧ Below w3.heap.size w3 w') (first | exact HS.out _ ((Below.refl _ _).drew) | exact HS.out _ (Below.refl _ _)) (fail)
          have hr4 := HH.out.cut (k := X) (c := c) (by have := HN.out; rw [List.length_cons]; omega) (by have := HN.out; rw [List.length_cons]; omega)
          rw [HTK.out.2.1] at hr4
          have HRL : Hid ((r.drop 4).length = n + 1 - X) := Lib.hid (by rw [← HTK.out.2.1, List.length_drop, List.length_cons, ← HN.out])
          have HK : Hid (((w3.setCell ⟨w.heap.size, 0, none⟩ (.int .u8 (kn : Int))).setCell ⟨w.heap.size, 1, none⟩ (.slice A1 t.length c1)).cell? ⟨g, off, none⟩ = some (.int .u8 (kn : Int))) := Lib.hid (by
            rw [World.cell?_setCell_other _ _ _ _ (fun e => by injection e with e1; omega), World.cell?_setCell_other _ _ _ _ (fun e => by injection e with e1; omega)]
            exact c03)
          have hX2 : (X : Int) ≤ (n : Int) + 1 := by omega
          by_cases hcX : c = X
          · subst hcX
            rw [if_pos rfl] at hr4
            have HR4 := Lib.hid ((hr4.below HB3.out (Nat.le_refl _)).more HB3.out.size)
            clear hr4
            go_wp2_with fail
            go_region_held (fun w' => w'.cell? ⟨g, off, none⟩ = some (.int .u8 (kn : Int))) (first | exact c03 | exact HK.out) (fail)
            go_wp2_with fail
            refine bodyPost_ret (results_c3 rfl _ _ w.heap.size 62 #[.int .u8 (kn : Int), .slice A1 t.length c1] _ _ rfl (heap_set2 HCW3.out) Tryd.underlying62 rfl rframe_size) rfl ?_
            rw [HE.out]
            refine ⟨((HB3.out.setCell (by simp) _).setCell (by simp) _).drew.drew, A1, c1, some ⟨g, off, none⟩, 0, ?_, own_le2 (own_sets HO3.out (by omega) _ _), (rdB_sets2 HR4.out (fun x hx => by have : g = x := (by simpa [blk] using hx); omega) _ _).more (by simp), by have := HRL.out; omega, by omega, fun x hx => .inl hx⟩
            rw [HKN.out, show (r.drop 4).length = 0 by have := HRL.out; omega]; rfl
          · have hcX2 : (X : Int) < (c : Int) := by omega
            rw [if_neg hcX] at hr4
            have HR4 := Lib.hid ((hr4.below HB3.out (Nat.le_refl _)).more HB3.out.size)
            clear hr4
            go_wp2_with fail
            go_region_held (fun w' => w'.cell? ⟨g, off, none⟩ = some (.int .u8 (kn : Int))) (first | exact c03 | exact HK.out) (fail)
            go_wp2_with fail
            refine bodyPost_ret (results_c3 rfl _ _ w.heap.size 62 #[.int .u8 (kn : Int), .slice A1 t.length c1] _ _ rfl (heap_set2 HCW3.out) Tryd.underlying62 rfl rframe_size) rfl ?_
            rw [HE.out]
            refine ⟨((HB3.out.setCell (by simp) _).setCell (by simp) _).drew.drew, A1, c1, some ⟨g, off + X, none⟩, c - X, ?_, own_le2 (own_sets HO3.out (by omega) _ _), (rdB_sets2 HR4.out (fun x hx => by have : g = x := (by simpa [blk] using hx); omega) _ _).more (by simp), by have := HRL.out; omega, by omega, fun x hx => .inl hx⟩
            rw [HKN.out, HRL.out]; rfl
        · have HE := Lib.hid (take_cons_no (k := k) HX.out (fun h => hfx (HFI.out.2 h.2.2)))
          have hne := str_ne hSF.symm hSB.symm hfx
          clear hSF hSB hfx
          go_wp2_with fail
          go_region_held (fun w' => (convert 25 9 (.slice PA F.length pc)).run Tryd.prog w' = .ok (.string SF) w' ∧ (convert 25 9 (.slice (some ⟨g, off, none⟩) X c)).run Tryd.prog w' = .ok (.string SB) w' ∧ Below w3.heap.size w3 w') (first | exact HS.out _ ((Below.refl _ _).drew) | exact HS.out _ (Below.refl _ _)) (fail)
          go_wp2_with fail
          refine bodyPost_ret (results_c3 rfl _ _ w.heap.size 62 #[.int .u8 0, .slice none 0 0] _ _ rfl (heap_set2 HCW3.out) Tryd.underlying62 rfl rframe_size) rfl ?_
          exact takenR_no HE.out ((HB3.out.setCell (by simp) _).setCell (by simp) _).drew
end Go.Proofs.YtgafionfojnieaaDoor

namespace Go.Proofs.YtgafionfojnieaaDoor
open Go.RowKit

namespace Frm
/-- Frames, one behind the other. -/
def flat (l : List (UInt8 × List UInt8)) : List UInt8 := l.flatMap (fun p => put p.1 p.2)
theorem flat_snoc (l : List (UInt8 × List UInt8)) (k : UInt8) (t : List UInt8) : flat (l ++ [(k, t)]) = flat l ++ put k t := by simp [flat]
theorem put_pos (k : UInt8) (t : List UInt8) : 0 < (put k t).length := by unfold put head; simp
theorem flat_len (l : List (UInt8 × List UInt8)) : l.length ≤ (flat l).length := by
  induction l with
  | nil => simp
  | cons p l ih =>
    have := put_pos p.1 p.2
    have e : flat (p :: l) = put p.1 p.2 ++ flat l := by simp [flat]
    rw [e, List.length_append, List.length_cons]; omega
/-- What scanning comes to. -/
structure Scans (b : List UInt8) (l : List (UInt8 × List UInt8)) (r : List UInt8) : Prop where
  eq : b = flat l ++ r
  fit : ∀ p ∈ l, p.2.length ≤ 65536
theorem Scans.nil (b : List UInt8) : Scans b [] b := ⟨rfl, fun p hp => by cases hp⟩
theorem Scans.step {b r r' t : List UInt8} {k : UInt8} {l : List (UInt8 × List UInt8)} (h : Scans b l r) (ht : take r = some (k, t, r')) : Scans b (l ++ [(k, t)]) r' := by
  obtain ⟨e, hf⟩ := of_take ht
  refine ⟨by rw [h.eq, e, flat_snoc, List.append_assoc], fun p hp => ?_⟩
  simp only [List.mem_append, List.mem_singleton] at hp
  rcases hp with hp | hp
  · exact h.fit p hp
  · rw [hp]; exact hf
theorem Scans.len {b r : List UInt8} {l : List (UInt8 × List UInt8)} (h : Scans b l r) : l.length ≤ b.length ∧ r.length ≤ b.length := by
  have := flat_len l
  rw [h.eq, List.length_append]; omega
theorem scans_uniq : ∀ (l m : List (UInt8 × List UInt8)) (b r s : List UInt8), Scans b l r → take r = none → Scans b m s → take s = none → l = m ∧ r = s := by
  intro l
  induction l with
  | nil =>
    intro m b r s h hr h2 hs
    cases m with
    | nil =>
      have e1 : b = r := h.eq
      have e2 : b = s := h2.eq
      exact ⟨rfl, e1.symm.trans e2⟩
    | cons p m =>
      have e1 : b = r := h.eq
      have e2 := h2.eq
      have e : flat (p :: m) = put p.1 p.2 ++ flat m := by simp [flat]
      rw [e, List.append_assoc] at e2
      rw [← e1, e2, take_put _ _ _ (h2.fit p (by simp))] at hr
      cases hr
  | cons p l ih =>
    intro m b r s h hr h2 hs
    have ep : flat (p :: l) = put p.1 p.2 ++ flat l := by simp [flat]
    have e1 := h.eq
    rw [ep, List.append_assoc] at e1
    have t1 : take b = some (p.1, p.2, flat l ++ r) := by rw [e1]; exact take_put _ _ _ (h.fit p (by simp))
    cases m with
    | nil =>
      have e2 : b = s := h2.eq
      rw [← e2, t1] at hs; cases hs
    | cons q m =>
      have eq : flat (q :: m) = put q.1 q.2 ++ flat m := by simp [flat]
      have e2 := h2.eq
      rw [eq, List.append_assoc] at e2
      have t2 : take b = some (q.1, q.2, flat m ++ s) := by rw [e2]; exact take_put _ _ _ (h2.fit q (by simp))
      rw [t1] at t2
      injection t2 with t2
      injection t2 with u1 t2
      injection t2 with u2 u3
      obtain ⟨v1, v2⟩ := ih m (flat l ++ r) r s ⟨rfl, fun x hx => h.fit x (by simp [hx])⟩ hr ⟨u3, fun x hx => h2.fit x (by simp [hx])⟩ hs
      refine ⟨?_, v2⟩
      rw [v1]
      obtain ⟨a, b'⟩ := p
      obtain ⟨c, d⟩ := q
      simp only at u1 u2
      rw [u1, u2]
end Frm
/-- A frame as it lies in memory. -/
structure Fv where
  k : UInt8
  A : Option Addr
  c : Nat
  b : List UInt8
def Fv.cells (f : Fv) : List Value := [.int .u8 (f.k.toNat : Int), .slice f.A f.b.length f.c]
def Fv.pr (f : Fv) : UInt8 × List UInt8 := (f.k, f.b)
theorem frT : RT Tryd.prog 70 73 Fv.cells 2 32 (.agg #[.int .u8 0, .slice none 0 0]) :=
  ⟨Tryd.underlying70, by kernel_rfl, fun _ => rfl, fun _ u hu => by simp [Fv.cells] at hu; rcases hu with h | h <;> (subst h; rfl), by omega, rfl⟩
theorem rfrT : RT Tryd.prog 58 62 Fv.cells 2 32 (.agg #[.int .u8 0, .slice none 0 0]) :=
  ⟨Tryd.underlying58, by kernel_rfl, fun _ => rfl, fun _ u hu => by simp [Fv.cells] at hu; rcases hu with h | h <;> (subst h; rfl), by omega, rfl⟩
structure RdFv (w : World) (B : Nat) (A : Option Addr) (l : List Fv) : Prop where
  row : RdS Fv.cells 2 w B A l
  ok : ∀ f ∈ l, RdB w B f.A f.b ∧ f.b.length ≤ f.c ∧ f.c ≤ 9223372036854775807
theorem RdFv.below {w w' : World} {B D : Nat} {A : Option Addr} {l : List Fv} (h : RdFv w B A l) (hb : Below D w w') (hD : B ≤ D) : RdFv w' B A l := ⟨h.row.below hb hD, fun f hf => ⟨(h.ok f hf).1.below hb hD, (h.ok f hf).2⟩⟩
theorem RdFv.more {w : World} {B B' : Nat} {A : Option Addr} {l : List Fv} (h : RdFv w B A l) (hB : B ≤ B') : RdFv w B' A l := ⟨h.row.more hB, fun f hf => ⟨(h.ok f hf).1.more hB, (h.ok f hf).2⟩⟩
theorem RdFv.row2 {w : World} {B : Nat} {A : Option Addr} {l : List Fv} (h : RdFv w B A l) (hl : 0 < l.length) : ∃ b off, A = some ⟨b, off, none⟩ ∧ b < B ∧ ∀ k (hk : k < l.length), w.cell? ⟨b, off + k * 2, none⟩ = some (.int .u8 (l[k].k.toNat : Int)) ∧
    w.cell? ⟨b, off + k * 2 + 1, none⟩ = some (.slice l[k].A l[k].b.length l[k].c) := by
  obtain ⟨b, off, hA, hb, hc⟩ := RdS.row (f := Fv.cells) (n := 2) (fun _ => rfl) (by omega) h.row hl
  exact ⟨b, off, hA, hb, fun k hk => ⟨hc k hk 0 _ rfl, hc k hk 1 _ rfl⟩⟩
/-- Frames of the call's own, their bytes apart from the row. -/
structure OwnFv (T : TypeId) (w : World) (base : Nat) (A : Option Addr) (c : Nat) (l : List Fv) : Prop where
  row : OwnS Fv.cells 2 w base T A c l
  own : ∀ f ∈ l, Own w base 5 f.A f.c f.b ∧ Off [blk A] (blk f.A)
section
variable {T : TypeId} {w w' : World} {base c c' : Nat} {A A' : Option Addr} {l : List Fv} {f : Fv}
theorem OwnFv.nil : OwnFv T w base none 0 [] := ⟨OwnS.nil _ _ _, fun f hf => by cases hf⟩
theorem OwnFv.call (h : OwnFv T w base A c l) (hb : Below w.heap.size w w') : OwnFv T w' base A c l := ⟨h.row.below hb, fun f hf => ⟨(h.own f hf).1.below hb, (h.own f hf).2⟩⟩
theorem OwnFv.lts (h : OwnFv T w base A c l) : ∀ g, some g ∈ [blk A] → g < w.heap.size := fun g hg => by
  have h1 : some g = blk A := by simpa using hg
  exact (h.row.blk_ge g h1.symm).2
theorem OwnFv.app (h : OwnFv T w base A c l) (hf : Own w base 5 f.A f.c f.b) (hof : Off [blk A] (blk f.A)) (ho : OwnS Fv.cells 2 w' base T A' c' (l ++ [f])) (hg : w.grownBy w' (blk A)) (hat : blk A' = blk A ∨ blk A' = some w.heap.size) : OwnFv T w' base A' c' (l ++ [f]) := by
  have hR : ∀ r ∈ ([blk A'] : List (Option Nat)), r ∈ ([blk A] : List (Option Nat)) ∨ r = some w.heap.size := fun r hr => by
    simp only [List.mem_singleton] at hr ⊢
    rcases hat with h1 | h1
    · exact .inl (hr.trans h1)
    · exact .inr (hr.trans h1)
  refine ⟨ho, fun q hq => ?_⟩
  simp only [List.mem_append, List.mem_singleton] at hq
  rcases hq with hq | hq
  · obtain ⟨h1, h2⟩ := h.own q hq
    exact ⟨h1.kept hg (h2.ne (by simp)), h2.new (fun g hg => (h1.blk_ge g hg).2) hR⟩
  · rw [hq]
    exact ⟨hf.kept hg (hof.ne (by simp)), hof.new (fun g hg => (hf.blk_ge g hg).2) hR⟩
theorem OwnFv.rd (h : OwnFv T w base A c l) : RdFv w w.heap.size A l := ⟨h.row.rd, fun f hf => ⟨(h.own f hf).1.rd, (h.own f hf).1.cap, (h.own f hf).1.cap_le⟩⟩
end
theorem off_frs {R : List (Option Nat)} {w : World} {n : Nat} {A B : Option Addr} (h : Off R (blk A)) (hR : ∀ g, some g ∈ R → g < n) (hf : Frs w n A B) : Off R (blk B) := fun g hg hm => by
  rcases hf g hg with h1 | ⟨h1, _⟩
  · exact h g h1 hm
  · have := hR g hm; omega
theorem ownS_cap_le {α : Type} {f : α → List Value} {n base c : Nat} {w : World} {e : TypeId} {A : Option Addr} {l : List α} (h : OwnS f n w base e A c l) : c ≤ 9223372036854775807 := by
  rcases h.2 with ⟨hv, _⟩ | ⟨g, cap, cur, hv, _, _, _, hc, _⟩
  · injection hv with _ _ h3; omega
  · injection hv with _ _ h3; unfold maxLen at hc; omega
theorem off_row {w : World} {n : Nat} {OA OA' B : Option Addr} {r : List UInt8} (h : Off [blk OA] (blk B)) (hat : blk OA' = blk OA ∨ blk OA' = some n) (hr : RdB w w.heap.size B r) (hw : w.heap.size ≤ n) : r ≠ [] → Off [blk OA'] (blk B) := fun hne => by
  refine h.new (n := n) (fun g hg => ?_) (fun x hx => ?_)
  · obtain ⟨ad, e, h1, _⟩ := hr.2 (List.length_pos_iff.2 hne)
    subst e
    have hg' : ad.block = g := by simpa [blk] using hg
    omega
  · simp only [List.mem_singleton] at hx ⊢
    rcases hat with h1 | h1
    · exact .inl (hx.trans h1)
    · exact .inr (hx.trans h1)
theorem rdB_kept {w w' : World} {A : Option Addr} {l : List UInt8} {row : Option Nat} (h : RdB w w.heap.size A l) (hg : w.grownBy w' row) (hne : blk A = none ∨ blk A ≠ row) : RdB w' w'.heap.size A l := by
  refine ⟨h.1, fun hn => ?_⟩
  obtain ⟨ad, e, hb, hc⟩ := h.2 hn
  subst e
  refine ⟨ad, rfl, Nat.lt_of_lt_of_le hb hg.size, fun j u hu => ?_⟩
  rw [World.cell?_of_block (hg.block _ (by rw [block_of_add]; exact hb) (by rw [block_of_add]; exact hne.resolve_left (by simp [blk])))]
  exact hc j u hu
theorem rd_frame_new (T : TypeId) (w : World) (f : Fv) : RdS Fv.cells 2 (w.alloc (.cells #[.int .u8 (f.k.toNat : Int), .slice f.A f.b.length f.c] T)) (w.heap.size + 1) (some ⟨w.heap.size, 0, none⟩) [f] := by
  refine RdS.of (f := Fv.cells) (n := 2) (l := [f]) (fun _ => rfl) _ 0 (by omega) (fun k hk j u hj => ?_)
  obtain rfl : k = 0 := by simp at hk; exact hk
  have hj' : f.cells[j]? = some u := hj
  rw [cell_of_row _ w.heap.size _ _ _ (0, 0) (heap_alloc_new w _)]
  simpa [Fv.cells] using hj'
theorem rd_frame_new2 (T : TypeId) (w : World) (o : Obj) (f : Fv) : RdS Fv.cells 2 ((w.alloc o).alloc (.cells #[.int .u8 (f.k.toNat : Int), .slice f.A f.b.length f.c] T)) (w.heap.size + 2) (some ⟨w.heap.size + 1, 0, none⟩) [f] := by
  have := rd_frame_new T (w.alloc o) f
  simpa using this
theorem below_al2 (w : World) (o p : Obj) : Below w.heap.size w ((w.alloc o).alloc p) := ((Below.refl _ _).alloc (Nat.le_refl _) _).alloc (by simp) _
/-- What was scanned, in memory. -/
def Scanned (w : World) (b : List UInt8) (e : Ending) (w' : World) : Prop := ∃ (l : List Fv) (r : List UInt8) (A : Option Addr) (c : Nat), Frm.Scans b (l.map Fv.pr) r ∧ Frm.take r = none ∧
  e = .returned (.tuple #[.slice A l.length c, .int .i64 ((b.length : Int) - (r.length : Int))]) ∧ RdFv w' w'.heap.size A l ∧ l.length ≤ c ∧ c ≤ 9223372036854775807 ∧ Below w.heap.size w w'
end Go.Proofs.YtgafionfojnieaaDoor

namespace Go.Proofs.YtgafionfojnieaaDoor
open Go.RowKit Go.Shelf

attribute [local go_sem] Oper.semAt_some

/-- One that is yielded: a frame, and how many bytes are left behind it. -/
structure Fx where
  f : Fv
  n : Nat
def Fx.encs (x : Fx) : Array Value := #[.agg #[.int .u8 (x.f.k.toNat : Int), .slice x.f.A x.f.b.length x.f.c], .int .i64 (x.n : Int)]
/-- What a body keeps: what lies below base, and rows of bytes, boxes of slices of bytes. -/
structure KpF (base : Nat) (W W' : World) : Prop where
  size : W.heap.size ≤ W'.heap.size
  low : ∀ k, k < base → k < W.heap.size → W'.heap[k]? = W.heap[k]?
  tag : ∀ (k : Nat) (cs : Array Value) (T : TypeId) (fr : Nat × Nat), T = 5 ∨ T = 25 → W.heap[k]? = some (.cells cs T fr) → W'.heap[k]? = some (.cells cs T fr)
theorem KpF.trans {base : Nat} {A B C : World} (h : KpF base A B) (h2 : KpF base B C) : KpF base A C :=
  ⟨Nat.le_trans h.size h2.size, fun k hk hz => (h2.low k hk (Nat.lt_of_lt_of_le hz h.size)).trans (h.low k hk hz), fun k cs T fr ht hk => h2.tag k cs T fr ht (h.tag k cs T fr ht hk)⟩
/-- Bytes that are read: below base, or in a row of bytes. -/
structure HBs (w : World) (base : Nat) (B : Option Addr) (r : List UInt8) : Prop where
  rd : RdB w w.heap.size B r
  at_ : r ≠ [] → ∀ g, blk B = some g → g < base ∨ ∃ cs fr, w.heap[g]? = some (.cells cs 5 fr)
theorem HBs.keep {w w' : World} {base : Nat} {B : Option Addr} {r : List UInt8} (h : HBs w base B r) (hz : w.heap.size ≤ w'.heap.size) (hk : r ≠ [] → ∀ g, blk B = some g → g < w.heap.size → w'.heap[g]? = w.heap[g]?) : HBs w' base B r := by
  by_cases hr : r = []
  · subst hr; exact ⟨RdB.nil, fun h => absurd rfl h⟩
  · obtain ⟨ad, e, hlt, hc⟩ := h.rd.2 (List.length_pos_iff.2 hr)
    have hb := hk hr ad.block (by rw [e]; rfl) hlt
    refine ⟨⟨h.rd.1, fun _ => ⟨ad, e, Nat.lt_of_lt_of_le hlt hz, fun j u hu => ?_⟩⟩, fun _ g hg => ?_⟩
    · have h1 : w'.cell? (ad.add j) = w.cell? (ad.add j) := World.cell?_of_block (by rw [block_of_add]; exact hb)
      rw [h1]; exact hc j u hu
    · have hg' : ad.block = g := by rw [e] at hg; simpa [blk] using hg
      subst hg'
      rcases h.at_ hr ad.block (by rw [e]; rfl) with h1 | ⟨cs, fr, h1⟩
      · exact .inl h1
      · exact .inr ⟨cs, fr, hb.trans h1⟩
theorem HBs.below {w w' : World} {base : Nat} {B : Option Addr} {r : List UInt8} (h : HBs w base B r) (hb : Below w.heap.size w w') : HBs w' base B r := h.keep hb.size (fun _ g _ hlt => hb.block g hlt)
theorem HBs.kp {w w' : World} {base : Nat} {B : Option Addr} {r : List UInt8} (h : HBs w base B r) (hk : KpF base w w') : HBs w' base B r := h.keep hk.size (fun hr g hg hz => by
  rcases h.at_ hr g hg with h1 | ⟨cs, fr, h1⟩
  · exact hk.low g h1 hz
  · rw [h1]; exact hk.tag g cs _ fr (.inl rfl) h1)
theorem HBs.set {w : World} {base b0 : Nat} {B : Option Addr} {r : List UInt8} {v u : Value} (h : HBs w base B r) (hb : base ≤ b0) (hbox : w.heap[b0]? = some (.cells #[v] 25)) : HBs (w.setCell ⟨b0, 0, none⟩ u) base B r := h.keep (by simp) (fun hr g hg _ => by
  refine Below.heap_setCell _ _ _ _ (fun e => ?_)
  simp only at e
  subst e
  rcases h.at_ hr _ hg with h1 | ⟨cs, fr, h1⟩
  · omega
  · rw [hbox] at h1; injection h1 with h1; injection h1 with _ h2; exact absurd h2 (by decide))
theorem HBs.frs {w w' : World} {base n : Nat} {A B : Option Addr} {r r' : List UInt8} (h : HBs w base A r) (hr : r ≠ []) (hb : Below w.heap.size w w') (hf : Frs w' n A B) (hr' : RdB w' w'.heap.size B r') : HBs w' base B r' :=
  ⟨hr', fun _ g hg => by
    rcases hf g hg with h1 | ⟨_, h1⟩
    · exact (h.below hb).at_ hr g h1
    · exact .inr h1⟩
/-- How many bytes are left. -/
def lastN (b : List UInt8) (ys : List Fx) : Nat := (ys.getLast?.map Fx.n).getD b.length
theorem lastN_snoc (b : List UInt8) (ys : List Fx) (x : Fx) : lastN b (ys ++ [x]) = x.n := by simp [lastN]
def Fx.pr (x : Fx) : UInt8 × List UInt8 := x.f.pr
def ScanS (b : List UInt8) (ys : List Fx) : Prop := ∃ r, Frm.Scans b (ys.map Fx.pr) r ∧ Frm.take r = none ∧ lastN b ys = r.length
def boxLen (b0 : Nat) (w : World) : Nat := match w.cell? ⟨b0, 0, none⟩ with | some (.slice _ n _) => n | _ => 0
set_option maxHeartbeats 2000000 in
set_option maxRecDepth 100000 in
theorem frames1_in (l b0 base : Nat) (b : List UInt8) (hbl : b.length ≤ 1000000000) (A : Option Addr) (c : Nat) (hbase : base ≤ b0) (J Jx : List Fx → World → Prop) (hJ : AbO (fun r => r = b0) J)
    (hY : ∀ pre x W1, J pre W1 → (Own W1 base 5 x.f.A x.f.c x.f.b ∧ blk x.f.A ≠ some b0) → pre.length < b.length + 1 → YieldAt Fence.wide 3 Tryd.prog l x.encs W1 fun e W' => (e = .returned (.bool true) ∧ J (pre ++ [x]) W' ∧ KpF base W1 W') ∨ (e = .returned (.bool false) ∧ Jx (pre ++ [x]) W'))
    (W : World) (hbox : W.heap[b0]? = some (.cells #[.slice A b.length c] 25)) (hh : HBs W base A b) (hc : b.length ≤ c) (hcc : c ≤ 9223372036854775807) (h0 : J [] W) :
    CallsIn Fence.wide 4 Tryd.prog 75 #[.func (.yield l) #[] #[], .pointer (some ⟨b0, 0, none⟩)] W fun e W' => (∃ v, e = .returned v) ∧
      ((∃ ys, ScanS b ys ∧ J ys W') ∨ (∃ pre, True ∧ Jx pre W')) := by
  have HX := Lib.hid hbox
  have HH := Lib.hid hh
  have HY := Lib.hid hY
  have HJ0 := Lib.hid h0
  clear hbox hh hY h0
  refine callsIn_of_wp Tryd.func75 rfl trivial ?_ rfl
  simp only [Tryd.ntmps75, List.size_toArray, List.length_cons, List.length_nil, Nat.reduceAdd, Nat.reduceSub, Array.replicate_succ, Array.replicate_zero, List.push_toArray, List.append_toArray, List.nil_append, List.cons_append]
  gi_wp2
  gi_loopw [4] (fun _ wr => ∃ (pre : List Fx) (B : Option Addr) (d : Nat) (r : List UInt8), r.length ≤ d ∧ d ≤ 9223372036854775807 ∧ Hid (wr.heap[b0]? = some (.cells #[.slice B r.length d] 25)) ∧ Hid (Frm.Scans b (pre.map Fx.pr) r ∧ lastN b pre = r.length) ∧ Hid (J pre wr) ∧ Hid (HBs wr base B r)) (fun _ wr => boxLen b0 wr)
  case atStart => exact ⟨[], A, c, b, hc, hcc, HX, Lib.hid ⟨Frm.Scans.nil b, rfl⟩, HJ0, HH⟩
  case round =>
    obtain ⟨pre, B, d, r, hrd, hdd, HBX, HS, HJ, HB⟩ := hrel
    have q0 := box_cell HBX.out
    have hlen := HS.out.1.len
    rw [List.length_map] at hlen
    have KT := ftake_any B d r wr HB.out.rd (by omega) hrd hdd
    have hbz : b0 < wr.heap.size := (Array.getElem?_eq_some_iff.1 HBX.out).1
    cases ht : Frm.take r with
    | none =>
      rw [ht] at KT
      have HK := Lib.hid KT
      have HT := Lib.hid ht
      clear KT ht
      gi_wp2_with fail
      refine ⟨trivial, ?_⟩
      refine (callsIn_wide.2 HK.out).mono ?_
      rintro e w1 ⟨hb1, rfl⟩
      have HJ1 := Lib.hid (hJ _ _ _ none HJ.out (grown_of_below hb1) (fun r e => by cases e))
      clear hb1
      gi_wp2_with fail
      refine ⟨fun f hf => (by cases hf), ?_⟩
      have HJ2 := Lib.hid (hJ.alloc HJ1.out (.cells #[.int .u8 0, .slice none 0 0] 73))
      gi_wp2_with fail
      refine bodyPost_ret (results_none rfl _ _ _) rfl ?_
      exact ⟨⟨_, rfl⟩, .inl ⟨pre, ⟨r, HS.out.1, HT.out, HS.out.2⟩, HJ2.out⟩⟩
    | some v =>
      obtain ⟨k, t, r'⟩ := v
      rw [ht] at KT
      have HK := Lib.hid KT
      have HT := Lib.hid ht
      clear KT ht
      gi_wp2_with fail
      refine ⟨trivial, ?_⟩
      refine (callsIn_wide.2 HK.out).mono ?_
      have ht2 := HT.out
      rintro e w1 ⟨hb1, A1, c1, B1, d1, rfl, ho1, hr1, hd1, hdd1, hf1⟩
      obtain ⟨W1, hW1⟩ : ∃ W1, W1 = w1.alloc (.cells #[.int .u8 (k.toNat : Int), .slice A1 t.length c1] 73) := ⟨_, rfl⟩
      have hba : Below w1.heap.size w1 W1 := by rw [hW1]; exact (Below.refl _ _).alloc (Nat.le_refl _) _
      have hbW : Below wr.heap.size wr W1 := hb1.trans (hba.mono hb1.size)
      have HJ1 := Lib.hid (hJ _ _ _ none HJ.out (grown_of_below hbW) (fun r e => by cases e))
      have HB1 := Lib.hid ((HB.out.frs (fun e => by rw [e] at ht2; cases ht2) hb1 hf1 hr1).below hba)
      have HBX1 : Hid (W1.heap[b0]? = some (.cells #[.slice B r.length d] 25)) := Lib.hid ((hbW.block _ hbz).trans HBX.out)
      have HS1 := Lib.hid (HS.out.1.step HT.out)
      obtain ⟨x, hx⟩ : ∃ x : Fx, x = ⟨⟨k, A1, c1, t⟩, r'.length⟩ := ⟨_, rfl⟩
      obtain ⟨fn, tmps, assign, body, hy, hR⟩ := HY.out pre x W1 HJ1.out (by rw [hx]; exact ⟨(ho1.mono (by omega)).below hba, fun e => by have := (ho1.blk_ge _ e).1; omega⟩) (by omega)
      have HXE := Lib.hid hx
      have hen : x.encs = #[.agg #[.int .u8 (k.toNat : Int), .slice A1 t.length c1], .int .i64 (r'.length : Int)] := by rw [hx]; rfl
      rw [hen] at hy
      have HR := Lib.hid hR
      clear hR hx hen hb1 ho1 hr1 hf1 hba hbW ht2
      subst hW1
      gi_wp2_with fail
      refine HR.out.mono ?_
      rintro e W3 (⟨rfl, hJ3, hk3⟩ | ⟨rfl, hJx3⟩)
      · have HB3 := Lib.hid (HB1.out.kp hk3)
        have hbx3 := hk3.tag b0 _ _ _ (.inr rfl) HBX1.out
        have HBX3 := Lib.hid hbx3
        have t1 := box_cell hbx3
        have tf := box_frozen hbx3
        have HJ3 := Lib.hid hJ3
        clear hk3 hJ3 hbx3 q0 hy
        gi_wp2_with fail
        have HBX4 : Hid ((W3.setCell ⟨b0, 0, none⟩ (.slice B1 r'.length d1)).heap[b0]? = some (.cells #[.slice B1 r'.length d1] 25)) := Lib.hid (box_set HBX3.out _)
        refine ⟨⟨pre ++ [x], B1, d1, r', hd1, hdd1, HBX4, Lib.hid ⟨?_, ?_⟩, Lib.hid (hJ.setCell HJ3.out _ _ rfl), Lib.hid (HB3.out.set hbase HBX3.out)⟩, ?_⟩
        · rw [List.map_append]
          have e1 : [x].map Fx.pr = [(k, t)] := by rw [HXE.out]; rfl
          rw [e1]; exact HS1.out
        · rw [lastN_snoc, HXE.out]
        · have e1 : boxLen b0 (W3.setCell ⟨b0, 0, none⟩ (.slice B1 r'.length d1)) = r'.length := by unfold boxLen; rw [box_cell HBX4.out]
          have e2 : boxLen b0 wr = r.length := by unfold boxLen; rw [box_cell HBX.out]
          rw [e1, e2]
          have h1 := (Frm.of_take HT.out).1
          have h2 := Frm.put_pos k t
          rw [h1, List.length_append]; omega
      · have HJX : Hid (Jx (pre ++ [x]) W3) := Lib.hid hJx3
        clear hJx3 hy q0
        gi_wp2_with fail
        refine bodyPost_ret (results_none rfl _ _ _) rfl ?_
        exact ⟨⟨_, rfl⟩, .inr ⟨_, trivial, HJX.out⟩⟩
end Go.Proofs.YtgafionfojnieaaDoor

namespace Go.Proofs.YtgafionfojnieaaDoor
open Go.RowKit Go.Shelf

attribute [local go_sem] Oper.semAt_some

/-- append of a row of structs, inside a fence. -/
theorem wpListIn_append_s {F : Fence} {fn : Nat} {P : Program} {t e : TypeId} {α : Type} {f : α → List Value} {n bytes : Nat} {z : Value} (w : World) {ops : Array Oper} {rest : List Oper} {o : Oper} {a : Act} {Q : Exit → Act → World → Prop} (hgd : o.guard = none) (s x : Operand) (T : RT P t e f n bytes z)
    (ho : o.op = .call { callee := .builtin .append, args := #[s, x], argTypes := #[t, t] })
    (base : Nat) (A : Option Addr) (c : Nat) (l : List α) (hs : a.eval s = .slice A l.length c) (hown : OwnS f n w base e A c l)
    (B : Nat) (A2 : Option Addr) (m c2 : Nat) (l2 : List α) (hx : a.eval x = .slice A2 m c2) (hm : m = l2.length) (hr : RdS f n w B A2 l2) (hlen : (l.length + l2.length) * bytes ≤ 140737488355328) (hl2 : l.length + l2.length ≤ maxLen) (hbase : base ≤ w.heap.size)
    (h : ∀ A' c' L w', L = l ++ l2 → OwnS f n w' base e A' c' L → w.grownBy w' (blk A) → (blk A' = blk A ∨ blk A' = some w.heap.size) → wpListIn F fn P ops Q rest (a.put o.dst (.slice A' L.length c')) w') : wpListIn F fn P ops Q (o :: rest) a w := by
  refine wpListIn_plain hgd fun K hK' => ?_
  obtain ⟨A', c', w', hrun, h2, h3, h4⟩ := run_append_s (P := P) w T o.type base A c l hown B A2 m c2 l2 hm hr hlen hl2 hbase
  unfold Oper.wpIn
  refine ⟨?_, ?_⟩
  · simp [Oper.about, ho, resolve, Target.leads, Sem.run_pure]
  · rw [Oper.semAt_plain F _ _ (by rw [ho]; intro c hc'; cases hc')]
    simp [execOp, ho, resolve, invoke, builtin, hs, hx, hrun, Result.andThen]
    have h9 := h A' c' _ w' rfl h2 h3 h4
    rw [List.length_append] at h9
    exact hK' _ _ h9
theorem frames_any (A : Option Addr) (n c : Nat) (w : World) :
    Calls Tryd.prog 60 #[.slice A n c] w fun e w' => e = .returned (.func (.func 75) #[] #[.pointer (some ⟨w.heap.size, 0, none⟩)]) ∧ w' = w.alloc (.cells #[.slice A n c] 25) := by
  go_enter Tryd.func60, Tryd.ntmps60
  go_wp2_with fail
  go_ret
  exact ⟨rfl, rfl⟩
/-- What lies in a round of the range. -/
structure SI (w : World) (b : List UInt8) (pre : List Fx) (W : World) : Prop where
  ex : ∃ OA OC, W.heap[w.heap.size]? = some (.cells #[.slice OA pre.length OC] 70) ∧ OwnFv 73 W w.heap.size OA OC (pre.map Fx.f) ∧ blk OA ≠ some (w.heap.size + 2)
  bx : W.heap[w.heap.size + 1]? = some (.cells #[.int .i64 (lastN b pre : Int)] 3)
  off : ∀ x ∈ pre, blk x.f.A ≠ some (w.heap.size + 2)
  below : Below w.heap.size w W
  lt : w.heap.size + 2 < W.heap.size
theorem tag_ne {W : World} {k r : Nat} {cs : Array Value} {T : TypeId} {fr : Nat × Nat} {o : Obj} (h : W.heap[k]? = some (.cells cs T fr)) (hr : W.heap[r]? = some o) (ho : o.isCells = false) : k ≠ r := fun e => by
  subst e; rw [h] at hr; injection hr with hr; subst hr; cases ho
theorem SI.grown {w W W' : World} {b : List UInt8} {pre : List Fx} {row : Option Nat} (h : SI w b pre W) (hg : W.grownBy W' row) (hr : ∀ r, row = some r → r = w.heap.size + 2 ∨ (w.heap.size ≤ r ∧ ∃ o : Obj, W.heap[r]? = some o ∧ o.isCells = false)) : SI w b pre W' := by
  obtain ⟨OA, OC, e1, e2, e3⟩ := h.ex
  have keep : ∀ k cs T fr, k ≠ w.heap.size + 2 → W.heap[k]? = some (.cells cs T fr) → some k ≠ row := fun k cs T fr hk hc e => by
    rcases hr k e.symm with h1 | ⟨_, o, h1, h2⟩
    · exact hk h1
    · exact tag_ne hc h1 h2 rfl
  have blks : ∀ {T : TypeId} {A : Option Addr} {c : Nat} {l : List UInt8}, Own W w.heap.size T A c l → blk A ≠ some (w.heap.size + 2) → blk A = none ∨ blk A ≠ row := fun {T A c l} ho hn => by
    rcases hA : blk A with _ | g
    · exact .inl rfl
    · obtain ⟨_, cs, fr, hc⟩ := own_tag ho hA
      exact .inr (keep g cs _ fr (fun e => hn (by rw [hA, e])) hc)
  have hlt1 : w.heap.size < W.heap.size := by have := h.lt; omega
  refine ⟨⟨OA, OC, (hg.block _ hlt1 (keep _ _ _ _ (by omega) e1)).trans e1, ⟨?_, fun f hf => ?_⟩, e3⟩, (hg.block _ (by have := h.lt; omega) (keep _ _ _ _ (by omega) h.bx)).trans h.bx, h.off, h.below.grown hg (by omega) (fun r e => by
    rcases hr r e with h1 | ⟨h1, _⟩ <;> omega), Nat.lt_of_lt_of_le h.lt hg.size⟩
  · refine e2.row.kept hg ?_
    rcases hA : blk OA with _ | g
    · exact .inl rfl
    · refine .inr ?_
      rcases e2.row.2 with ⟨hv, _⟩ | ⟨g', cap, cur, hv, _, hh, _⟩
      · injection hv with hv; subst hv; cases hA
      · injection hv with hv
        subst hv
        injection hA with hA
        subst hA
        exact keep _ _ _ _ (fun e => e3 (by rw [← e]; rfl)) hh
  · obtain ⟨x, hx, rfl⟩ := List.mem_map.1 hf
    obtain ⟨h1, h2⟩ := e2.own _ hf
    exact ⟨h1.kept hg (blks h1 (h.off x hx)), h2⟩
theorem ownS_tag {α : Type} {f : α → List Value} {n base c g : Nat} {w : World} {e : TypeId} {A : Option Addr} {l : List α} (h : OwnS f n w base e A c l) (hg : blk A = some g) : base ≤ g ∧ ∃ cs fr, w.heap[g]? = some (.cells cs e fr) := by
  refine ⟨(h.blk_ge g hg).1, ?_⟩
  rcases h.2 with ⟨hv, _⟩ | ⟨g', cap, cur, hv, _, hh, _⟩
  · injection hv with hv; subst hv; cases hg
  · injection hv with hv
    subst hv
    injection hg with hg
    subst hg
    exact ⟨_, _, hh⟩
theorem tag_ne2 {W : World} {k r : Nat} {cs cs' : Array Value} {T T' : TypeId} {fr fr' : Nat × Nat} (h : W.heap[k]? = some (.cells cs T fr)) (hr : W.heap[r]? = some (.cells cs' T' fr')) (hT : T ≠ T') : k ≠ r := fun e => by
  subst e; rw [h] at hr; injection hr with hr; injection hr with _ h2; exact hT h2
def SG (w : World) (x : Fx) (W : World) : Prop := Own W w.heap.size 5 x.f.A x.f.c x.f.b ∧ blk x.f.A ≠ some (w.heap.size + 2)
theorem SI.x01 {w W w9 : World} {b : List UInt8} {pre : List Fx} {OA : Option Addr} {OC : Nat} {o : Obj} (h : SI w b pre W)
    (e1 : W.heap[w.heap.size]? = some (.cells #[.slice OA pre.length OC] 70)) (e2 : OwnFv 73 W w.heap.size OA OC (pre.map Fx.f))
    (hg : (W.alloc o).grownBy w9 (blk OA)) : w9.heap[w.heap.size]? = some (.cells #[.slice OA pre.length OC] 70) ∧ w9.heap[w.heap.size + 1]? = some (.cells #[.int .i64 (lastN b pre : Int)] 3) := by
  have hlt := h.lt
  have k9 : ∀ k, k < W.heap.size → blk OA ≠ some k → w9.heap[k]? = W.heap[k]? := fun k hk hn => (hg.block k (by simp; omega) (fun e => hn e.symm)).trans (heap_alloc_old W o hk)
  have nA0 : blk OA ≠ some w.heap.size := fun e => by
    obtain ⟨_, cs, fr, h1⟩ := ownS_tag e2.row e
    exact tag_ne2 h1 e1 (by decide) rfl
  have nA1 : blk OA ≠ some (w.heap.size + 1) := fun e => by
    obtain ⟨_, cs, fr, h1⟩ := ownS_tag e2.row e
    exact tag_ne2 h1 h.bx (by decide) rfl
  exact ⟨(k9 _ (by omega) nA0).trans e1, (k9 _ (by omega) nA1).trans h.bx⟩
theorem SI.step {w W w9 : World} {b : List UInt8} {pre : List Fx} {x : Fx} {OA OA' : Option Addr} {OC OC' : Nat} {o : Obj} (B : Nat) (h : SI w b pre W) (hx : SG w x W)
    (e1 : W.heap[w.heap.size]? = some (.cells #[.slice OA pre.length OC] 70)) (e2 : OwnFv 73 W w.heap.size OA OC (pre.map Fx.f)) (e3 : blk OA ≠ some (w.heap.size + 2))
    (hg : (W.alloc o).grownBy w9 (blk OA)) (hat : blk OA' = blk OA ∨ blk OA' = some (W.heap.size + 1)) (ho : OwnS Fv.cells 2 w9 w.heap.size 73 OA' OC' (pre.map Fx.f ++ [x.f])) :
    KeepsFrom B W ((w9.setCell ⟨w.heap.size, 0, none⟩ (.slice OA' (pre.length + 1) OC')).setCell ⟨w.heap.size + 1, 0, none⟩ (.int .i64 (x.n : Int))) ∧ KpF w.heap.size W ((w9.setCell ⟨w.heap.size, 0, none⟩ (.slice OA' (pre.length + 1) OC')).setCell ⟨w.heap.size + 1, 0, none⟩ (.int .i64 (x.n : Int))) ∧
    SI w b (pre ++ [x]) ((w9.setCell ⟨w.heap.size, 0, none⟩ (.slice OA' (pre.length + 1) OC')).setCell ⟨w.heap.size + 1, 0, none⟩ (.int .i64 (x.n : Int))) := by
  have hz : W.heap.size + 1 ≤ w9.heap.size := by have := hg.size; simpa using this
  have hlt := h.lt
  have k9 : ∀ k, k < W.heap.size → blk OA ≠ some k → w9.heap[k]? = W.heap[k]? := fun k hk hn => (hg.block k (by simp; omega) (fun e => hn e.symm)).trans (heap_alloc_old W o hk)
  have kS : ∀ k, k ≠ w.heap.size → k ≠ w.heap.size + 1 → ((w9.setCell ⟨w.heap.size, 0, none⟩ (.slice OA' (pre.length + 1) OC')).setCell ⟨w.heap.size + 1, 0, none⟩ (.int .i64 (x.n : Int))).heap[k]? = w9.heap[k]? := fun k h1 h2 => by
    rw [Below.heap_setCell _ _ _ _ h2, Below.heap_setCell _ _ _ _ h1]
  have hA : ∀ g, blk OA = some g → w.heap.size ≤ g ∧ ∃ cs fr, W.heap[g]? = some (.cells cs 73 fr) := fun g hg => ownS_tag e2.row hg
  have nA0 : blk OA ≠ some w.heap.size := fun e => by
    obtain ⟨_, cs, fr, h1⟩ := hA _ e
    exact tag_ne2 h1 e1 (by decide) rfl
  have nA1 : blk OA ≠ some (w.heap.size + 1) := fun e => by
    obtain ⟨_, cs, fr, h1⟩ := hA _ e
    exact tag_ne2 h1 h.bx (by decide) rfl
  have x0 := (k9 _ (by omega) nA0).trans e1
  have x1 := (k9 _ (by omega) nA1).trans h.bx
  have hAl : OwnFv 73 (W.alloc o) w.heap.size OA OC (pre.map Fx.f) := e2.call ((Below.refl _ _).alloc (Nat.le_refl _) _)
  have hxo : Own (W.alloc o) w.heap.size 5 x.f.A x.f.c x.f.b := hx.1.alloc o
  have hxf : Off [blk OA] (blk x.f.A) := fun g h1 h2 => by
    have h3 : some g = blk OA := by simpa using h2
    obtain ⟨_, cs, fr, h4⟩ := own_tag hx.1 h1
    obtain ⟨_, cs', fr', h5⟩ := hA g h3.symm
    exact tag_ne2 h4 h5 (by decide) rfl
  have h9 := hAl.app (f := x.f) hxo hxf ho hg (by simpa using hat)
  refine ⟨⟨by simp; omega, fun k ob hk hkk hob => ?_⟩, ⟨by simp; omega, fun k hk hkz => ?_, fun k cs T fr hT hk => ?_⟩, ⟨⟨OA', OC', ?_, ⟨?_, fun f hf => ?_⟩, ?_⟩, ?_, fun y hy => ?_, ?_, ?_⟩⟩
  · have hkl := (Array.getElem?_eq_some_iff.1 hkk).1
    have n0 := (tag_ne e1 hkk hob).symm
    have n1 := (tag_ne h.bx hkk hob).symm
    have n2 : blk OA ≠ some k := fun e => by
      obtain ⟨_, cs, fr, h1⟩ := hA _ e
      exact tag_ne h1 hkk hob rfl
    rw [kS k n0 n1, k9 k hkl n2]; exact hkk
  · have n2 : blk OA ≠ some k := fun e => by have := (hA _ e).1; omega
    rw [kS k (by omega) (by omega), k9 k hkz n2]
  · have hkl := (Array.getElem?_eq_some_iff.1 hk).1
    have d0 : T ≠ 70 := by rcases hT with e | e <;> (rw [e]; decide)
    have d1 : T ≠ 3 := by rcases hT with e | e <;> (rw [e]; decide)
    have d2 : T ≠ 73 := by rcases hT with e | e <;> (rw [e]; decide)
    have n2 : blk OA ≠ some k := fun e => by
      obtain ⟨_, cs, fr, h1⟩ := hA _ e
      exact tag_ne2 hk h1 d2 rfl
    rw [kS k (tag_ne2 hk e1 d0) (tag_ne2 hk h.bx d1), k9 k hkl n2]; exact hk
  · rw [box_set_other (by omega), List.length_append]; exact box_set x0 _
  · rw [List.map_append]
    refine h9.row.keep (fun g hg => ?_)
    obtain ⟨_, cs, fr, h1⟩ := ownS_tag h9.row hg
    exact kS g (tag_ne2 h1 x0 (by decide)) (tag_ne2 h1 x1 (by decide))
  · rw [List.map_append] at hf
    obtain ⟨h1, h2⟩ := h9.own f hf
    refine ⟨own_keep2 h1 (fun g hg => ?_), h2⟩
    obtain ⟨_, cs, fr, h3⟩ := own_tag h1 hg
    exact kS g (tag_ne2 h3 x0 (by decide)) (tag_ne2 h3 x1 (by decide))
  · rcases hat with h1 | h1
    · rw [h1]; exact e3
    · rw [h1]; intro e; injection e with e; omega
  · rw [lastN_snoc]
    refine box_set (v := .int .i64 (lastN b pre : Int)) ?_ _
    rw [box_set_other (by omega)]; exact x1
  · simp only [List.mem_append, List.mem_singleton] at hy
    rcases hy with hy | hy
    · exact h.off y hy
    · rw [hy]; exact hx.2
  · exact (((h.below.alloc (by omega) o).grown hg (by simp; omega) (fun g hg => (hA g hg).1)).setCell (by simp) _).setCell (by simp) _
  · simp; omega
set_option maxHeartbeats 2000000 in
set_option maxRecDepth 100000 in
theorem scan_any (A : Option Addr) (c : Nat) (b : List UInt8) (w : World) (h : RdB w w.heap.size A b) (hl : b.length ≤ 1000000000) (hc : b.length ≤ c) (hcc : c ≤ 9223372036854775807) :
    Calls Tryd.prog 33 #[.slice A b.length c] w (Scanned w b) := by
  have HH := Lib.hid h
  clear h
  refine (callsIn_wide (n := 5)).1 ?_
  refine callsIn_of_wp_marks Tryd.func33 rfl trivial ?_ rfl
  simp only [Tryd.ntmps33, List.size_toArray, List.length_cons, List.length_nil, Nat.reduceAdd, Nat.reduceSub, Array.replicate_succ, Array.replicate_zero, List.push_toArray, List.append_toArray, List.nil_append, List.cons_append]
  gi_wp2_with fail
  refine ⟨trivial, ?_⟩
  refine (callsIn_wide.2 (frames_any A b.length c _)).mono ?_
  rintro e wL ⟨rfl, hwL⟩
  have z1 : ((w.alloc (.cells #[.slice none 0 0] 70)).alloc (.cells #[.int .i64 (b.length : Int)] 3)).heap.size = w.heap.size + 2 := by simp
  have y0 : wL.heap[w.heap.size]? = some (.cells #[.slice none 0 0] 70) := by
    rw [hwL, heap_alloc_old _ _ (by simp; omega), heap_alloc_old _ _ (by simp)]; exact heap_alloc_new w _
  have y1 : wL.heap[w.heap.size + 1]? = some (.cells #[.int .i64 (b.length : Int)] 3) := by
    rw [hwL, heap_alloc_old _ _ (by simp)]
    have := heap_alloc_new (w.alloc (.cells #[.slice none 0 0] 70)) (.cells #[.int .i64 (b.length : Int)] 3)
    simpa using this
  have y2 : wL.heap[w.heap.size + 2]? = some (.cells #[.slice A b.length c] 25) := by
    rw [hwL]
    have := heap_alloc_new ((w.alloc (.cells #[.slice none 0 0] 70)).alloc (.cells #[.int .i64 (b.length : Int)] 3)) (.cells #[.slice A b.length c] 25)
    rwa [z1] at this
  have hbl : Below w.heap.size w wL := by rw [hwL]; exact (((Below.refl _ _).alloc (Nat.le_refl _) _).alloc (by simp) _).alloc (by simp; omega) _
  have hzl : wL.heap.size = w.heap.size + 3 := by rw [hwL]; simp
  have HSI : Hid (SI w b [] wL) := Lib.hid ⟨⟨none, 0, y0, OwnFv.nil, by simp [blk]⟩, y1, fun x hx => (by cases hx), hbl, by omega⟩
  have HHB : Hid (∀ W, Below wL.heap.size wL W → HBs W w.heap.size A b) := Lib.hid (fun W hW => by
    have h0 : HBs wL w.heap.size A b := ⟨(HH.out.below hbl (Nat.le_refl _)).more hbl.size, fun hb g hg => by
      obtain ⟨ad, e, h1, _⟩ := HH.out.2 (List.length_pos_iff.2 hb)
      rw [e] at hg
      have : ad.block = g := by simpa [blk] using hg
      exact .inl (by omega)⟩
    exact h0.below hW)
  have HY2 := Lib.hid y2
  have HZL := Lib.hid hzl
  rw [z1]
  clear y0 y1 y2 hbl hzl z1 hwL
  have HSEQ : Hid (SeqG (fun r => r = w.heap.size + 2) Fence.wide 4 Tryd.prog 75 #[.pointer (some ⟨w.heap.size + 2, 0, none⟩)] Fx.encs (SG w) (KpF w.heap.size) (ScanS b) (fun _ => True) (b.length + 1) wL) := Lib.hid (fun L J Jx W hW hJ hJx hY h0 =>
    frames1_in L (w.heap.size + 2) w.heap.size b hl A c (by omega) J Jx hJ hY W ((hW.block _ (by have := HZL.out; omega)).trans HY2.out) (HHB.out W hW) hc hcc h0)
  have HI1 : Hid (OwnFrom wL.heap.size (SI w b)) := Lib.hid (fun s A B row hs hg hr => SI.grown hs hg (fun r e => .inr ⟨by have := (hr r e).1; have := HZL.out; omega, (hr r e).2⟩))
  have HI2 : Hid (AbO (fun r => r = w.heap.size + 2) (SI w b)) := Lib.hid (fun s A B row hs hg hr => SI.grown hs hg (fun r e => .inl (hr r e)))
  have HG1 : Hid (OwnFrom wL.heap.size (SG w)) := Lib.hid (fun x A B row hs hg hr => by
    refine ⟨hs.1.kept hg ?_, hs.2⟩
    rcases hA : blk x.f.A with _ | g
    · exact .inl rfl
    · obtain ⟨_, cs, fr, hc⟩ := own_tag hs.1 hA
      refine .inr (fun e => ?_)
      obtain ⟨_, o, h1, h2⟩ := hr g e.symm
      exact tag_ne hc h1 h2 rfl)
  have HKA : Hid (∀ (x : Fx) (W : World), KpF w.heap.size W (W.alloc (.cells #[.int .u8 (x.f.k.toNat : Int), .slice x.f.A x.f.b.length x.f.c] 73))) := Lib.hid (fun x W => ⟨by simp, fun k hk hz => heap_alloc_old W _ hz, fun k cs T fr _ h => (heap_alloc_old W _ (Array.getElem?_eq_some_iff.1 h).1).trans h⟩)
  have HKB : Hid (∀ (W : World) (l : Nat) (o o' : Obj), wL.heap.size ≤ l → W.heap[l]? = some o → o.isCells = false → KpF w.heap.size W (W.putObj l o')) := Lib.hid (fun W l o o' h1 h2 h3 => ⟨by simp [World.putObj], fun k hk _ => World.putObj_heap_other (by have := HZL.out; omega), fun k cs T fr _ h => (World.putObj_heap_other (tag_ne h h2 h3)).trans h⟩)
  gi_wp2_with fail
  refine rangeFunc_g (own := fun r => r = w.heap.size + 2) rfl (by decide) (gf := 75) (lb := #[.pointer (some ⟨w.heap.size + 2, 0, none⟩)]) rfl trivial (enters_of Tryd.func75 (by kernel_rfl) rfl)
    HSEQ.out (fun r e => by rw [e]; have := HZL.out; omega) KpF.trans HG1.out HKB.out (fun _ => rfl) (SI w b) (fun _ _ _ => False) HI1.out (fun _ _ _ _ _ hs _ _ => hs) HI2.out (fun _ _ _ _ _ hs _ _ => hs) HSI.out
    (fun x W0 => { tmps := #[.slice A b.length c, undef, .slice none 0 0, .int .i64 0, .pointer (some ⟨w.heap.size, 0, none⟩), .pointer (some ⟨w.heap.size + 1, 0, none⟩), .pointer (some ⟨W0.heap.size, 0, none⟩), .int .i64 (x.n : Int), .slice A b.length c, .int .i64 (b.length : Int), .slice A b.length c, .func (.func 75) #[] #[.pointer (some ⟨w.heap.size + 2, 0, none⟩)], .agg #[.int .u8 (x.f.k.toNat : Int), .slice x.f.A x.f.b.length x.f.c], .int .i64 (x.n : Int), undef, undef, undef, undef, undef, undef, undef, undef, undef, undef], defers := [] })
    (fun x W => W.alloc (.cells #[.int .u8 (x.f.k.toNat : Int), .slice x.f.A x.f.b.length x.f.c] 73)) (fun x W => World.grownBy_alloc W _ none) HKA.out
    (fun x W0 W => W.heap[W0.heap.size]? = some (.cells #[.int .u8 (x.f.k.toNat : Int), .slice x.f.A x.f.b.length x.f.c] 73)) (fun x W => heap_alloc_new W _)
    (fun W0 x A B row hs hg hr => (hg.block _ (Array.getElem?_eq_some_iff.1 hs).1 (fun e => by obtain ⟨_, o, h1, h2⟩ := hr _ e.symm; exact tag_ne hs h1 h2 rfl)).trans hs) ?assign ?body ?done ?stop
  case assign =>
    intro L x W K hK
    simp only [Fx.encs]
    gi_wp2_with fail
    exact hK
  case stop =>
    rintro D c pre W _ _ h _
    exact h.elim
  case body =>
    rintro L pre x W0 W hi hgx hfa hW0 hlen
    obtain ⟨OA, OC, e1, e2, e3⟩ := hi.ex
    have t0 := box_cell e1
    have u0 := box_frozen e1
    have t1 := box_cell hi.bx
    have u1 := box_frozen hi.bx
    have c0 := cell_of_row W W0.heap.size 0 _ _ (0, 0) hfa
    have c1 := cell_of_row W W0.heap.size 1 _ _ (0, 0) hfa
    simp only [List.getElem?_toArray, List.getElem?_cons_zero, List.getElem?_cons_succ] at c0 c1
    have HE1 := Lib.hid e1
    have HE2 := Lib.hid e2
    have HE3 := Lib.hid e3
    have HIW := Lib.hid hi
    have HGX := Lib.hid hgx
    have hml : (pre.map Fx.f).length = pre.length := List.length_map _
    have HML := Lib.hid hml
    have hsz : w.heap.size + 2 < W.heap.size := hi.lt
    obtain ⟨⟨k, fA, fc, fb⟩, n⟩ := x
    simp only at c0 c1 hfa
    clear e1 e2 e3 hi hgx hfa hml
    simp only
    gi_wp2_with (gi_at_builtin; refine wpListIn_append_s _ rfl _ _ frT rfl w.heap.size OA OC (pre.map Fx.f) (by rw [HML.out]; rfl) (HE2.out.row.alloc _) (W.heap.size + 1) (some ⟨W.heap.size, 0, none⟩) 1 1 [⟨k, fA, fc, fb⟩] rfl rfl (rd_frame_new _ W ⟨k, fA, fc, fb⟩) (by rw [HML.out]; simp; omega) (by rw [HML.out]; unfold maxLen; simp; omega) (by simp; omega) ?_)
    intro OA' OC' LL w9 hLL hoL hgL hatL
    have hln : LL.length = pre.length + 1 := by rw [hLL, List.length_append, HML.out]; rfl
    rw [hLL] at hoL
    have HST := Lib.hid (SI.step wL.heap.size HIW.out HGX.out HE1.out HE2.out HE3.out hgL hatL hoL)
    obtain ⟨v0, v1⟩ := HIW.out.x01 HE1.out HE2.out hgL
    have t0 := box_cell v0
    have u0 := box_frozen v0
    have t1 := box_cell v1
    have u1 := box_frozen v1
    rw [hln]
    clear hLL hoL hgL hatL v0 v1 hln c0 c1
    gi_wp2_with fail
    exact HST.out
  case done =>
    rintro D ys W hD hys hi hK
    obtain ⟨OA, OC, e1, e2, e3⟩ := hi.ex
    have t0 := box_cell e1
    have t1 := box_cell hi.bx
    have HE2 := Lib.hid e2
    have HB := Lib.hid hi.below
    have HKD := Lib.hid hK
    have hz := hi.lt
    obtain ⟨r, hS, hT, hN⟩ := hys
    have HSC := Lib.hid hS
    have HTK := Lib.hid hT
    have HLN := Lib.hid hN
    rw [hN] at t1
    have hrl := hS.len.2
    clear e1 e2 e3 hi hK hS hT hN
    gi_wp2_with fail
    gi_region
    gi_wp2_with fail
    refine leaves_marks _ (fun W => results_tmp2 rfl _ _ W) (B := wL.heap.size) (A := W.drew) (fun W' hW => ?_) _ _ ⟨D, rfl, hD, HKD.out, (fun _ h => by cases h), trivial⟩ .refl
    have ho : OwnFv 73 W' w.heap.size OA OC (ys.map Fx.f) := ⟨hW.row HE2.out.row, fun f hf => ⟨hW.row (HE2.out.own f hf).1, (HE2.out.own f hf).2⟩⟩
    refine ⟨ys.map Fx.f, r, OA, OC, ?_, HTK.out, ?_, ho.rd, ho.row.cap, ownS_cap_le ho.row, hW.blw HB.out.drew (by have := HZL.out; omega)⟩
    · rw [List.map_map]; exact HSC.out
    · rw [List.length_map]; rfl
end Go.Proofs.YtgafionfojnieaaDoor

namespace Go.Proofs.YtgafionfojnieaaDoor
open Go.RowKit

/-- A row that holds no bytes. -/
def NoB (w : World) (row : Option Nat) : Prop := ∀ g, row = some g → ∃ cs T fr, w.heap[g]? = some (.cells cs T fr) ∧ T ≠ 5
theorem OwnS.nob {α : Type} {f : α → List Value} {n base c : Nat} {w : World} {e : TypeId} {A : Option Addr} {l : List α} (h : OwnS f n w base e A c l) (he : e ≠ 5) : NoB w (blk A) := fun g hg => by
  obtain ⟨_, cs, fr, h1⟩ := ownS_tag h hg
  exact ⟨cs, e, fr, h1, he⟩
theorem NoB.below {w w' : World} {row : Option Nat} (h : NoB w row) (hb : Below w.heap.size w w') : NoB w' row := fun g hg => by
  obtain ⟨cs, T, fr, h1, h2⟩ := h g hg
  exact ⟨cs, T, fr, (hb.block g (Array.getElem?_eq_some_iff.1 h1).1).trans h1, h2⟩
theorem Own.kept_tag {w w' : World} {base c : Nat} {A : Option Addr} {l : List UInt8} {row : Option Nat} (h : Own w base 5 A c l) (hg : w.grownBy w' row) (hr : NoB w row) : Own w' base 5 A c l := by
  refine h.kept hg ?_
  rcases hA : blk A with _ | g
  · exact .inl rfl
  · refine .inr (fun e => ?_)
    obtain ⟨_, cs, fr, h1⟩ := own_tag h hA
    obtain ⟨cs', T, fr', h2, h3⟩ := hr g e.symm
    exact tag_ne2 h1 h2 (fun e => h3 e.symm) rfl
theorem HBs.grown {w w' : World} {base : Nat} {B : Option Addr} {r : List UInt8} {row : Option Nat} (h : HBs w base B r) (hg : w.grownBy w' row) (hr : NoB w row) (hb : ∀ g, row = some g → base ≤ g) : HBs w' base B r := h.keep hg.size (fun hne g hgg hlt => hg.block g hlt (fun e => by
  rcases h.at_ hne g hgg with h1 | ⟨cs, fr, h1⟩
  · have := hb g e.symm; omega
  · obtain ⟨cs', T, fr', h2, h3⟩ := hr g e.symm
    exact tag_ne2 h1 h2 (fun e => h3 e.symm) rfl))
/-- Pairs of the call's own. -/
structure OwnPv (w : World) (base : Nat) (A : Option Addr) (c : Nat) (l : List Pv) : Prop where
  row : OwnS Pv.cells 2 w base 48 A c l
  own : ∀ p ∈ l, Own w base 5 p.kA p.kc p.k ∧ Own w base 5 p.vA p.vc p.v
section
variable {w w' : World} {base c c' : Nat} {A A' : Option Addr} {l : List Pv} {p : Pv}
theorem OwnPv.nil : OwnPv w base none 0 [] := ⟨OwnS.nil _ _ _, fun f hf => by cases hf⟩
theorem OwnPv.call (h : OwnPv w base A c l) (hb : Below w.heap.size w w') : OwnPv w' base A c l := ⟨h.row.below hb, fun f hf => ⟨(h.own f hf).1.below hb, (h.own f hf).2.below hb⟩⟩
theorem OwnPv.nob (h : OwnPv w base A c l) : NoB w (blk A) := h.row.nob (by decide)
theorem OwnPv.app (h : OwnPv w base A c l) (hk : Own w base 5 p.kA p.kc p.k) (hv : Own w base 5 p.vA p.vc p.v) (ho : OwnS Pv.cells 2 w' base 48 A' c' (l ++ [p])) (hg : w.grownBy w' (blk A)) : OwnPv w' base A' c' (l ++ [p]) := by
  refine ⟨ho, fun q hq => ?_⟩
  simp only [List.mem_append, List.mem_singleton] at hq
  rcases hq with hq | hq
  · exact ⟨(h.own q hq).1.kept_tag hg h.nob, (h.own q hq).2.kept_tag hg h.nob⟩
  · rw [hq]; exact ⟨hk.kept_tag hg h.nob, hv.kept_tag hg h.nob⟩
theorem OwnPv.mono (h : OwnPv w base A c l) {base' : Nat} (hb : base' ≤ base) : OwnPv w base' A c l := ⟨h.row.mono hb, fun p hp => ⟨(h.own p hp).1.mono hb, (h.own p hp).2.mono hb⟩⟩
theorem OwnPv.rd (h : OwnPv w base A c l) : RdPv w w.heap.size A l := ⟨h.row.rd, fun p hp => ⟨(h.own p hp).1.rd, (h.own p hp).2.rd, (h.own p hp).1.cap, (h.own p hp).2.cap, (h.own p hp).1.cap_le, (h.own p hp).2.cap_le⟩⟩
end
/-- What parsing a block gives: none, and an error: it is no block; or its pairs. -/
def ParsedP (w : World) (b : List UInt8) (e : Ending) (w' : World) : Prop := Below w.heap.size w w' ∧
  ((∃ x : Int, x ≠ 0 ∧ e = .returned (.tuple #[.slice none 0 0, .int .i64 x]) ∧ ∀ l0, ¬ Blk.WFb b l0) ∨
   (∃ (l : List Pv) (A : Option Addr) (c : Nat), e = .returned (.tuple #[.slice A l.length c, .int .i64 0]) ∧ OwnPv w' w.heap.size A c l ∧ l.length ≤ b.length ∧ (∀ p ∈ l, p.k.length ≤ b.length ∧ p.v.length ≤ b.length) ∧ ∀ l0, Blk.WFb b l0 → l0 = l.map Pv.pr))
theorem parsed_no {w w' : World} {b : List UInt8} (hb : Below w.heap.size w w') (x : Int) (hx : x ≠ 0) (h : ∀ l0, ¬ Blk.WFb b l0) : ParsedP w b (.returned (.tuple #[.slice none 0 0, .int .i64 x])) w' := ⟨hb, .inl ⟨x, hx, rfl, h⟩⟩
end Go.Proofs.YtgafionfojnieaaDoor

namespace Go.Proofs.YtgafionfojnieaaDoor
open Go.RowKit

theorem i64_or_nat (a b : Nat) (ha : a < 9223372036854775808) (hb : b < 9223372036854775808) : bits .or .i64 (a : Int) (b : Int) = ((a ||| b : Nat) : Int) := by
  have hx : a ||| b < 2 ^ 63 := Nat.or_lt_two_pow (by omega) (by omega)
  show IntKind.i64.wrap ((BitVec.ofInt 64 (a : Int) ||| BitVec.ofInt 64 (b : Int)).toNat : Int) = _
  rw [BitVec.toNat_or, ofInt_u64 a (by omega), ofInt_u64 b (by omega), IntKind.wrap_i64]
  omega
theorem i64_join (s P M h : Nat) (hP : P = 2 ^ s) (hM : M < P) (h1 : h * P < 9223372036854775808) (h2 : M < 9223372036854775808) (x y z : Int) (hx : x = ((h * P : Nat) : Int)) (hy : y = (M : Int)) (hz : z = ((h * P + M : Nat) : Int)) : bits .or .i64 x y = z := by
  subst hP hx hy hz
  rw [i64_or_nat _ _ h1 h2, ← Nat.shiftLeft_eq, ← Nat.shiftLeft_add_eq_or_of_lt hM]
theorem w_mul (x P : Nat) (h : x * P < 9223372036854775808) (z : Int) (hz : z = ((x * P : Nat) : Int)) : IntKind.i64.wrap z = z := by
  subst hz; rw [IntKind.wrap_i64]; omega
set_option maxHeartbeats 1000000 in
set_option maxRecDepth 100000 in
theorem bnum_any (A : Option Addr) (c : Nat) (b : List UInt8) (w : World) (h : RdB w w.heap.size A b) (hl : 4 ≤ b.length) (hl2 : b.length ≤ 140737488355328) :
    Calls Tryd.prog 77 #[.slice A b.length c] w fun e w' => e = .returned (.int .i64 (Frm.num4 (b.take 4) : Int)) ∧ Below w.heap.size w w' := by
  match b, hl with
  | b0 :: b1 :: b2 :: b3 :: bs, _ =>
    obtain ⟨g, off, rfl, _, c0⟩ := h.at_ (k := 0) (by simp)
    obtain ⟨g1, off1, e1, _, c1⟩ := h.at_ (k := 1) (by simp)
    obtain ⟨g2, off2, e2, _, c2⟩ := h.at_ (k := 2) (by simp)
    obtain ⟨g3, off3, e3, _, c3⟩ := h.at_ (k := 3) (by simp)
    injection e1 with e1; injection e1 with e1 f1; subst e1 f1
    injection e2 with e2; injection e2 with e2 f2; subst e2 f2
    injection e3 with e3; injection e3 with e3 f3; subst e3 f3
    simp only [List.getElem_cons_zero, List.getElem_cons_succ, Nat.add_zero] at c0 c1 c2 c3
    have hn : Frm.num4 ((b0 :: b1 :: b2 :: b3 :: bs).take 4) = ((b0.toNat * 256 + b1.toNat) * 256 + b2.toNat) * 256 + b3.toNat := by simp [Frm.num4]
    rw [hn]
    have l0 := b0.toNat_lt
    have l1 := b1.toNat_lt
    have l2 := b2.toNat_lt
    have l3 := b3.toNat_lt
    obtain ⟨x0, hx0⟩ : ∃ x, x = b0.toNat := ⟨_, rfl⟩
    obtain ⟨x1, hx1⟩ : ∃ x, x = b1.toNat := ⟨_, rfl⟩
    obtain ⟨x2, hx2⟩ : ∃ x, x = b2.toNat := ⟨_, rfl⟩
    obtain ⟨x3, hx3⟩ : ∃ x, x = b3.toNat := ⟨_, rfl⟩
    rw [← hx0] at c0 l0
    rw [← hx1] at c1 l1
    rw [← hx2] at c2 l2
    rw [← hx3] at c3 l3
    rw [← hx0, ← hx1, ← hx2, ← hx3]
    clear hx0 hx1 hx2 hx3 hn h
    obtain ⟨n, hnn⟩ : ∃ n, n = (b0 :: b1 :: b2 :: b3 :: bs).length := ⟨_, rfl⟩
    have hn4 : (4 : Int) ≤ (n : Int) := by rw [hnn]; simp only [List.length_cons]; omega
    rw [← hnn] at hl2 ⊢
    clear hnn
    have k1 : bits .or .i64 ((x0 : Int) * 16777216) ((x1 : Int) * 65536) = (x0 : Int) * 16777216 + (x1 : Int) * 65536 :=
      i64_join 24 16777216 (x1 * 65536) x0 rfl (by omega) (by omega) (by omega) _ _ _ (by omega) (by omega) (by omega)
    have k2 : bits .or .i64 ((x0 : Int) * 16777216 + (x1 : Int) * 65536) ((x2 : Int) * 256) = (x0 : Int) * 16777216 + (x1 : Int) * 65536 + (x2 : Int) * 256 :=
      i64_join 16 65536 (x2 * 256) (x0 * 256 + x1) rfl (by omega) (by omega) (by omega) _ _ _ (by omega) (by omega) (by omega)
    have k3 : bits .or .i64 ((x0 : Int) * 16777216 + (x1 : Int) * 65536 + (x2 : Int) * 256) (x3 : Int) = ((((x0 * 256 + x1) * 256 + x2) * 256 + x3 : Nat) : Int) :=
      i64_join 8 256 x3 ((x0 * 256 + x1) * 256 + x2) rfl (by omega) (by omega) (by omega) _ _ _ (by omega) (by omega) (by omega)
    have s0 : IntKind.i64.wrap ((x0 : Int) * 16777216) = (x0 : Int) * 16777216 := w_mul x0 16777216 (by omega) _ (by omega)
    have s1 : IntKind.i64.wrap ((x1 : Int) * 65536) = (x1 : Int) * 65536 := w_mul x1 65536 (by omega) _ (by omega)
    have s2 : IntKind.i64.wrap ((x2 : Int) * 256) = (x2 : Int) * 256 := w_mul x2 256 (by omega) _ (by omega)
    have i1 : (1 : Int) < (n : Int) := by omega
    have i2 : (2 : Int) < (n : Int) := by omega
    have i3 : (3 : Int) < (n : Int) := by omega
    have i0 : (0 : Int) < (n : Int) := by omega
    have HK3 := Lib.hid k3
    obtain ⟨V, hV⟩ : ∃ V : Int, V = ((((x0 * 256 + x1) * 256 + x2) * 256 + x3 : Nat) : Int) := ⟨_, rfl⟩
    rw [← hV] at k3 ⊢
    clear hV HK3
    go_enter Tryd.func77, Tryd.ntmps77
    go_wp2_with fail
    go_quiet (fail)
    refine drewN_any ?_
    intro X hbX _
    go_wp2_with fail
    go_ret
    exact ⟨rfl, hbX⟩
end Go.Proofs.YtgafionfojnieaaDoor

namespace Go.Proofs.YtgafionfojnieaaDoor
open Go.RowKit

namespace Blk
/-- The heads that the bytes tell. -/
def headAt (b : List UInt8) (i : Nat) : Nat := Frm.num4 ((b.drop (b.length - 5 - 4 * (many b - i))).take 4)
def headsOf (b : List UInt8) (k : Nat) : List Nat := (List.range k).map (headAt b)
theorem headsOf_succ (b : List UInt8) (k : Nat) : headsOf b (k + 1) = headsOf b k ++ [headAt b k] := by simp [headsOf, List.range_succ]
theorem hb_at (H : List Nat) (i : Nat) (hi : i < H.length) : ((hb H).drop (4 * i)).take 4 = Frm.be4 H[i] := by
  induction H generalizing i with
  | nil => simp at hi
  | cons a H ih =>
    have e : hb (a :: H) = Frm.be4 a ++ hb H := by simp [hb]
    rw [e]
    cases i with
    | zero => simp [Frm.be4]
    | succ i =>
      have e2 : 4 * (i + 1) = (Frm.be4 a).length + 4 * i := by simp [Frm.be4]; omega
      rw [e2, List.drop_append, List.drop_eq_nil_of_le (by omega), List.nil_append, show (Frm.be4 a).length + 4 * i - (Frm.be4 a).length = 4 * i by omega]
      exact ih i (by simpa using hi)
theorem hds_lt (E : Nat) : ∀ (l : List Pr) (i o : Nat) (last : List UInt8), ∀ x ∈ hds E i o last l, x ≤ o + (ents E i last l).length := by
  intro l
  induction l with
  | nil => intro i o last x hx; simp [hds] at hx
  | cons p l ih =>
    intro i o last x hx
    unfold hds at hx
    rw [List.mem_append] at hx
    rw [ents, List.length_append]
    rcases hx with hx | hx
    · split at hx
      · simp only [List.mem_singleton] at hx; omega
      · cases hx
    · have := ih _ _ _ x hx; omega
theorem heads_wf {b : List UInt8} {l : List Pr} (h : WFb b l) (hb' : b.length ≤ 4000000000) : headsOf b (many b) = hds 16 0 0 [] l := by
  obtain ⟨h1, h2, _, h4, h5, h6⟩ := tail_of h
  obtain ⟨H, hH⟩ : ∃ H, H = hds 16 0 0 [] l := ⟨_, rfl⟩
  obtain ⟨M, hM⟩ : ∃ M, M = many b := ⟨_, rfl⟩
  rw [← hH] at h2 h6 ⊢
  rw [← hM] at h2 h4 h5 h6 ⊢
  apply List.ext_getElem
  · simp [headsOf, h2]
  · intro i hi1 hi2
    have hiM : i < M := by omega
    have hx : H[i] < 4294967296 := by
      have := hds_lt 16 l 0 0 [] H[i] (by rw [← hH]; exact List.getElem_mem hi2)
      have h7 := congrArg List.length h5
      rw [List.length_take] at h7
      omega
    simp only [headsOf, List.getElem_map, List.getElem_range, headAt]
    rw [← hM]
    have e1 : (b.drop (b.length - 5 - 4 * (M - i))).take 4 = Frm.be4 H[i] := by
      rw [← hb_at H i hi2, ← h6, List.drop_take, List.drop_drop, List.take_take]
      congr 1
      · omega
      · congr 1; omega
    rw [e1, Frm.num4_be4 _ hx]
end Blk
def Nc (n : Nat) : List Value := [.int .i64 (n : Int)]
theorem intT : RT Tryd.prog 110 3 Nc 1 8 (.int .i64 0) :=
  ⟨Tryd.underlying110, by kernel_rfl, fun _ => rfl, fun a u hu => by simp [Nc] at hu; subst hu; rfl, by omega, rfl⟩
theorem rd_int_new (w : World) (n : Nat) : RdS Nc 1 (w.alloc (.cells #[.int .i64 (n : Int)] 3)) (w.heap.size + 1) (some ⟨w.heap.size, 0, none⟩) [n] := by
  refine RdS.of (f := Nc) (n := 1) (l := [n]) (fun _ => rfl) _ 0 (by omega) (fun k hk j u hj => ?_)
  obtain rfl : k = 0 := by simp at hk; exact hk
  have hj' : (Nc n)[j]? = some u := hj
  rw [cell_of_row _ w.heap.size _ _ _ (0, 0) (heap_alloc_new w _)]
  simpa [Nc] using hj'
theorem results_cb2 {P : Program} {fn : Func} {p u : Tmp} {ty : TypeId} (h : fn.results = #[.cell p ty, .tmp u]) (tmps : Array Value) (w : World) (g : Nat) (t : TypeId) (cs : Array Value) (fr : Nat × Nat) (d : TypeDesc)
    (hp : tmps.getD p undef = .pointer (some ⟨g, 0, none⟩)) (hg : w.heap[g]? = some (.cells cs t fr)) (hu : P.underlying ty = some d) (hd : (match d, hu with | .struct _, _ => true | .array _ _, _ => true | _, _ => false) = true) (hs : (P.info? ty).map (fun x => x.size) = some cs.size) :
    (results fn tmps).run P w = .ok (.tuple #[.agg cs, tmps.getD u undef]) w := by
  have h1 := results_cell_row (P := P) (fn := { fn with results := #[.cell p ty] }) (p := p) (ty := ty) rfl tmps w g t cs fr d hp hg hu hd hs
  have h2 : ((asAddr (tmps.getD p undef)).run P w).andThen (fun a w1 => (loadVar ty a).run P w1) = .ok (.agg cs) w := by
    simpa [results] using h1
  rw [hp] at h2
  have h3 : (loadVar ty ⟨g, 0, none⟩).run P w = .ok (.agg cs) w := by simpa [asAddr] using h2
  have hp2 := hp
  simp at hp2
  simp [results, h, asAddr, hp2, h3]
theorem block_size : (Tryd.prog.info? 127).map (fun x => x.size) = some 3 := by kernel_rfl
/-- What splitting gives. -/
def SplitP (w : World) (A : Option Addr) (c : Nat) (b : List UInt8) (e : Ending) (w' : World) : Prop := Below w.heap.size w w' ∧
  ((e = .returned (.tuple #[.agg #[.slice none 0 0, .slice none 0 0, .int .i64 0], .bool false]) ∧ ∀ l0, ¬ Blk.WFb b l0) ∨
   (∃ (HA : Option Addr) (HC ev : Nat), e = .returned (.tuple #[.agg #[.slice A (b.length - 5 - 4 * Blk.many b) c, .slice HA (Blk.headsOf b (Blk.many b)).length HC, .int .i64 (ev : Int)], .bool true]) ∧ 5 + 4 * Blk.many b ≤ b.length ∧
     OwnS Nc 1 w' w.heap.size 3 HA HC (Blk.headsOf b (Blk.many b)) ∧ 1 ≤ ev ∧ ev ≤ 64 ∧ ∀ l0, Blk.WFb b l0 → ev = 16))
theorem split_no {w w' : World} {A : Option Addr} {c : Nat} {b : List UInt8} (hb : Below w.heap.size w w') (h : ∀ l0, ¬ Blk.WFb b l0) : SplitP w A c b (.returned (.tuple #[.agg #[.slice none 0 0, .slice none 0 0, .int .i64 0], .bool false])) w' := ⟨hb, .inl ⟨rfl, h⟩⟩
theorem heap_setD {w : World} {p : Addr} {k : Nat} (v : Value) (h : k ≠ p.block) : (w.setCell p v).heap[k]? = w.heap[k]? := Below.heap_setCell w p v k h
theorem heap_set3a {w : World} {g : Nat} {x y z a : Value} {T : TypeId} (h : w.heap[g]? = some (.cells #[x, y, z] T)) : (w.setCell ⟨g, 0, none⟩ a).heap[g]? = some (.cells #[a, y, z] T) := by
  have h1 := heap_setCell_same w g 0 _ T a h
  simpa using h1
theorem heap_set3b {w : World} {g : Nat} {x y z a : Value} {T : TypeId} (h : w.heap[g]? = some (.cells #[x, y, z] T)) : (w.setCell ⟨g, 1, none⟩ a).heap[g]? = some (.cells #[x, a, z] T) := by
  have h1 := heap_setCell_same w g 1 _ T a h
  simpa using h1
/-- What lies in a round of split's loop. -/
structure SpI (w : World) (b : List UInt8) (H : Nat) (A : Option Addr) (Z c ev k : Nat) (HA : Option Addr) (HC : Nat) (wr : World) : Prop where
  res : wr.heap[H]? = some (.cells #[.slice none 0 0, .slice none 0 0, .int .i64 0] 127)
  out : wr.heap[H + 1]? = some (.cells #[.slice A Z c, .slice HA k HC, .int .i64 (ev : Int)] 127)
  own : OwnS Nc 1 wr w.heap.size 3 HA HC (Blk.headsOf b k)
  below : Below w.heap.size w wr
  size : H + 2 ≤ wr.heap.size
theorem bnum_cut (A : Option Addr) (n c : Nat) (b : List UInt8) (w : World) (hn : n = b.length) (h : RdB w w.heap.size A b) (hl : 4 ≤ b.length) (hl2 : b.length ≤ 140737488355328) :
    Calls Tryd.prog 77 #[.slice A n c] w fun e w' => e = .returned (.int .i64 (Frm.num4 (b.take 4) : Int)) ∧ Below w.heap.size w w' := by subst hn; exact bnum_any A c b w h hl hl2
set_option maxHeartbeats 4000000 in
set_option maxRecDepth 100000 in
theorem split_any (A : Option Addr) (c : Nat) (b : List UInt8) (w : World) (h : RdB w w.heap.size A b) (hl : b.length ≤ 65536) (hc : b.length ≤ c) (hcc : c ≤ 9223372036854775807) :
    Calls Tryd.prog 62 #[.slice A b.length c] w (SplitP w A c b) := by
  by_cases h5 : (b.length : Int) < 5
  · have HG := Lib.hid (split_no (A := A) (c := c) (b := b) ((Below.refl w.heap.size w).alloc (Nat.le_refl _) (.cells #[.slice none 0 0, .slice none 0 0, .int .i64 0] 127)) (Blk.WFb.small (by omega)))
    go_enter Tryd.func62, Tryd.ntmps62
    go_wp2_with fail
    refine bodyPost_ret (results_cb2 rfl _ _ w.heap.size 127 #[.slice none 0 0, .slice none 0 0, .int .i64 0] _ _ rfl (heap_alloc_new _ _) Tryd.underlying127 rfl block_size) rfl ?_
    exact HG.out
  obtain ⟨N, hN⟩ : ∃ N, b.length = N + 5 := ⟨b.length - 5, by omega⟩
  have HH := Lib.hid h
  have HN := Lib.hid hN
  obtain ⟨g, off, rfl, hab, hcl⟩ := h.at_ (k := N + 4) (by omega)
  obtain ⟨ev, hev⟩ : ∃ ev, ev = (b[N + 4]'(by omega)).toNat := ⟨_, rfl⟩
  rw [← hev] at hcl
  have hev2 : ev < 256 := by rw [hev]; exact UInt8.toNat_lt _
  have HE16 : Hid (∀ l0, Blk.WFb b l0 → ev = 16) := Lib.hid (fun l0 hw => by
    have h1 := (Blk.tail_of hw).2.2.1
    rw [hN, show N + 5 - 1 = N + 4 by omega, List.getElem?_eq_getElem (by omega)] at h1
    injection h1 with h1
    rw [hev, h1]; rfl)
  have hcut := h.cut (k := N) (c := c) (by omega) (by omega)
  rw [if_neg (by omega)] at hcut
  have HCUT := Lib.hid hcut
  rw [hN] at hl hc
  have hlen : (b.length : Nat) = N + 5 := hN
  rw [hlen]
  have h5' : ¬ ((N : Int) + 5 < 5) := by omega
  have hcN : (N : Int) < (c : Int) := by omega
  clear h hN hev h5 hcut hlen
  go_enter Tryd.func62, Tryd.ntmps62
  go_wp2_with fail
  obtain ⟨W2, hW2⟩ : ∃ W2, W2 = (w.alloc (.cells #[.slice none 0 0, .slice none 0 0, .int .i64 0] 127)).alloc (.cells #[.slice none 0 0, .slice none 0 0, .int .i64 (ev : Int)] 127) := ⟨_, rfl⟩
  have hb2 : Below w.heap.size w W2 := by rw [hW2]; exact below_al2 _ _ _
  have hz2 : W2.heap.size = w.heap.size + 2 := by rw [hW2]; simp
  have y0 : W2.heap[w.heap.size]? = some (.cells #[.slice none 0 0, .slice none 0 0, .int .i64 0] 127) := by
    rw [hW2, heap_alloc_old _ _ (by simp)]; exact heap_alloc_new w _
  have y1 : W2.heap[w.heap.size + 1]? = some (.cells #[.slice none 0 0, .slice none 0 0, .int .i64 (ev : Int)] 127) := by
    rw [hW2]
    have := heap_alloc_new (w.alloc (.cells #[.slice none 0 0, .slice none 0 0, .int .i64 0] 127)) (.cells #[.slice none 0 0, .slice none 0 0, .int .i64 (ev : Int)] 127)
    simpa using this
  rw [← hW2]
  refine (bnum_cut _ _ _ (b.drop N) W2 (by rw [List.length_drop, HN.out]; omega) ((HCUT.out.below hb2 (Nat.le_refl _)).more hb2.size) (by rw [List.length_drop, HN.out]; omega) (by rw [List.length_drop, HN.out]; omega)).mono ?_
  rintro e w1 ⟨rfl, hb1⟩
  obtain ⟨M, hM⟩ : ∃ M, M = Frm.num4 ((b.drop N).take 4) := ⟨_, rfl⟩
  have hMm : M = Blk.many b := by rw [hM]; unfold Blk.many; rw [HN.out]; rfl
  have hMl : M < 4294967296 := by
    have h1 := Frm.num4_lt ((b.drop N).take 4) 0
    rw [hM]
    unfold Frm.num4
    have h2 : ((b.drop N).take 4).length = 4 := by rw [List.length_take, List.length_drop, HN.out]; omega
    rw [h2] at h1
    have h4 : (256 : Nat) ^ 4 = 4294967296 := by decide
    omega
  rw [← hM]
  have hcw0 := (hb1.block _ (by omega)).trans y0
  have hcw1 := (hb1.block _ (by omega)).trans y1
  have HCW0 := Lib.hid hcw0
  have HCW1 := Lib.hid hcw1
  have HBW := Lib.hid (hb2.trans (hb1.mono hb2.size))
  have HZ1 : Hid (w.heap.size + 2 ≤ w1.heap.size) := Lib.hid (by have := hb1.size; omega)
  have HMM := Lib.hid hMm
  have q0 := cell_of_row w1 w.heap.size 0 _ _ (0, 0) hcw0
  have q1 := cell_of_row w1 w.heap.size 1 _ _ (0, 0) hcw0
  have q2 := cell_of_row w1 w.heap.size 2 _ _ (0, 0) hcw0
  have f0 := frozen_of_row w1 w.heap.size 0 _ _ hcw0
  have f1 := frozen_of_row w1 w.heap.size 1 _ _ hcw0
  have f2 := frozen_of_row w1 w.heap.size 2 _ _ hcw0
  have r0 := cell_of_row w1 (w.heap.size + 1) 0 _ _ (0, 0) hcw1
  have r1 := cell_of_row w1 (w.heap.size + 1) 1 _ _ (0, 0) hcw1
  have r2 := cell_of_row w1 (w.heap.size + 1) 2 _ _ (0, 0) hcw1
  have p0 := frozen_of_row w1 (w.heap.size + 1) 0 _ _ hcw1
  simp only [List.getElem?_toArray, List.getElem?_cons_zero, List.getElem?_cons_succ] at q0 q1 q2 r0 r1 r2
  clear hM hMm hb1 hb2 hz2 y0 y1 hcw0 hcw1 hW2 HCUT
  by_cases hmu : ((N / 4 : Nat) : Int) < (M : Int)
  · have HG : Hid (∀ l0, ¬ Blk.WFb b l0) := Lib.hid (Blk.WFb.much (by rw [HN.out, ← HMM.out]; omega))
    have hmu2 : (N : Int) / 4 < (M : Int) := by omega
    clear hmu
    go_wp2_with fail
    refine bodyPost_ret (results_cb2 rfl _ _ w.heap.size 127 #[.slice none 0 0, .slice none 0 0, .int .i64 0] _ _ rfl (heap_set3 HCW0.out) Tryd.underlying127 rfl block_size) rfl ?_
    exact split_no (((HBW.out.setCell (by simp) _).setCell (by simp) _).setCell (by simp) _) HG.out
  have hmu2 : ¬ ((N : Int) / 4 < (M : Int)) := by omega
  have h4M : 4 * M ≤ N := by omega
  clear hmu
  by_cases hev1 : (ev : Int) < 1
  · have HG : Hid (∀ l0, ¬ Blk.WFb b l0) := Lib.hid (fun l0 hw => by have := HE16.out l0 hw; omega)
    go_wp2_with fail
    refine bodyPost_ret (results_cb2 rfl _ _ w.heap.size 127 #[.slice none 0 0, .slice none 0 0, .int .i64 0] _ _ rfl (heap_set3 HCW0.out) Tryd.underlying127 rfl block_size) rfl ?_
    exact split_no (((HBW.out.setCell (by simp) _).setCell (by simp) _).setCell (by simp) _) HG.out
  by_cases hev3 : 64 < (ev : Int)
  · have HG : Hid (∀ l0, ¬ Blk.WFb b l0) := Lib.hid (fun l0 hw => by have := HE16.out l0 hw; omega)
    go_wp2_with fail
    refine bodyPost_ret (results_cb2 rfl _ _ w.heap.size 127 #[.slice none 0 0, .slice none 0 0, .int .i64 0] _ _ rfl (heap_set3 HCW0.out) Tryd.underlying127 rfl block_size) rfl ?_
    exact split_no (((HBW.out.setCell (by simp) _).setCell (by simp) _).setCell (by simp) _) HG.out
  obtain ⟨Z, hZ⟩ : ∃ Z, Z = N - 4 * M := ⟨_, rfl⟩
  have hz1 : IntKind.i64.wrap (4 * (M : Int)) = 4 * (M : Int) := by rw [IntKind.wrap_i64]; omega
  have hz2 : (N : Int) - 4 * (M : Int) = (Z : Int) := by omega
  have hZc : (Z : Int) ≤ (c : Int) := by omega
  have hZ0 : (0 : Int) ≤ (Z : Int) := by omega
  have HZ : Hid (Z = b.length - 5 - 4 * Blk.many b) := Lib.hid (by rw [← HMM.out, HN.out, hZ]; rfl)
  clear hZ
  go_wp2_with fail
  obtain ⟨wa, hwa⟩ : ∃ wa, wa = w1.setCell ⟨w.heap.size + 1, 0, none⟩ (.slice (some ⟨g, off, none⟩) Z c) := ⟨_, rfl⟩
  rw [← hwa]
  have HA0 : Hid (SpI w b w.heap.size (some ⟨g, off, none⟩) Z c ev 0 none 0 wa) := Lib.hid (by
    rw [hwa]
    exact ⟨by rw [heap_setD _ (by simp)]; exact HCW0.out, heap_set3a HCW1.out, OwnS.nil _ _ _, HBW.out.setCell (by simp) _, by simp; exact HZ1.out⟩)
  clear q0 q1 q2 f0 f1 f2 r0 r1 r2 p0 hwa
  go_loopw [52] (fun i wr => ∃ (k : Nat) (HA : Option Addr) (HC : Nat), k ≤ M ∧ i = .int .i64 (k : Int) ∧ Hid (SpI w b w.heap.size (some ⟨g, off, none⟩) Z c ev k HA HC wr)) (fun i _ => M - (intOf i).toNat)
  case atStart => exact ⟨0, none, 0, by omega, rfl, HA0⟩
  case round =>
    obtain ⟨k, HA, HC, hk, rfl, HI⟩ := hrel
    by_cases hkM : k < M
    · obtain ⟨D, hD⟩ : ∃ D, D = M - k := ⟨_, rfl⟩
      obtain ⟨X0, hX0⟩ : ∃ X0, X0 = N - 4 * D := ⟨_, rfl⟩
      have hD0 : (M : Int) - (k : Int) = (D : Int) := by omega
      have hD1 : IntKind.i64.wrap (4 * (D : Int)) = 4 * (D : Int) := by rw [IntKind.wrap_i64]; omega
      have hD2 : (N : Int) - 4 * (D : Int) = (X0 : Int) := by omega
      have hX1 : (0 : Int) ≤ (X0 : Int) := by omega
      have hW1 : IntKind.i64.wrap (D : Int) = (D : Int) := by rw [IntKind.wrap_i64]; omega
      have hW2 : IntKind.i64.wrap (X0 : Int) = (X0 : Int) := by rw [IntKind.wrap_i64]; omega
      have hX2 : (X0 : Int) ≤ (N : Int) + 5 := by omega
      have hX3 : (X0 : Int) < (c : Int) := by omega
      have hX4 : ¬ (c = X0) := by omega
      have hcut := HH.out.cut (k := X0) (c := c) (by rw [HN.out]; omega) (by rw [HN.out]; omega)
      rw [if_neg (by omega)] at hcut
      obtain ⟨hd, hhd⟩ : ∃ hd, hd = Blk.headAt b k := ⟨_, rfl⟩
      have hhe : Frm.num4 ((b.drop X0).take 4) = hd := by rw [hhd]; unfold Blk.headAt; rw [← HMM.out, HN.out, hX0, hD]; rfl
      have KN : Hid (∀ w', Below wr.heap.size wr w' → Calls Tryd.prog 77 #[.slice (some ⟨g, off + X0, none⟩) (N + 5 - X0) (c - X0)] w' fun e w'' => e = .returned (.int .i64 (hd : Int)) ∧ Below w'.heap.size w' w'') := Lib.hid (fun w' hb => by
        rw [← hhe]
        have hbb := HI.out.below.trans (hb.mono HI.out.below.size)
        exact bnum_cut _ _ _ (b.drop X0) w' (by rw [List.length_drop, HN.out]) ((hcut.below hbb (Nat.le_refl _)).more hbb.size) (by rw [List.length_drop, HN.out]; omega) (by rw [List.length_drop, HN.out]; omega))
      have HHD := Lib.hid hhd
      have hln : (Blk.headsOf b k).length = k := by simp [Blk.headsOf]
      have hgt : w.heap.size + 1 < wr.heap.size := by have := HI.out.size; omega
      have HHN := Lib.hid hln
      have hsw := HI.out.below.size
      clear hD hX0 hcut hhd hhe hln
      go_wp2_with fail
      refine wp_region_E 14 (fun w' => w'.cell? ⟨w.heap.size + 1, 1, none⟩ = some (.slice HA k HC)) (by kernel_rfl) ?_
      have HSB : Hid (∀ Y, Below wr.heap.size wr Y → Y.cell? ⟨w.heap.size + 1, 1, none⟩ = some (.slice HA k HC)) := Lib.hid (fun Y hb => by
        rw [cell_of_row Y (w.heap.size + 1) 1 _ _ (0, 0) ((hb.block _ hgt).trans HI.out.out)]; rfl)
      obtain ⟨X, hX⟩ : ∃ X, wr.drew = X := ⟨_, rfl⟩
      have hbX : Below wr.heap.size wr X := by rw [← hX]; exact (Below.refl _ _).drew
      have HS0 : X.cell? ⟨w.heap.size + 1, 1, none⟩ = some (.slice HA k HC) := HSB.out X hbX
      have HBX := Lib.hid hbX
      rw [hX]
      clear hX hbX
      refine wpAnyE_take (i := 0) (v := ?v0) rfl (by kernel_rfl) (by kernel_rfl) (by kernel_rfl) (by kernel_rfl) (fun _ _ _ h => h) (Or.inl ⟨by rfl, ?y0⟩) HS0 ?r0
      case y0 => (intro wy hSw; go_simp; try with_reducible rfl)
      try simp only [Act.put, List.setIfInBounds_toArray]
      refine wpAnyE_take (i := 1) (v := ?v1) rfl (by kernel_rfl) (by kernel_rfl) (by kernel_rfl) (by kernel_rfl) (fun _ _ _ h => h) (Or.inl ⟨by rfl, ?y1⟩) HS0 ?r1
      case y1 => (intro wy hSw; go_simp; try with_reducible rfl)
      try simp only [Act.put]
      refine wpAnyE_take (i := 2) (v := ?v2) rfl (by kernel_rfl) (by kernel_rfl) (by kernel_rfl) (by kernel_rfl) (fun _ _ _ h => h) (Or.inl ⟨by rfl, ?y2⟩) HS0 ?r2
      case y2 => (intro wy hSw; go_simp; try with_reducible rfl)
      try simp only [Act.put]
      refine wpAnyE_take (i := 3) (v := ?v3) rfl (by kernel_rfl) (by kernel_rfl) (by kernel_rfl) (by kernel_rfl) (fun _ _ _ h => h) (Or.inl ⟨by rfl, ?y3⟩) HS0 ?r3
      case y3 => (intro wy hSw; go_simp; try with_reducible rfl)
      try simp only [Act.put]
      refine wpAnyE_take (i := 4) (v := ?v4) rfl (by kernel_rfl) (by kernel_rfl) (by kernel_rfl) (by kernel_rfl) (fun _ _ _ h => h) (Or.inl ⟨by rfl, ?y4⟩) HS0 ?r4
      case y4 => (intro wy hSw; go_simp; try with_reducible rfl)
      try simp only [Act.put]
      refine wpAnyE_take (i := 5) (v := ?v5) rfl (by kernel_rfl) (by kernel_rfl) (by kernel_rfl) (by kernel_rfl) (fun _ _ _ h => h) (Or.inl ⟨by rfl, ?y5⟩) HS0 ?r5
      case y5 => (intro wy hSw; go_simp; try with_reducible rfl)
      try simp only [Act.put]
      refine wpAnyE_take (i := 6) (v := ?v6) rfl (by kernel_rfl) (by kernel_rfl) (by kernel_rfl) (by kernel_rfl) (fun _ _ _ h => h) (Or.inl ⟨by rfl, ?y6⟩) HS0 ?r6
      case y6 => (intro wy hSw; go_simp; try with_reducible rfl)
      try simp only [Act.put]
      refine wpAnyE_take (i := 7) (v := ?v7) rfl (by kernel_rfl) (by kernel_rfl) (by kernel_rfl) (by kernel_rfl) (fun _ _ _ h => h) (Or.inl ⟨by rfl, ?y7⟩) HS0 ?r7
      case y7 => (intro wy hSw; go_simp; try with_reducible rfl)
      try simp only [Act.put]
      refine wpAnyE_take (i := 8) (v := ?v8) rfl (by kernel_rfl) (by kernel_rfl) (by kernel_rfl) (by kernel_rfl) (fun _ _ _ h => h) (Or.inl ⟨by rfl, ?y8⟩) HS0 ?r8
      case y8 => (intro wy hSw; go_simp; try with_reducible rfl)
      try simp only [Act.put]
      refine wpAnyE_take (i := 9) (v := ?v9) rfl (by kernel_rfl) (by kernel_rfl) (by kernel_rfl) (by kernel_rfl) (fun _ _ _ h => h) (Or.inl ⟨by rfl, ?y9⟩) HS0 ?r9
      case y9 => (intro wy hSw; go_simp; try with_reducible rfl)
      try simp only [Act.put]
      refine wpAnyE_one (i := 10) (by kernel_rfl) rfl (fun K hK => ?_)
      go_simp
      refine (KN.out X HBX.out).mono ?_
      rintro e w5 ⟨rfl, hb5⟩
      have HB5 := Lib.hid (HBX.out.trans (hb5.mono HBX.out.size))
      refine hK _ _ (HSB.out _ HB5.out) ?_
      clear hb5
      try simp only [Act.put]
      refine wpAnyE_one (i := 11) (by kernel_rfl) rfl (fun K hK => ?_)
      go_simp
      have HBY : Hid (Below wr.heap.size wr (w5.alloc (.cells #[.int .i64 (hd : Int)] 3))) := Lib.hid (HB5.out.alloc HB5.out.size _)
      refine hK _ _ (HSB.out _ HBY.out) ?_
      try simp only [Act.put]
      have hwz := HB5.out.size
      have HOY := Lib.hid (HI.out.own.below HBY.out)
      refine wpAnyE_one (i := 12) (by kernel_rfl) rfl (fun K hK => ?_)
      refine step_append_sd _ (by rfl) (some 67) (by rfl) (.tmp 56) (.tmp 66) intT (by rfl) w.heap.size HA HC (Blk.headsOf b k) (by rw [HHN.out]; rfl) HOY.out (w5.heap.size + 1) (some ⟨w5.heap.size, 0, none⟩) 1 1 [hd] rfl rfl (rd_int_new w5 hd) (by rw [HHN.out]; simp; omega) (by rw [HHN.out]; unfold maxLen; simp; omega) (by simp; omega) ?_
      intro A6 c6 L w6 hL ho6 hg6 hat6
      have hne : some (w.heap.size + 1) ≠ blk HA := fun e => by
        obtain ⟨_, cs, fr, h1⟩ := ownS_tag HI.out.own e.symm
        exact tag_ne2 h1 HI.out.out (by decide) rfl
      have hne0 : some w.heap.size ≠ blk HA := fun e => by
        obtain ⟨_, cs, fr, h1⟩ := ownS_tag HI.out.own e.symm
        exact tag_ne2 h1 HI.out.res (by decide) rfl
      have hbx6 := (hg6.block _ (by simp; omega) hne).trans ((HBY.out.block _ hgt).trans HI.out.out)
      have hbx0 := (hg6.block _ (by simp; omega) hne0).trans ((HBY.out.block _ (by omega)).trans HI.out.res)
      have hS6 : w6.cell? ⟨w.heap.size + 1, 1, none⟩ = some (.slice HA k HC) := by rw [cell_of_row w6 (w.heap.size + 1) 1 _ _ (0, 0) hbx6]; rfl
      have fz6 : w6.frozen? ⟨w.heap.size + 1, 1, none⟩ = false := frozen_of_row w6 (w.heap.size + 1) 1 _ _ hbx6
      have hLn : L.length = k + 1 := by rw [hL, List.length_append, HHN.out]; rfl
      rw [hLn]
      have hL2 : L = Blk.headsOf b (k + 1) := by rw [hL, Blk.headsOf_succ, HHD.out]
      have hset : ∀ g, blk A6 = some g → (w6.setCell ⟨w.heap.size + 1, 1, none⟩ (.slice A6 (k + 1) c6)).heap[g]? = w6.heap[g]? := fun g hg => by
        obtain ⟨_, cs, fr, h1⟩ := ownS_tag ho6 hg
        exact heap_setD _ (tag_ne2 h1 hbx6 (by decide))
      have HI6 : Hid (SpI w b w.heap.size (some ⟨g, off, none⟩) Z c ev (k + 1) A6 c6 (w6.setCell ⟨w.heap.size + 1, 1, none⟩ (.slice A6 (k + 1) c6))) := Lib.hid
        ⟨by rw [heap_setD _ (by simp)]; exact hbx0, heap_set3b hbx6, by rw [← hL2]; exact ho6.keep hset, ((HI.out.below.trans (HBY.out.mono hsw)).grown hg6 (by simp; omega) (fun g hg => (HI.out.own.blk_ge g hg).1)).setCell (by simp) _, by simp; have := hg6.size; simp at this; omega⟩
      refine hK _ _ hS6 ?_
      clear hL ho6 hg6 hat6 hbx6 hbx0 hLn hL2 hset hne hne0 HOY HBY HB5 HBX HSB KN HI
      try simp only [Act.put]
      refine wpAnyE_one (i := 13) (by kernel_rfl) rfl (fun K hK => ?_)
      go_simp
      refine hK _ _ hS6 ?_
      try simp only [Act.put]
      refine wpAnyE_last (by kernel_rfl) (by kernel_rfl) rfl (fun K hK => ?_)
      go_simp
      refine hK _ _ ?_
      go_wp2_with fail
      go_roundw
      case rel => exact ⟨k + 1, A6, c6, by omega, by go_num, HI6⟩
      case measure => simp [intOf]; omega
    · have hke : k = M := by omega
      subst hke
      have q0 := cell_of_row wr w.heap.size 0 _ _ (0, 0) HI.out.res
      have q1 := cell_of_row wr w.heap.size 1 _ _ (0, 0) HI.out.res
      have q2 := cell_of_row wr w.heap.size 2 _ _ (0, 0) HI.out.res
      have f0 := frozen_of_row wr w.heap.size 0 _ _ HI.out.res
      have f1 := frozen_of_row wr w.heap.size 1 _ _ HI.out.res
      have f2 := frozen_of_row wr w.heap.size 2 _ _ HI.out.res
      have r0 := cell_of_row wr (w.heap.size + 1) 0 _ _ (0, 0) HI.out.out
      have r1 := cell_of_row wr (w.heap.size + 1) 1 _ _ (0, 0) HI.out.out
      have r2 := cell_of_row wr (w.heap.size + 1) 2 _ _ (0, 0) HI.out.out
      simp only [List.getElem?_toArray, List.getElem?_cons_zero, List.getElem?_cons_succ] at q0 q1 q2 r0 r1 r2
      go_wp2_with fail
      refine bodyPost_ret (results_cb2 rfl _ _ w.heap.size 127 #[.slice (some ⟨g, off, none⟩) Z c, .slice HA k HC, .int .i64 (ev : Int)] _ _ rfl (heap_set3 HI.out.res) Tryd.underlying127 rfl block_size) rfl ?_
      have hset : ∀ x, blk HA = some x → (((wr.setCell ⟨w.heap.size, 0, none⟩ (.slice (some ⟨g, off, none⟩) Z c)).setCell ⟨w.heap.size, 1, none⟩ (.slice HA k HC)).setCell ⟨w.heap.size, 2, none⟩ (.int .i64 (ev : Int))).heap[x]? = wr.heap[x]? := fun x hx => by
        obtain ⟨_, cs, fr, h1⟩ := ownS_tag HI.out.own hx
        have hne := tag_ne2 h1 HI.out.res (by decide)
        rw [heap_setD _ (by simpa using hne), heap_setD _ (by simpa using hne), heap_setD _ (by simpa using hne)]
      refine ⟨((HI.out.below.setCell (by simp) _).setCell (by simp) _).setCell (by simp) _, .inr ⟨HA, HC, ev, ?_, ?_, ?_, by omega, by omega, HE16.out⟩⟩
      · rw [← HZ.out, ← HMM.out, show (Blk.headsOf b k).length = k by simp [Blk.headsOf]]; rfl
      · rw [← HMM.out, HN.out]; omega
      · rw [← HMM.out]; exact HI.out.own.keep hset
end Go.Proofs.YtgafionfojnieaaDoor

namespace Go.Proofs.YtgafionfojnieaaDoor
open Go.RowKit

namespace Blk
/-- The next pair, behind a key. -/
def nextP (head : Bool) (last r : List UInt8) : Option (Pr × List UInt8) := match Cod.take r with
  | none => none
  | some (n, R1) => if last.length < n ∨ (head = true ∧ 0 < n) then none else match cutT (Cod.take R1) with
    | none => none
    | some (k, R2) => match cutT (Cod.take R2) with
      | none => none
      | some (v, R3) => if head = false ∧ (Lib.compareBytes (last.take n ++ k) last ≤ 0 ∨ common (last.take n ++ k) last ≠ n) then none else some (⟨last.take n ++ k, v⟩, R3)
section
variable {head : Bool} {last r R1 R2 R3 k v : List UInt8} {n : Nat}
theorem nextP_no1 (h : Cod.take r = none) : nextP head last r = none := by unfold nextP; simp only [h]
theorem nextP_no2 (h : Cod.take r = some (n, R1)) (hn : last.length < n) : nextP head last r = none := by unfold nextP; simp only [h]; rw [if_pos (.inl hn)]
theorem nextP_no2t (h : Cod.take r = some (n, R1)) (hn : 0 < n) : nextP true last r = none := by unfold nextP; simp only [h]; rw [if_pos (.inr (by simpa using hn))]
theorem np_neg (hn : n ≤ last.length) (hh : head = true → n = 0) : ¬ (last.length < n ∨ (head = true ∧ 0 < n)) := by
  rintro (h | ⟨h1, h2⟩)
  · omega
  · have := hh h1; omega
theorem nextP_no3 (h : Cod.take r = some (n, R1)) (hn : n ≤ last.length) (hh : head = true → n = 0) (h2 : cutT (Cod.take R1) = none) : nextP head last r = none := by
  unfold nextP; simp only [h]; rw [if_neg (np_neg hn hh)]; simp only [h2]
theorem nextP_no4 (h : Cod.take r = some (n, R1)) (hn : n ≤ last.length) (hh : head = true → n = 0) (h2 : cutT (Cod.take R1) = some (k, R2)) (h3 : cutT (Cod.take R2) = none) : nextP head last r = none := by
  unfold nextP; simp only [h]; rw [if_neg (np_neg hn hh)]; simp only [h2, h3]
theorem nextP_no5 (h : Cod.take r = some (n, R1)) (hn : n ≤ last.length) (hh : head = true → n = 0) (h2 : cutT (Cod.take R1) = some (k, R2)) (h3 : cutT (Cod.take R2) = some (v, R3)) (h4 : head = false) (h5 : Lib.compareBytes (last.take n ++ k) last ≤ 0 ∨ common (last.take n ++ k) last ≠ n) : nextP head last r = none := by
  unfold nextP; simp only [h]; rw [if_neg (np_neg hn hh)]; simp only [h2, h3]; rw [if_pos ⟨h4, h5⟩]
theorem nextP_yes (h : Cod.take r = some (n, R1)) (hn : n ≤ last.length) (hh : head = true → n = 0) (h2 : cutT (Cod.take R1) = some (k, R2)) (h3 : cutT (Cod.take R2) = some (v, R3)) (h5 : head = false → ¬ (Lib.compareBytes (last.take n ++ k) last ≤ 0 ∨ common (last.take n ++ k) last ≠ n)) : nextP head last r = some (⟨last.take n ++ k, v⟩, R3) := by
  unfold nextP; simp only [h]; rw [if_neg (np_neg hn hh)]; simp only [h2, h3]; rw [if_neg (fun h => h5 h.1 h.2)]
end
theorem common_comm (a b : List UInt8) : common a b = common b a := by
  induction a generalizing b with
  | nil => cases b <;> rfl
  | cons x a ih =>
    cases b with
    | nil => rfl
    | cons y b =>
      unfold common
      by_cases h : x = y
      · rw [if_pos h, if_pos h.symm, ih]
      · rw [if_neg h, if_neg (fun e => h e.symm)]
/-- The key of the last one. -/
def lastK (o : List Pr) : List UInt8 := (o.getLast?.map Pr.k).getD []
theorem lastK_snoc (o : List Pr) (p : Pr) : lastK (o ++ [p]) = p.k := by simp [lastK]
theorem srt_at {o l2 : List Pr} {p : Pr} (h : srt (o ++ p :: l2) = true) (ho : 0 < o.length) : Op.bytesLess (lastK o) p.k = true := by
  have h1 := (srt_iff _).1 h o.length (by simp) ho (by simp)
  have e1 : (o ++ p :: l2)[o.length]'(by simp) = p := by simp
  have e2 : (o ++ p :: l2)[o.length - 1]'(by simp; omega) = o[o.length - 1]'(by omega) := by
    rw [List.getElem_append_left]
  have e3 : lastK o = (o[o.length - 1]'(by omega)).k := by
    unfold lastK
    rw [List.getLast?_eq_getElem?, List.getElem?_eq_getElem (by omega)]
    rfl
  rw [e1, e2] at h1
  rw [e3]; exact h1
theorem WRel.nextP {b last rest : List UInt8} {o : List Pr} (h : WRel b o last rest) (hr : rest ≠ []) (hb : last.length < 18446744073709551616) (hk : lastK o = last) {l0 : List Pr} (hw : WFb b l0) :
    ∃ p l2, l0 = o ++ p :: l2 ∧ Blk.nextP (o.length % 16 == 0) last rest = some (p, ents 16 (o.length + 1) p.k l2) := by
  obtain ⟨p, l2, R1, R2, e, a1, a2, a3, a4, a5⟩ := h.next hr hb hw
  refine ⟨p, l2, e, ?_⟩
  unfold Blk.nextP
  simp only [a1]
  rw [if_neg]
  · simp only [a2, a3]
    rw [if_neg]
    · rw [a4]
    · rintro ⟨h1, h2⟩
      have h0 : ¬ o.length % 16 = 0 := by simpa using h1
      have ho : 0 < o.length := by
        rcases Nat.eq_zero_or_pos o.length with h3 | h3
        · rw [h3] at h0; simp at h0
        · exact h3
      have hs := srt_at (e ▸ hw.few.2) ho
      rw [a4] at h2
      rcases h2 with h2 | h2
      · rw [hk] at hs
        have h4 := (compareBytes_le p.k last).1 h2
        rw [hs] at h4; cases h4
      · apply h2
        unfold cn
        rw [if_neg h0, common_comm]
  · rintro (h1 | ⟨h1, h2⟩)
    · omega
    · have h0 : o.length % 16 = 0 := by simpa using h1
      unfold cn at h2
      rw [if_pos h0] at h2
      omega
theorem WRel.stepP {b last rest R3 : List UInt8} {o : List Pr} {p : Pr} (h : WRel b o last rest) (hr : rest ≠ []) (hb : last.length < 18446744073709551616) (hk : lastK o = last) (hn : Blk.nextP (o.length % 16 == 0) last rest = some (p, R3)) : WRel b (o ++ [p]) p.k R3 := fun l0 hw => by
  obtain ⟨p', l2, e, e2⟩ := h.nextP hr hb hk hw
  rw [hn] at e2
  injection e2 with e2
  injection e2 with e3 e4
  subst e3
  exact ⟨l2, by rw [e]; simp, by rw [e4]; simp⟩
theorem WRel.noP {b last rest : List UInt8} {o : List Pr} (h : WRel b o last rest) (hr : rest ≠ []) (hb : last.length < 18446744073709551616) (hk : lastK o = last) (hn : Blk.nextP (o.length % 16 == 0) last rest = none) (l0 : List Pr) : ¬ WFb b l0 := fun hw => by
  obtain ⟨p', l2, e, e2⟩ := h.nextP hr hb hk hw
  rw [hn] at e2; cases e2
/-- How the bytes are split up. -/
theorem nextP_len {head : Bool} {last r R3 : List UInt8} {p : Pr} (h : nextP head last r = some (p, R3)) : R3.length + 3 ≤ r.length ∧ p.k.length + R3.length ≤ last.length + r.length ∧ p.v.length + R3.length ≤ r.length := by
  unfold nextP at h
  split at h
  · cases h
  · rename_i n R1 h1
    split at h
    · cases h
    · split at h
      · cases h
      · rename_i k R2 h2
        split at h
        · cases h
        · rename_i v R3' h3
          split at h
          · cases h
          · injection h with h
            injection h with h4 h5
            subst h4 h5
            have e1 := Cod.take_number h1
            have e2 := Frm.cutT_text h2
            have e3 := Frm.cutT_text h3
            have l1 := congrArg List.length e1
            have l2 := congrArg List.length e2
            have l3 := congrArg List.length e3
            simp only [List.length_append, Cod.text, Cod.number] at l1 l2 l3
            simp only [List.length_append, List.length_take, List.length_cons, List.length_nil] at l1 l2 l3 ⊢
            omega
end Blk
end Go.Proofs.YtgafionfojnieaaDoor
