/- Parts of the proof, one behind the other: The contract of the reference's Scan. -/
import Derived.Test.YtaiokogbhfliiaaGreatDoorMrg18
namespace Go.Proofs.YtaiokogbhfliiaaGreatDoor
open Go.RowKit

set_option maxHeartbeats 2000000 in
set_option maxRecDepth 100000 in
theorem rscan_any (A : Option Addr) (c : Nat) (b : List UInt8) (w : World) (h : RdB w w.heap.size A b) (hl : b.length ≤ 1000000000) (hc : b.length ≤ c) (hcc : c ≤ 9223372036854775807) :
    Calls Tryz.prog 117 #[.slice A b.length c] w (Scanned w b) := by
  have HH := Lib.hid h
  clear h
  go_enter Tryz.func117, Tryz.ntmps117
  go_wp2_with fail
  go_loopw [4, 5] (fun v u wr => ∃ (OA : Option Addr) (OC : Nat) (l : List Fv) (B : Option Addr) (d : Nat) (r : List UInt8), v = .slice OA l.length OC ∧ u = .slice B r.length d ∧ r.length ≤ d ∧ d ≤ 9223372036854775807 ∧ Hid (Frm.Scans b (l.map Fv.pr) r) ∧ Hid (OwnFv 164 wr w.heap.size OA OC l) ∧ Hid (RdB wr wr.heap.size B r) ∧ Hid (r ≠ [] → Off [blk OA] (blk B)) ∧ Hid (Below w.heap.size w wr)) (fun _ u _ => (match u with | .slice _ n _ => n | _ => 0))
  case atStart => exact ⟨none, 0, [], A, c, b, rfl, rfl, hc, hcc, Lib.hid (Frm.Scans.nil b), Lib.hid OwnFv.nil, HH, Lib.hid (fun _ g hg hm => by simp [blk] at hm), Lib.hid (Below.refl _ _)⟩
  case round =>
    obtain ⟨OA, OC, l, B, d, r, rfl, rfl, hrd, hdd, HS, HO, HR, HOF, HB⟩ := hrel
    have hlen := HS.out.len
    rw [List.length_map] at hlen
    have KT := rftake_any B d r wr HR.out (by omega) hrd hdd
    cases ht : Frm.take r with
    | none =>
      rw [ht] at KT
      have HK := Lib.hid KT
      have HT := Lib.hid ht
      clear KT ht
      go_wp2_with fail
      refine HK.out.mono ?_
      rintro e w1 ⟨hb1, rfl⟩
      have HO1 := Lib.hid (HO.out.call hb1)
      have HB1 := Lib.hid (HB.out.trans (hb1.mono HB.out.size))
      clear hb1
      go_wp2_with fail
      go_ret2
      have hbA : ∀ o, Below w1.heap.size w1 (w1.alloc o) := fun o => (Below.refl _ _).alloc (Nat.le_refl _) o
      exact ⟨l, r, OA, OC, HS.out, HT.out, rfl, (HO1.out.call (hbA _)).rd, HO1.out.row.cap, ownS_cap_le HO1.out.row, HB1.out.trans ((hbA _).mono HB1.out.size)⟩
    | some v =>
      obtain ⟨k, t, r'⟩ := v
      rw [ht] at KT
      have HK := Lib.hid KT
      have HT := Lib.hid ht
      clear KT ht
      go_wp2_with fail
      refine HK.out.mono ?_
      have ht2 := HT.out
      rintro e w1 ⟨hb1, A1, c1, B1, d1, rfl, ho1, hr1, hd1, hdd1, hf1⟩
      have HO1 := Lib.hid (HO.out.call hb1)
      have HB1 := Lib.hid (HB.out.trans (hb1.mono HB.out.size))
      have HS1 := Lib.hid (HS.out.step HT.out)
      have HOB := Lib.hid (ho1.mono HB.out.size)
      have HFR := Lib.hid (off_frs (HOF.out (fun e => by rw [e] at ht2; cases ht2)) HO.out.lts hf1)
      have HFT : Hid (Off [blk OA] (blk A1)) := Lib.hid (Off.fresh (n := wr.heap.size) (fun g hg => (ho1.blk_ge g hg).1) HO.out.lts)
      have HR1 := Lib.hid hr1
      clear hb1 ho1 hf1 hr1 ht2
      have FT := 164
      have HW2 : Hid (∀ o p, OwnFv 164 ((w1.alloc o).alloc p) w.heap.size OA OC l ∧ Own ((w1.alloc o).alloc p) w.heap.size 5 A1 c1 t ∧ RdB ((w1.alloc o).alloc p) ((w1.alloc o).alloc p).heap.size B1 r' ∧ Below w.heap.size w ((w1.alloc o).alloc p)) := Lib.hid (fun o p =>
        ⟨HO1.out.call (below_al2 _ _ _), HOB.out.below (below_al2 _ _ _), (HR1.out.below (below_al2 _ _ _) (Nat.le_refl _)).more (below_al2 _ _ _).size, HB1.out.trans ((below_al2 _ _ _).mono HB1.out.size)⟩)
      have hws := HB1.out.size
      clear FT
      go_wp2_with (at_builtin; refine wpList_append_s _ rfl _ _ rfrT rfl w.heap.size OA OC l rfl (HW2.out _ _).1.row (w1.heap.size + 2) (some ⟨w1.heap.size + 1, 0, none⟩) 1 1 [⟨k, A1, c1, t⟩] rfl rfl (rd_frame_new2 _ w1 _ ⟨k, A1, c1, t⟩) (by simp; omega) (by unfold maxLen; simp; omega) (by simp; omega) ?_)
      intro OA' OC' L' w9 hL ho hg hat
      rw [hL] at ho
      have HO9 := Lib.hid ((HW2.out _ _).1.app (f := ⟨k, A1, c1, t⟩) (HW2.out _ _).2.1 HFT.out ho hg (by simpa using hat))
      have HR9 := Lib.hid (rdB_kept (HW2.out _ _).2.2.1 hg (HFR.out.ne (by simp)))
      have HOF9 := Lib.hid (off_row HFR.out hat HR1.out (by omega))
      have HB9 := Lib.hid ((HW2.out _ _).2.2.2.grown hg (HW2.out _ _).2.2.2.size (fun g hgg => (HO1.out.row.blk_ge g hgg).1))
      obtain ⟨L, hL2⟩ : ∃ L, L = l ++ [(⟨k, A1, c1, t⟩ : Fv)] := ⟨_, rfl⟩
      rw [← hL2] at hL HO9
      subst hL
      have HS9 : Hid (Frm.Scans b (L'.map Fv.pr) r') := Lib.hid (by rw [hL2, List.map_append]; exact HS1.out)
      have hlt : r'.length < r.length := by
        have := (Frm.of_take HT.out).1
        have h2 := Frm.put_pos k t
        rw [this, List.length_append]; omega
      clear hL2 ho hg hat HW2 HO1 HOB HFR HR1 HS1 HS HO HR HOF HB HK HT HFT HB1 hws
      go_wp2_with fail
      go_roundw
      case rel => exact ⟨OA', OC', L', B1, d1, r', rfl, rfl, hd1, hdd1, HS9, HO9, HR9, HOF9, HB9⟩
      case measure => simpa using hlt
end Go.Proofs.YtaiokogbhfliiaaGreatDoor
