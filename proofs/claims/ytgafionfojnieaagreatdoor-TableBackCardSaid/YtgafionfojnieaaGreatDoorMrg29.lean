/- Parts of the proof, one behind the other: The contract of frame.Take.; append of parts; the contract of the program's Parts.; The contract of the reference's Parts.; The walk of the reference's Parts.; The contract of the program's Parts. -/
import Derived.Test.YtgafionfojnieaaGreatDoorMrg27
import Derived.Test.YtgafionfojnieaaGreatDoorMrg28
import Derived.Deep.RegionHeld
import Derived.Outline
namespace Go.Proofs.YtgafionfojnieaaGreatDoor
open Go.RowKit
open Lib (hid)
def TakenR (w : World) (A0 : Option Addr) (v : Option (UInt8 × List UInt8 × List UInt8)) (e : Ending) (w' : World) : Prop :=
 Below w.heap.size w w' ∧ match v with
 | none => e = .returned (.tuple #[.agg #[.int .u8 0, .slice none 0 0], .slice none 0 0, .int .i64 3])
 | some (k, t, r) => ∃ A c B d, e = .returned (.tuple #[.agg #[.int .u8 (k.toNat : Int), .slice A t.length c], .slice B r.length d, .int .i64 0]) ∧ Own w' w.heap.size 5 A c t ∧ RdB w' w'.heap.size B r ∧ r.length ≤ d ∧ d ≤ 9223372036854775807 ∧ Frs w' w.heap.size A0 B
theorem takenR_no {w w' : World} {A0 : Option Addr} {b : List UInt8} (hv : Frm.take b = none) (hb : Below w.heap.size w w') : TakenR w A0 (Frm.take b) (.returned (.tuple #[.agg #[.int .u8 0, .slice none 0 0], .slice none 0 0, .int .i64 3])) w' := by
 rw [hv]; exact ⟨hb, rfl⟩
theorem frame_size : (Tryz.prog.info? 60).map (fun x => x.size) = some 2 := by kernel_rfl
theorem take_cons_none {k : UInt8} {l : List UInt8} (h : cutT (Cod.take l) = none) : Frm.take (k :: l) = none := by unfold Frm.take; simp only [h]
theorem take_cons_no {k : UInt8} {l t r : List UInt8} (h : cutT (Cod.take l) = some (t, r)) (hn : ¬ (t.length ≤ 65536 ∧ 4 ≤ r.length ∧ r.take 4 = Frm.be4 (Chk.sum (Frm.head k t)))) : Frm.take (k :: l) = none := by
 unfold Frm.take; simp only [h]; rw [if_neg hn]
theorem take_cons_yes {k : UInt8} {l t r : List UInt8} (h : cutT (Cod.take l) = some (t, r)) (hn : t.length ≤ 65536 ∧ 4 ≤ r.length ∧ r.take 4 = Frm.be4 (Chk.sum (Frm.head k t))) : Frm.take (k :: l) = some (k, t, r.drop 4) := by
 unfold Frm.take; simp only [h]; rw [if_pos hn]
theorem takeTextS_cut (A : Option Addr) (n c : Nat) (b : List UInt8) (w : World) (hn : n = b.length) (h : RdB w w.heap.size A b) (hl : b.length ≤ 140737488355328) (hc : b.length ≤ c) (hcc : c ≤ 9223372036854775807) :
   Calls Tryz.prog 94 #[.slice A n c] w (TakenS w A (cutT (Cod.take b))) := by subst hn; exact takeTextS_any A c b w h hl hc hcc
theorem frs_sets {w : World} {n G : Nat} {A B : Option Addr} (h : Frs w n A B) (hG : ∀ x, blk B = some x → x ≠ G) (a b : Value) : Frs ((w.setCell ⟨G, 0, none⟩ a).setCell ⟨G, 1, none⟩ b) n A B := fun g hg => by
 rcases h g hg with h1 | ⟨h1, cs, fr, h2⟩
 · exact .inl h1
 · refine .inr ⟨h1, cs, fr, ?_⟩
   rw [Below.heap_setCell _ _ _ _ (by have := hG g hg; simpa using this), Below.heap_setCell _ _ _ _ (by have := hG g hg; simpa using this)]
   exact h2
theorem heap_set2 {w : World} {g : Nat} {x y a b : Value} {T : TypeId} (h : w.heap[g]? = some (.cells #[x, y] T)) : ((w.setCell ⟨g, 0, none⟩ a).setCell ⟨g, 1, none⟩ b).heap[g]? = some (.cells #[a, b] T) := by
 have h1 := heap_setCell_same w g 0 _ T a h
 have h2 := heap_setCell_same _ g 1 _ T b h1
 simpa using h2
theorem join8u {n x : Nat} (hn : n < 16777216) (hx : x < 256) : bits .or .u32 ((n : Int) * 256) (x : Int) = ((n * 256 + x : Nat) : Int) := by
 have e1 : ((n : Int) * 256) = ((n * 256 : Nat) : Int) := by omega
 rw [e1, u32_or_nat _ _ (by omega) (by omega), nat_join8 (n * 256) x (by omega) (by omega)]
theorem chksum_cut (A : Option Addr) (n c : Nat) (l : List UInt8) (w : World) (hn : n = l.length) (h : RdB w w.heap.size A l) (hl : l.length ≤ 140737488355328) :
   Calls Tryz.prog 111 #[.slice A n c] w fun e w' => e = .returned (.int .u32 (Chk.sum l : Int)) ∧ Below w.heap.size w w' := by subst hn; exact chksum_any A c l w h hl
theorem own_keep2 {w w' : World} {base c : Nat} {e : TypeId} {A : Option Addr} {l : List UInt8} (h : Own w base e A c l) (hb : ∀ g, blk A = some g → w'.heap[g]? = w.heap[g]?) : Own w' base e A c l := by
 refine ⟨h.1, ?_⟩
 rcases h.2 with h2 | ⟨g, cap, cur, hv, hg, hh, r⟩
 · exact .inl h2
 · refine .inr ⟨g, cap, cur, hv, hg, ?_, r⟩
   injection hv with hv
   rw [hb g (by rw [hv]; rfl)]
   exact hh
theorem own_le2 {w : World} {n c : Nat} {T : TypeId} {A : Option Addr} {l : List UInt8} (h : Own w (n + 1) T A c l) : Own w n T A c l := h.mono (Nat.le_succ n)
theorem own_sets {w : World} {base G c : Nat} {T : TypeId} {A : Option Addr} {l : List UInt8} (h : Own w base T A c l) (hG : G < base) (a b : Value) : Own ((w.setCell ⟨G, 0, none⟩ a).setCell ⟨G, 1, none⟩ b) base T A c l := by
 refine own_keep2 h (fun g hg => ?_)
 have h1 := (h.blk_ge g hg).1
 rw [Below.heap_setCell _ _ _ _ (by simp; omega), Below.heap_setCell _ _ _ _ (by simp; omega)]
theorem rdB_sets2 {w : World} {B G : Nat} {A : Option Addr} {l : List UInt8} (h : RdB w B A l) (hA : ∀ g, blk A = some g → g ≠ G) (a b : Value) : RdB ((w.setCell ⟨G, 0, none⟩ a).setCell ⟨G, 1, none⟩ b) B A l := by
 refine ⟨h.1, fun hn => ?_⟩
 obtain ⟨ad, e, hb, hc⟩ := h.2 hn
 have hne : ad.block ≠ G := hA _ (by rw [e]; rfl)
 refine ⟨ad, e, hb, fun j u hu => ?_⟩
 rw [World.cell?_setCell_other _ _ _ _ (fun e => hne (by rw [← block_of_add ad j, ← e])), World.cell?_setCell_other _ _ _ _ (fun e => hne (by rw [← block_of_add ad j, ← e]))]
 exact hc j u hu
set_option maxHeartbeats 2000000 in
set_option maxRecDepth 100000 in
theorem ftake_any (A : Option Addr) (c : Nat) (b : List UInt8) (w : World) (h : RdB w w.heap.size A b) (hl : b.length ≤ 140737488355328) (hc : b.length ≤ c) (hcc : c ≤ 9223372036854775807) :
   Calls Tryz.prog 91 #[.slice A b.length c] w (TakenR w A (Frm.take b)) := by
 have HAL : Hid (∀ o, Below w.heap.size w (w.alloc o)) := hid (fun o => (Below.refl _ _).alloc (Nat.le_refl _) o)
 rcases b with _ | ⟨k, b⟩
 · go_enter Tryz.func91, Tryz.ntmps91
   go_wp2_with fail
   refine bodyPost_ret (results_c3 rfl _ _ w.heap.size 60 #[.int .u8 0, .slice none 0 0] _ _ rfl (heap_alloc_new _ _) Tryz.underlying60 rfl frame_size) rfl ?_
   exact takenR_no rfl (HAL.out _)
 · obtain ⟨g, off, rfl, hab, hcell⟩ := h.at_ (k := 0) (by simp)
   have hcut := h.cut (k := 1) (c := c) (by simp) hc
   simp only [List.drop_succ_cons, List.drop_zero] at hcut
   have HH := hid h
   obtain ⟨n, hn⟩ : ∃ n, n = b.length := ⟨_, rfl⟩
   have hcell0 : w.cell? ⟨g, off, none⟩ = some (.int .u8 (k.toNat : Int)) := by simpa using hcell
   have hln : (k :: b).length = n + 1 := by rw [hn]; rfl
   rw [hln] at hl hc ⊢
   have h1c : (1 : Int) ≤ (c : Int) := by omega
   obtain ⟨kn, hkn⟩ : ∃ kn, kn = k.toNat := ⟨_, rfl⟩
   rw [← hkn] at hcell0
   have HC0 := hid hcell0
   have HKN := hid hkn
   by_cases hc1 : c = 1
   · subst hc1
     have hn0 : n = 0 := by omega
     subst hn0
     have hb0 : b = [] := List.eq_nil_of_length_eq_zero hn.symm
     subst hb0
     have hx : cutT (Cod.take []) = none := rfl
     have HE := hid (take_cons_none (k := k) hx)
     have KT : Hid (∀ A w, Calls Tryz.prog 94 #[.slice A 0 0] w (TakenS w A none)) := hid (fun A w => by
       have := takeTextS_cut A 0 0 [] w rfl RdB.nil (by simp) (by simp) (by omega)
       rwa [hx] at this)
     clear hcell hcut h hn hln hkn hx
     go_enter Tryz.func91, Tryz.ntmps91
     go_wp2_with fail
     refine (KT.out _ _).mono ?_
     intro e w1 hh
     obtain ⟨hb1, rfl⟩ := takenS_none hh
     have hcw : w1.heap[w.heap.size]? = some (.cells #[.int .u8 0, .slice none 0 0] 60) := (hb1.block _ (by simp)).trans (heap_alloc_new _ _)
     have HCW := hid hcw
     have HB1 : Hid (Below w.heap.size w w1) := hid ((HAL.out _).trans (hb1.mono (by simp)))
     have q0 := cell_of_row w1 w.heap.size 0 _ _ (0, 0) hcw
     have q1 := cell_of_row w1 w.heap.size 1 _ _ (0, 0) hcw
     have f0 := frozen_of_row w1 w.heap.size 0 _ _ hcw
     have f1 := frozen_of_row w1 w.heap.size 1 _ _ hcw
     simp only [List.getElem?_toArray, List.getElem?_cons_zero, List.getElem?_cons_succ] at q0 q1
     clear hh hcw hb1
     go_wp2_with fail
     refine bodyPost_ret (results_c3 rfl _ _ w.heap.size 60 #[.int .u8 0, .slice none 0 0] _ _ rfl (heap_set2 HCW.out) Tryz.underlying60 rfl frame_size) rfl ?_
     exact takenR_no HE.out ((HB1.out.setCell (by simp) _).setCell (by simp) _)
   · rw [if_neg hc1] at hcut
     have HCUT := hid hcut
     have HN := hid hn
     clear hcell hcut h hn hln hcell0 hkn
     go_enter Tryz.func91, Tryz.ntmps91
     go_wp2_with fail
     refine (takeTextS_cut _ _ _ b _ HN.out ((HCUT.out.alloc (Nat.le_refl _) _).more (by simp)) (by have := HN.out; omega) (by have := HN.out; omega) (by omega)).mono ?_
     cases hx : cutT (Cod.take b) with
     | none =>
       intro e w1 hh
       obtain ⟨hb1, rfl⟩ := takenS_none hh
       have HE := hid (take_cons_none (k := k) hx)
       have hcw : w1.heap[w.heap.size]? = some (.cells #[.int .u8 0, .slice none 0 0] 60) := (hb1.block _ (by simp)).trans (heap_alloc_new _ _)
       have HCW := hid hcw
       have HB1 : Hid (Below w.heap.size w w1) := hid ((HAL.out _).trans (hb1.mono (by simp)))
       have q0 := cell_of_row w1 w.heap.size 0 _ _ (0, 0) hcw
       have q1 := cell_of_row w1 w.heap.size 1 _ _ (0, 0) hcw
       have f0 := frozen_of_row w1 w.heap.size 0 _ _ hcw
       have f1 := frozen_of_row w1 w.heap.size 1 _ _ hcw
       simp only [List.getElem?_toArray, List.getElem?_cons_zero, List.getElem?_cons_succ] at q0 q1
       clear hx hh hcw hb1
       go_wp2_with fail
       refine bodyPost_ret (results_c3 rfl _ _ w.heap.size 60 #[.int .u8 0, .slice none 0 0] _ _ rfl (heap_set2 HCW.out) Tryz.underlying60 rfl frame_size) rfl ?_
       exact takenR_no HE.out ((HB1.out.setCell (by simp) _).setCell (by simp) _)
     | some v =>
       obtain ⟨t, r⟩ := v
       intro e w1 hh
       obtain ⟨hb1, A1, c1, B1, d1, rfl, ho1, hr1, hd1, hdd1, hf1⟩ := takenS_some hh
       have hcw : w1.heap[w.heap.size]? = some (.cells #[.int .u8 0, .slice none 0 0] 60) := (hb1.block _ (by simp)).trans (heap_alloc_new _ _)
       have HCW := hid hcw
       have HB1 : Hid (Below w.heap.size w w1) := hid ((HAL.out _).trans (hb1.mono (by simp)))
       have HO1 : Hid (Own w1 (w.heap.size + 1) 5 A1 c1 t) := hid (by simpa using ho1)
       have HF1 : Hid (Frs w1 w.heap.size (some ⟨g, off, none⟩) B1) := hid (fun x hx => by
         rcases hf1 x hx with h1 | ⟨h1, h2⟩
         · exact .inl h1
         · exact .inr ⟨by have : w.heap.size + 1 ≤ x := (by simpa using h1); omega, h2⟩)
       have HFG : Hid (∀ x, blk B1 = some x → x ≠ w.heap.size) := hid (fun x hx => by
         rcases hf1 x hx with h1 | ⟨h1, _⟩
         · have : g = x := by simpa [blk] using h1
           omega
         · have : w.heap.size + 1 ≤ x := (by simpa using h1); omega)
       have HR1 := hid hr1
       have q0 := cell_of_row w1 w.heap.size 0 _ _ (0, 0) hcw
       have q1 := cell_of_row w1 w.heap.size 1 _ _ (0, 0) hcw
       have f0 := frozen_of_row w1 w.heap.size 0 _ _ hcw
       have f1 := frozen_of_row w1 w.heap.size 1 _ _ hcw
       simp only [List.getElem?_toArray, List.getElem?_cons_zero, List.getElem?_cons_succ] at q0 q1
       have htx := Frm.cutT_text hx
       have HX := hid hx
       have HTX := hid htx
       clear hx hh hcw hb1 hf1 hr1 ho1 htx
       by_cases ht : (65536 : Int) < (t.length : Int)
       · have HE := hid (take_cons_no (k := k) HX.out (fun h => by have := h.1; omega))
         go_wp2_with fail
         refine bodyPost_ret (results_c3 rfl _ _ w.heap.size 60 #[.int .u8 0, .slice none 0 0] _ _ rfl (heap_set2 HCW.out) Tryz.underlying60 rfl frame_size) rfl ?_
         exact takenR_no HE.out ((HB1.out.setCell (by simp) _).setCell (by simp) _)
       by_cases hr : (r.length : Int) < 4
       · have HE := hid (take_cons_no (k := k) HX.out (fun h => by have := h.2.1; omega))
         go_wp2_with fail
         refine bodyPost_ret (results_c3 rfl _ _ w.heap.size 60 #[.int .u8 0, .slice none 0 0] _ _ rfl (heap_set2 HCW.out) Tryz.underlying60 rfl frame_size) rfl ?_
         exact takenR_no HE.out ((HB1.out.setCell (by simp) _).setCell (by simp) _)
       obtain ⟨g2, off2, rfl, hg2, _⟩ := HR1.out.at_ (k := 0) (by omega)
       have HR1' := hid HR1.out
       go_wp2_with fail
       go_loop [8, 38] (fun v i => ∃ j x : Nat, j ≤ 4 ∧ i = .int .i64 (j : Int) ∧ v = .int .u32 (x : Int) ∧ Hid (x = Frm.num4 (r.take j))) (fun _ i => 4 - (intOf i).toNat)
       case atStart => exact ⟨0, 0, by omega, rfl, rfl, hid rfl⟩
       case round =>
         obtain ⟨j, x, hj, rfl, rfl, HX4⟩ := hrel
         by_cases hj4 : j < 4
         · obtain ⟨g3, off3, e3, _, hcj⟩ := HR1.out.at_ (k := j) (by omega)
           injection e3 with e3
           injection e3 with e4 e5
           subst e4 e5
           have hx24 : x < 16777216 := by
             have h1 := Frm.num4_lt (r.take j) 0
             rw [HX4.out]
             unfold Frm.num4
             have h2 : (r.take j).length ≤ 3 := by rw [List.length_take]; omega
             have h3 : (256 : Nat) ^ (r.take j).length ≤ 256 ^ 3 := Nat.pow_le_pow_right (by omega) h2
             have h4 : (256 : Nat) ^ 3 = 16777216 := by decide
             omega
           have hsn : Frm.num4 (r.take (j + 1)) = x * 256 + (r[j]'(by omega)).toNat := by
             rw [List.take_succ_eq_append_getElem (by omega), Frm.num4_snoc, HX4.out]
           have hyl := (r[j]'(by omega)).toNat_lt
           obtain ⟨y, hy⟩ : ∃ y, y = (r[j]'(by omega)).toNat := ⟨_, rfl⟩
           rw [← hy] at hcj hsn hyl
           have hjn := join8u hx24 hyl
           have HSN := hid hsn
           have hxi : (x : Int) < 16777216 := by omega
           have hyi : (y : Int) < 256 := by omega
           have hj0 : (0 : Int) ≤ (j : Int) := by omega
           have hj1 : (j : Int) < 4 := by omega
           clear hy hsn hx24 hyl
           go_wp2_with fail
           go_round
           case rel => exact ⟨j + 1, x * 256 + y, by omega, by go_num, rfl, hid HSN.out.symm⟩
           case measure => simp [intOf]; omega
         · obtain rfl : j = 4 := by omega
           have htk : (k :: b).take (n + 1 - r.length) = Frm.head k t ∧ r.length ≤ n := by
             have h1 := HTX.out
             have h2 := HN.out
             have h3 : n = (Cod.text t).length + r.length := by rw [h2, h1, List.length_append]
             refine ⟨?_, by omega⟩
             rw [show n + 1 - r.length = (Cod.text t).length + 1 by omega, List.take_succ_cons, h1, List.take_left']
             · rfl
             · rfl
           have HTK := hid htk.1
           have hrn := htk.2
           have HRC : Hid (n + 1 - r.length = ((k :: b).take (n + 1 - r.length)).length) := hid (by
             have := HN.out
             rw [List.length_take, List.length_cons]; omega)
           have HRT : Hid (RdB w1 w1.heap.size (some ⟨g, off, none⟩) ((k :: b).take (n + 1 - r.length))) := hid (((HH.out.take (by have := HN.out; rw [List.length_cons]; omega)).below HB1.out (Nat.le_refl _)).more HB1.out.size)
           have KS := hid (fun m (hm : m = n + 1 - r.length) => chksum_cut (some ⟨g, off, none⟩) m c _ w1 (hm.trans HRC.out) HRT.out (by have := HN.out; rw [List.length_take, List.length_cons]; omega))
           rw [HTK.out] at KS
           obtain ⟨S, hS⟩ : ∃ S, S = Chk.sum (Frm.head k t) := ⟨_, rfl⟩
           rw [← hS] at KS
           have HSI := Frm.sum_iff r (Frm.head k t) (by omega)
           rw [← hS, ← HX4.out] at HSI
           have HS := hid hS
           have hs0 : (0 : Int) ≤ (n : Int) + 1 - (r.length : Int) := by omega
           have hs1 : (n : Int) + 1 - (r.length : Int) ≤ (c : Int) := by omega
           clear htk hS hj4 hj
           by_cases hsx : S = x
           case pos =>
             have HE := hid (take_cons_yes (k := k) HX.out ⟨by omega, by omega, by rw [← HS.out]; exact HSI.2 hsx⟩)
             subst hsx
             go_wp2_with fail
             refine (KS.out _ rfl).mono ?_
             rintro e w3 ⟨rfl, hb3⟩
             have hz1 : w.heap.size < w1.heap.size := by have := HCW.out; rw [Array.getElem?_eq_some_iff] at this; exact this.1
             have hcw3 := (hb3.block _ hz1).trans HCW.out
             have HCW3 := hid hcw3
             have c0 := (hb3.cell (p := ⟨g, off, none⟩) (by have := HB1.out.size; simp; omega)).trans ((HB1.out.cell (p := ⟨g, off, none⟩) hab).trans HC0.out)
             have q0 := cell_of_row w3 w.heap.size 0 _ _ (0, 0) hcw3
             have q1 := cell_of_row w3 w.heap.size 1 _ _ (0, 0) hcw3
             have f0 := frozen_of_row w3 w.heap.size 0 _ _ hcw3
             have f1 := frozen_of_row w3 w.heap.size 1 _ _ hcw3
             simp only [List.getElem?_toArray, List.getElem?_cons_zero, List.getElem?_cons_succ] at q0 q1
             have hr4 := HR1.out.cut (k := 4) (c := d1) (by omega) (by omega)
             have HO3 := hid (HO1.out.below hb3)
             have HB3 := hid (HB1.out.trans (hb3.mono HB1.out.size))
             have HBB := hid hb3
             have i0 : (4 : Int) ≤ (r.length : Int) := by omega
             have i1 : (r.length : Int) ≤ (d1 : Int) := by omega
             have i2 : (0 : Int) < (n : Int) + 1 := by omega
             have HK : Hid (((w3.setCell ⟨w.heap.size, 0, none⟩ (.int .u8 (kn : Int))).setCell ⟨w.heap.size, 1, none⟩ (.slice A1 t.length c1)).cell? ⟨g, off, none⟩ = some (.int .u8 (kn : Int))) := hid (by
               rw [World.cell?_setCell_other _ _ _ _ (fun e => by injection e with e1; omega), World.cell?_setCell_other _ _ _ _ (fun e => by injection e with e1; omega)]
               exact c0)
             by_cases hd4 : d1 = 4
             · rw [if_pos hd4] at hr4
               have HR4 := hid ((hr4.below hb3 (Nat.le_refl _)).more hb3.size)
               clear hcw3 hb3 hr4 KS hz1
               go_wp2_with fail
               go_region_held (fun w' => w'.cell? ⟨g, off, none⟩ = some (.int .u8 (kn : Int))) (first | exact c0 | exact HK.out) (fail)
               go_wp2_with fail
               refine bodyPost_ret (results_c3 rfl _ _ w.heap.size 60 #[.int .u8 (kn : Int), .slice A1 t.length c1] _ _ rfl (heap_set2 HCW3.out) Tryz.underlying60 rfl frame_size) rfl ?_
               rw [HE.out]
               refine ⟨((HB3.out.setCell (by simp) _).setCell (by simp) _).drew, A1, c1, some ⟨g2, off2, none⟩, 0, ?_, own_le2 (own_sets HO3.out (by omega) _ _), (rdB_sets2 HR4.out HFG.out _ _).more (by simp), by simp; omega, by omega, frs_sets (HF1.out.below HBB.out) HFG.out _ _⟩
               rw [HKN.out, List.length_drop]; rfl
             · rw [if_neg hd4] at hr4
               have HR4 := hid ((hr4.below hb3 (Nat.le_refl _)).more hb3.size)
               clear hcw3 hb3 hr4 KS hz1
               go_wp2_with fail
               go_region_held (fun w' => w'.cell? ⟨g, off, none⟩ = some (.int .u8 (kn : Int))) (first | exact c0 | exact HK.out) (fail)
               go_wp2_with fail
               refine bodyPost_ret (results_c3 rfl _ _ w.heap.size 60 #[.int .u8 (kn : Int), .slice A1 t.length c1] _ _ rfl (heap_set2 HCW3.out) Tryz.underlying60 rfl frame_size) rfl ?_
               rw [HE.out]
               refine ⟨((HB3.out.setCell (by simp) _).setCell (by simp) _).drew, A1, c1, some ⟨g2, off2 + 4, none⟩, d1 - 4, ?_, own_le2 (own_sets HO3.out (by omega) _ _), (rdB_sets2 HR4.out HFG.out _ _).more (by simp), by simp; omega, by omega, frs_sets (HF1.out.below HBB.out) HFG.out _ _⟩
               rw [HKN.out, List.length_drop]; rfl
           case neg =>
             have HE := hid (take_cons_no (k := k) HX.out (fun h => hsx (by rw [← HS.out] at h; exact HSI.1 h.2.2)))
             have hsx2 : ((S : Int) == (x : Int)) = false := by simp; omega
             have hsx3 : ((S : Int) != (x : Int)) = true := by simp; omega
             go_wp2_with fail
             refine (KS.out _ rfl).mono ?_
             rintro e w3 ⟨rfl, hb3⟩
             have hz1 : w.heap.size < w1.heap.size := by have := HCW.out; rw [Array.getElem?_eq_some_iff] at this; exact this.1
             have hcw3 := (hb3.block _ hz1).trans HCW.out
             have HCW3 := hid hcw3
             have q0 := cell_of_row w3 w.heap.size 0 _ _ (0, 0) hcw3
             have q1 := cell_of_row w3 w.heap.size 1 _ _ (0, 0) hcw3
             have f0 := frozen_of_row w3 w.heap.size 0 _ _ hcw3
             have f1 := frozen_of_row w3 w.heap.size 1 _ _ hcw3
             simp only [List.getElem?_toArray, List.getElem?_cons_zero, List.getElem?_cons_succ] at q0 q1
             have HB3 := hid (HB1.out.trans (hb3.mono HB1.out.size))
             clear hcw3 hb3 KS hz1 hsx
             go_wp2_with fail
             refine bodyPost_ret (results_c3 rfl _ _ w.heap.size 60 #[.int .u8 0, .slice none 0 0] _ _ rfl (heap_set2 HCW3.out) Tryz.underlying60 rfl frame_size) rfl ?_
             exact takenR_no HE.out ((HB3.out.setCell (by simp) _).setCell (by simp) _)
def OwnP (w : World) (base : Nat) (A : Option Addr) (c : Nat) (l : List Pt) : Prop := w.ownsRow base 142 3 (.slice A l.length c) l.length (pv l)
section
variable {w w' : World} {base : Nat} {A : Option Addr} {c : Nat} {l : List Pt}
theorem OwnP.rd (h : OwnP w base A c l) : RdP w w.heap.size A l := Reads.of_own h
theorem OwnP.alloc (h : OwnP w base A c l) (o : Obj) : OwnP (w.alloc o) base A c l := World.ownsRow.alloc h o
theorem OwnP.below (h : OwnP w base A c l) (hb : Below w.heap.size w w') : OwnP w' base A c l :=
 World.ownsRow.kept (row := none) h ⟨hb.os, hb.tape, hb.output, hb.size, fun k hk _ => hb.block k hk⟩ (by cases A <;> simp [Value.ownBlock])
theorem OwnP.blk_ge (h : OwnP w base A c l) : ∀ g, blk A = some g → base ≤ g ∧ g < w.heap.size := by
 intro g hg
 refine World.ownsRow.lt h g ?_
 cases A with
 | none => simp [blk] at hg
 | some a => simpa [Value.ownBlock, blk] using hg
theorem OwnP.nil (w : World) (base : Nat) : OwnP w base none 0 [] := World.ownsRow_nil _ _ _ _
end
theorem pv_one (l : List Pt) : ∀ u ∈ pv l, u.oneCell' = true := by
 intro u hu
 simp only [pv, List.mem_flatMap] at hu
 obtain ⟨p, _, hu⟩ := hu
 simp only [Pt.cells, List.mem_cons, List.not_mem_nil, or_false] at hu
 rcases hu with rfl | rfl | rfl <;> rfl
theorem part_info : (Tryz.prog.info? 142).map (fun i => (i.zero, i.size, i.bytes)) = some (some (.agg #[.bool false, .int .u64 0, .string ⟨#[]⟩]), 3, 32) := by kernel_rfl
theorem wpList_append_p (w : World) {ops : Array Oper} {rest : List Oper} {o : Oper} {a : Act} {Q : Exit → Act → World → Prop} (hgd : o.guard = none) (s x : Operand)
   (ho : o.op = .call { callee := .builtin .append, args := #[s, x], argTypes := #[138, 138] })
   (base : Nat) (A : Option Addr) (c : Nat) (l : List Pt) (hs : a.eval s = .slice A l.length c) (hown : OwnP w base A c l)
   (B : Nat) (A2 : Option Addr) (m c2 : Nat) (l2 : List Pt) (hx : a.eval x = .slice A2 m c2) (hm : m = l2.length) (hr : RdP w B A2 l2) (hlen : (l.length + l2.length) * 32 ≤ 140737488355328) (hbase : base ≤ w.heap.size)
   (h : ∀ A' c' L w', L = l ++ l2 → OwnP w' base A' c' L → w.grownBy w' (blk A) → (blk A' = blk A ∨ blk A' = some w.heap.size) → wpList Tryz.prog ops Q rest (a.put o.dst (.slice A' L.length c')) w') : wpList Tryz.prog ops Q (o :: rest) a w :=
 wpList_plain hgd fun K hK => by
   subst hm
   obtain ⟨i, hi, hz0, hz1, hz2⟩ := info_parts part_info
   obtain ⟨v', w', hrun, h2, h3, h4⟩ := run_append_any (P := Tryz.prog) w base 138 o.type 142 i _ 3 32 Tryz.underlying138 hi hz0 hz1 hz2 rfl (by omega) (.slice A l.length c) l.length (pv l) hown B A2 l2.length c2 (pv l2) hr (pv_one l2)
     (by unfold maxLen; omega) hlen hbase
   rw [ownBlock_slice] at h3 h4
   have hv : ∃ A' c', v' = .slice A' (l ++ l2).length c' := by
     rw [List.length_append]
     rcases h2.2 with ⟨hv, hn⟩ | ⟨g, cap, cur, hv, _⟩
     · exact ⟨none, 0, by rw [hv, hn]⟩
     · exact ⟨_, _, hv⟩
   obtain ⟨A', c', rfl⟩ := hv
   rw [ownBlock_slice] at h4
   have h5 : OwnP w' base A' c' (l ++ l2) := by
     unfold OwnP
     rw [pv_append]
     rw [List.length_append] at h2 ⊢
     exact h2
   unfold Oper.wp execOp
   simp only [ho, resolve, invoke, builtin, Sem.run_bind, Sem.run_pure, Result.andThen_ok, List.map_toArray, List.map_cons, List.map_nil, hs, hx, hrun]
   exact hK _ _ (h A' c' _ w' rfl h5 h3 h4)
theorem rdP_one (w : World) (p : Pt) (H : Nat) (hH : w.heap.size = H) : RdP (w.alloc (.cells #[.bool p.t, .int .u64 (p.n : Int), .string p.s] 142)) (w.alloc (.cells #[.bool p.t, .int .u64 (p.n : Int), .string p.s] 142)).heap.size (some ⟨H, 0, none⟩) [p] := by
 subst hH
 refine ⟨by rfl, fun _ => ⟨_, rfl, by simp, fun j u hu => ?_⟩⟩
 have hadd : (⟨w.heap.size, 0, none⟩ : Addr).add j = ⟨w.heap.size, j, none⟩ := by unfold Addr.add; split <;> simp_all
 rw [hadd, cell_of_row _ w.heap.size j _ _ (0, 0) (heap_alloc_new w _)]
 show (pv [p]).toArray[j]? = some u
 simpa using hu
def Parted (w : World) (b : List UInt8) (e : Ending) (w' : World) : Prop :=
 Below w.heap.size w w' ∧ ((∃ l, Cod.AllN l ∧ Cod.key l = b ∧ ∃ A c, e = .returned (.tuple #[.slice A l.length c, .int .i64 0]) ∧ RdP w' w'.heap.size A l) ∨
   ((∀ l, Cod.AllN l → Cod.key l ≠ b) ∧ e = .returned (.tuple #[.slice none 0 0, .int .i64 3])))
theorem str_ne {l m : List UInt8} {X Y : ByteArray} (hX : (⟨l.toArray⟩ : ByteArray) = X) (hY : (⟨m.toArray⟩ : ByteArray) = Y) (h : l ≠ m) : (X.toList == Y.toList) = false := by
 subst hX hY
 rw [ByteArray.toList_eq, ByteArray.toList_eq]
 simpa using h
theorem takenP_n {w w' : World} {B : Nat} {v : Option (Pt × List UInt8)} {e : Ending} (h : TakenP w B v e w') (hv : v = none) : Below w.heap.size w w' ∧ e = .returned (.tuple #[.agg #[.bool false, .int .u64 0, .string ⟨#[]⟩], .slice none 0 0, .int .i64 3]) := by
 subst hv; exact h
theorem takenP_s {w w' : World} {B : Nat} {v : Option (Pt × List UInt8)} {e : Ending} {p : Pt} {y : List UInt8} (h : TakenP w B v e w') (hv : v = some (p, y)) : Below w.heap.size w w' ∧ ∃ A c, e = .returned (.tuple #[.agg #[.bool p.t, .int .u64 (p.n : Int), .string p.s], .slice A y.length c, .int .i64 0]) ∧ y.length ≤ c ∧ c ≤ 9223372036854775807 ∧ RdB w' B A y := by
 subst hv; exact h
theorem parted_ok {w w' : World} {b : List UInt8} {l : List Pt} {A : Option Addr} {c : Nat} (hb : Below w.heap.size w w') (hl : Cod.AllN l) (hk : Cod.key l = b) (hr : RdP w' w'.heap.size A l) : Parted w b (.returned (.tuple #[.slice A l.length c, .int .i64 0])) w' :=
 ⟨hb, .inl ⟨l, hl, hk, A, c, rfl, hr⟩⟩
theorem parted_no {w w' : World} {b : List UInt8} {out : List Pt} {t : UInt8} {r : List UInt8} (hb : Below w.heap.size w w') (ho : Cod.AllN out) (hk : b = Cod.key out ++ t :: r) (hn : Cod.one (t :: r) = none) : Parted w b (.returned (.tuple #[.slice none 0 0, .int .i64 3])) w' := by
 refine ⟨hb, .inr ⟨fun l hl e => ?_, rfl⟩⟩
 rw [hk] at e
 obtain ⟨l', _, e2, e3⟩ := Cod.key_split out l (t :: r) ho hl e
 obtain ⟨p, y, l'', e4, _⟩ := Cod.key_one e3 e2
 rw [hn] at e4; cases e4
theorem parts_step {b : List UInt8} {out : List Pt} {t : UInt8} {r y : List UInt8} {p : Pt} (hk : b = Cod.key out ++ t :: r) (ho : Cod.AllN out) (hn : Cod.one (t :: r) = some (p, y)) : b = Cod.key (out ++ [p]) ++ y ∧ Cod.AllN (out ++ [p]) := by
 obtain ⟨e1, e2⟩ := Cod.one_dec hn
 refine ⟨?_, fun q hq => ?_⟩
 · rw [hk, e1, Cod.key_append]
   simp [Cod.key]
 · rw [List.mem_append] at hq
   rcases hq with hq | hq
   · exact ho q hq
   · simp at hq; subst hq; exact e2
theorem one_short {t : UInt8} {r y : List UInt8} {p : Pt} (hn : Cod.one (t :: r) = some (p, y)) : y.length < (t :: r).length := by
 obtain ⟨e1, _⟩ := Cod.one_dec hn
 rw [e1, List.length_append]
 have h2 : 0 < (Cod.partKey p).length := List.length_pos_iff.2 (Cod.partKey_ne p)
 omega
theorem cell_over {w w1 w2 : World} {D g off : Nat} {v : Value} (h1 : Below D w w1) (h2 : Below D w w2) (hg : g < D) (h : w1.cell? ⟨g, off, none⟩ = some v) : w2.cell? ⟨g, off, none⟩ = some v :=
 (h2.cell (p := ⟨g, off, none⟩) hg).trans ((h1.cell (p := ⟨g, off, none⟩) hg).symm.trans h)
theorem below_sets {w w4 : World} {B G : Nat} {a b c : Value} (h : Below B w w4) (hz : B ≤ G) : Below B w (((w4.setCell ⟨G, 0, none⟩ a).setCell ⟨G, 1, none⟩ b).setCell ⟨G, 2, none⟩ c) :=
 ((h.setCell hz _).setCell hz _).setCell hz _
theorem cell_sets {w4 : World} {B G g off : Nat} {v a b c : Value} (h : w4.cell? ⟨g, off, none⟩ = some v) (hg : g < B) (hz : B ≤ G) : (((w4.setCell ⟨G, 0, none⟩ a).setCell ⟨G, 1, none⟩ b).setCell ⟨G, 2, none⟩ c).cell? ⟨g, off, none⟩ = some v := by
 rw [World.cell?_setCell_other _ _ _ _ (fun e => by injection e; omega), World.cell?_setCell_other _ _ _ _ (fun e => by injection e; omega), World.cell?_setCell_other _ _ _ _ (fun e => by injection e; omega)]
 exact h
theorem ownP_drew {w1 : World} {B : Nat} {A : Option Addr} {c : Nat} {l : List Pt} (h : OwnP w1 B A c l) : OwnP w1.drew B A c l := h
theorem ownP_sets {w3 : World} {B G : Nat} {A : Option Addr} {c : Nat} {l : List Pt} {x y z : Value} (h : OwnP w3 B A c l) (hne : blk A ≠ some G) : OwnP (((w3.setCell ⟨G, 0, none⟩ x).setCell ⟨G, 1, none⟩ y).setCell ⟨G, 2, none⟩ z) B A c l := by
 have hn : (Value.slice A l.length c).ownBlock ≠ some G := by rw [ownBlock_slice]; exact hne
 exact ownsRow_setCell_other (ownsRow_setCell_other (ownsRow_setCell_other h hn x) hn y) hn z
theorem parts_len {out : List Pt} {b r : List UInt8} (hk : b = Cod.key out ++ r) : out.length + r.length ≤ b.length := by
 have h : ∀ l : List Pt, l.length ≤ (Cod.key l).length := by
   intro l
   induction l with
   | nil => simp
   | cons p l ih =>
     rw [Cod.key_cons, List.length_append, List.length_cons]
     have := Cod.partKey_ne p
     have h2 : 0 < (Cod.partKey p).length := List.length_pos_iff.2 this
     omega
 rw [hk, List.length_append]
 have := h out
 omega
set_option maxHeartbeats 16000000 in
set_option maxRecDepth 100000 in
theorem parts_any (A : Option Addr) (c : Nat) (b : List UInt8) (w : World) (h : RdB w w.heap.size A b) (hl : b.length ≤ 1000000) (hc : b.length ≤ c) (hcc : c ≤ 9223372036854775807) :
   Calls Tryz.prog 61 #[.slice A b.length c] w (Parted w b) := by
 go_enter Tryz.func61, Tryz.ntmps61
 go_wp2
 go_loopw [0, 4, 5, 6, 7, 8] (fun v u _ _ _ _ wr => ∃ (A1 : Option Addr) (c1 : Nat) (L1 : List UInt8) (A2 : Option Addr) (c2 : Nat) (out : List Pt), v = .slice A1 L1.length c1 ∧ u = .slice A2 out.length c2 ∧
   RdB wr w.heap.size A1 L1 ∧ OwnP wr w.heap.size A2 c2 out ∧ Below w.heap.size w wr ∧ L1.length ≤ c1 ∧ c1 ≤ 9223372036854775807 ∧ Hid (b = Cod.key out ++ L1 ∧ Cod.AllN out)) (fun v _ _ _ _ _ _ => (match v with | .slice _ n _ => n | _ => 0))
 case atStart => exact ⟨A, c, b, none, 0, [], rfl, rfl, h, OwnP.nil _ _, Below.refl _ _, hc, hcc, hid ⟨rfl, fun p hp => by simp at hp⟩⟩
 case round =>
   clear h hc hcc
   obtain ⟨A1, c1, L1, A2, c2, out, rfl, rfl, h1, ho, hb, hc1, hcc1, HT⟩ := hrel
   cases L1 with
   | nil =>
     have HB := hid hb
     have HO := hid ho
     clear h1 hc1 hb ho
     go_wp2
     refine bodyPost_ret (results_tmp2 rfl _ _ _) rfl ?_
     exact parted_ok HB.out HT.out.2 (by have := HT.out.1; rw [List.append_nil] at this; exact this.symm) HO.out.rd
   | cons t r =>
     have hlen := parts_len HT.out.1
     obtain ⟨g, off, rfl, hab, hcell⟩ := h1.at_ (k := 0) (by simp)
     have hcell2 : wr.cell? ⟨g, off, none⟩ = some (.int .u8 (t.toNat : Int)) := by
       have := hcell
       rw [Nat.add_zero] at this
       exact this
     have hcut := h1.cut (k := 1) (c := c1) (by simp) hc1
     rw [show (t :: r).drop 1 = r from rfl] at hcut
     have hN : r.length = (t :: r).length - 1 := by simp
     have hN0 : 0 < (t :: r).length := by simp
     rw [List.length_cons] at hlen
     obtain ⟨N, hNN⟩ : ∃ N, N = (t :: r).length := ⟨_, rfl⟩
     rw [← hNN] at hN hN0 hc1 ⊢
     have hrN : r.length + 1 = N := by rw [hNN]; simp
     have HRN := hid hrN
     have hrl : r.length ≤ 1000000 := by omega
     have hoN : out.length ≤ 1000000 := by omega
     clear hcell h1 hNN hN hrN hlen
     have CT : ∀ (tv : Value) (n0 c0 : Nat) (Ac : Option Addr) (w' : World), n0 = N - 1 → c0 = c1 - 1 → RdB w' w.heap.size Ac r → w.heap.size ≤ w'.heap.size → Calls Tryz.prog 97 #[tv, .slice Ac n0 c0] w' (TakenP w' w.heap.size (txtP (Cod.txt r))) := fun tv n0 c0 Ac w' hn0 hc0 hr hz => by
       subst hn0 hc0
       have e : N - 1 = r.length := by have := HRN.out; omega
       rw [e]
       exact txt_any _ Ac (c1 - 1) r w' w.heap.size hz hr (by omega) (by omega) (by omega)
     have CN : ∀ (n0 c0 : Nat) (Ac : Option Addr) (w' : World), n0 = N - 1 → c0 = c1 - 1 → RdB w' w.heap.size Ac r → w.heap.size ≤ w'.heap.size → Calls Tryz.prog 96 #[.int .u8 (t.toNat : Int), .slice Ac n0 c0] w' (TakenP w' w.heap.size (Cod.num t r)) := fun n0 c0 Ac w' hn0 hc0 hr hz => by
       subst hn0 hc0
       have e : N - 1 = r.length := by have := HRN.out; omega
       rw [e]
       exact num_any t Ac (c1 - 1) r w' _ rfl w.heap.size hz hr (by omega) (by omega) (by omega)
     have HCT := hid CT
     have HCN := hid CN
     clear CT CN
     have hone : Cod.one (t :: r) = if t = 32 then txtP (Cod.txt r) else Cod.num t r := by rw [Cod.one]; rfl
     by_cases h32 : t = 32
     · subst h32
       rw [if_pos rfl] at hone
       have hcell3 : wr.cell? ⟨g, off, none⟩ = some (.int .u8 32) := hcell2
       clear hcell2
       have HCE := hid hcell3
       cases hv : Cod.one (32 :: r) with
       | none =>
         rw [hv] at hone
         have HV := hid hone.symm
         have HN := hid hv
         clear hone hv
         have HB := hid hb
         have HO := hid ho
         clear hb ho
         by_cases hc11 : c1 = 1
         · rw [if_pos hc11] at hcut
           have HDR := hid hcut
           clear hcut
           subst hc11
           go_wp2
           go_region_held (fun w' => RdB w' w.heap.size (some ⟨g, off, none⟩) r ∧ Below w.heap.size w w' ∧ w'.cell? ⟨g, off, none⟩ = some (.int .u8 32))
             (first | exact ⟨HDR.out, HB.out.drew, HCE.out⟩ | exact ⟨rdB_over HDR.out HB.out B3 (Nat.le_refl _), B3, cell_over HB.out B3 hab HCE.out⟩ | exact ⟨rdB_over HDR.out HB.out (B3.alloc B3.size _) (Nat.le_refl _), B3.alloc B3.size _, cell_over HB.out (B3.alloc B3.size _) hab HCE.out⟩ | exact ⟨rdB_over HDR.out HB.out (HB.out.drew.alloc HB.out.size _) (Nat.le_refl _), HB.out.drew.alloc HB.out.size _, cell_over HB.out (HB.out.drew.alloc HB.out.size _) hab HCE.out⟩ | exact ⟨rdB_sets (rdB_over HDR.out HB.out B3 (Nat.le_refl _)) HB.out.size, below_sets B3 HB.out.size, cell_sets (cell_over HB.out B3 hab HCE.out) hab HB.out.size⟩ | (trace_state; fail))
             (first
               | (go_at_call 97; refine (HCT.out (.int .u8 32) _ _ (some ⟨g, off, none⟩) _ (by omega) (by omega) (by go_split_ands; assumption) (by go_split_ands; exact Below.size (by assumption))).mono ?_; intro e w3 hh; obtain ⟨hb3, rfl⟩ := takenP_n hh HV.out; clear hh; have B3 := Below.trans (b := _) (by go_split_ands; assumption : Below w.heap.size w _) (hb3.mono (by go_split_ands; exact Below.size (by assumption))); (first | (have hx : w3.heap[wr.heap.size]? = some (.cells #[.bool false, .int .u64 0, .string ⟨#[]⟩] 142) := (hb3.block wr.heap.size (by simp)).trans (heap_alloc_new wr.drew _); have e0 := cell_of_row w3 wr.heap.size 0 _ _ (0, 0) hx; have e1 := cell_of_row w3 wr.heap.size 1 _ _ (0, 0) hx; have e2 := cell_of_row w3 wr.heap.size 2 _ _ (0, 0) hx; have k0 := frozen_of_row w3 wr.heap.size 0 _ _ hx; have k1 := frozen_of_row w3 wr.heap.size 1 _ _ hx; have k2 := frozen_of_row w3 wr.heap.size 2 _ _ hx; have HXX := hid hx; clear hx) | skip)))
           all_goals go_wp2
           all_goals refine bodyPost_ret (results_tmp2 rfl _ _ _) rfl ?_
           all_goals first | exact parted_no (below_sets B3 HB.out.size) HT.out.2 HT.out.1 HN.out | exact parted_no (B3.alloc B3.size _) HT.out.2 HT.out.1 HN.out
         · rw [if_neg hc11] at hcut
           have HDR := hid hcut
           clear hcut
           go_wp2
           go_region_held (fun w' => RdB w' w.heap.size (some ⟨g, off + 1, none⟩) r ∧ Below w.heap.size w w' ∧ w'.cell? ⟨g, off, none⟩ = some (.int .u8 32))
             (first | exact ⟨HDR.out, HB.out.drew, HCE.out⟩ | exact ⟨rdB_over HDR.out HB.out B3 (Nat.le_refl _), B3, cell_over HB.out B3 hab HCE.out⟩ | exact ⟨rdB_over HDR.out HB.out (B3.alloc B3.size _) (Nat.le_refl _), B3.alloc B3.size _, cell_over HB.out (B3.alloc B3.size _) hab HCE.out⟩ | exact ⟨rdB_over HDR.out HB.out (HB.out.drew.alloc HB.out.size _) (Nat.le_refl _), HB.out.drew.alloc HB.out.size _, cell_over HB.out (HB.out.drew.alloc HB.out.size _) hab HCE.out⟩ | exact ⟨rdB_sets (rdB_over HDR.out HB.out B3 (Nat.le_refl _)) HB.out.size, below_sets B3 HB.out.size, cell_sets (cell_over HB.out B3 hab HCE.out) hab HB.out.size⟩ | (trace_state; fail))
             (first
               | (go_at_call 97; refine (HCT.out (.int .u8 32) _ _ (some ⟨g, off + 1, none⟩) _ (by omega) (by omega) (by go_split_ands; assumption) (by go_split_ands; exact Below.size (by assumption))).mono ?_; intro e w3 hh; obtain ⟨hb3, rfl⟩ := takenP_n hh HV.out; clear hh; have B3 := Below.trans (b := _) (by go_split_ands; assumption : Below w.heap.size w _) (hb3.mono (by go_split_ands; exact Below.size (by assumption))); (first | (have hx : w3.heap[wr.heap.size]? = some (.cells #[.bool false, .int .u64 0, .string ⟨#[]⟩] 142) := (hb3.block wr.heap.size (by simp)).trans (heap_alloc_new wr.drew _); have e0 := cell_of_row w3 wr.heap.size 0 _ _ (0, 0) hx; have e1 := cell_of_row w3 wr.heap.size 1 _ _ (0, 0) hx; have e2 := cell_of_row w3 wr.heap.size 2 _ _ (0, 0) hx; have k0 := frozen_of_row w3 wr.heap.size 0 _ _ hx; have k1 := frozen_of_row w3 wr.heap.size 1 _ _ hx; have k2 := frozen_of_row w3 wr.heap.size 2 _ _ hx; have HXX := hid hx; clear hx) | skip)))
           all_goals go_wp2
           all_goals refine bodyPost_ret (results_tmp2 rfl _ _ _) rfl ?_
           all_goals first | exact parted_no (below_sets B3 HB.out.size) HT.out.2 HT.out.1 HN.out | exact parted_no (B3.alloc B3.size _) HT.out.2 HT.out.1 HN.out
       | some v =>
         obtain ⟨p, y⟩ := v
         rw [hv] at hone
         have HV := hid hone.symm
         have HN := hid hv
         clear hone hv
         have HB := hid hb
         have HO := hid ho
         clear hb ho
         by_cases hc11 : c1 = 1
         · rw [if_pos hc11] at hcut
           have HDR := hid hcut
           clear hcut
           subst hc11
           go_wp2
           go_region_held (fun w' => RdB w' w.heap.size (some ⟨g, off, none⟩) r ∧ Below w.heap.size w w' ∧ w'.cell? ⟨g, off, none⟩ = some (.int .u8 32))
             (first | exact ⟨HDR.out, HB.out.drew, HCE.out⟩ | exact ⟨rdB_over HDR.out HB.out B3 (Nat.le_refl _), B3, cell_over HB.out B3 hab HCE.out⟩ | exact ⟨rdB_over HDR.out HB.out (B3.alloc B3.size _) (Nat.le_refl _), B3.alloc B3.size _, cell_over HB.out (B3.alloc B3.size _) hab HCE.out⟩ | exact ⟨rdB_over HDR.out HB.out (HB.out.drew.alloc HB.out.size _) (Nat.le_refl _), HB.out.drew.alloc HB.out.size _, cell_over HB.out (HB.out.drew.alloc HB.out.size _) hab HCE.out⟩ | exact ⟨rdB_sets (rdB_over HDR.out HB.out B3 (Nat.le_refl _)) HB.out.size, below_sets B3 HB.out.size, cell_sets (cell_over HB.out B3 hab HCE.out) hab HB.out.size⟩ | (trace_state; fail))
             (first
               | (go_at_call 97; refine (HCT.out (.int .u8 32) _ _ (some ⟨g, off, none⟩) _ (by omega) (by omega) (by go_split_ands; assumption) (by go_split_ands; exact Below.size (by assumption))).mono ?_; intro e w3 hh; obtain ⟨hb3, A3, c3, rfl, hc3, hcc3, r3⟩ := takenP_s hh HV.out; clear hh; have B3 := Below.trans (b := _) (by go_split_ands; assumption : Below w.heap.size w _) (hb3.mono (by go_split_ands; exact Below.size (by assumption))); (first | (have hx : w3.heap[wr.heap.size]? = some (.cells #[.bool false, .int .u64 0, .string ⟨#[]⟩] 142) := (hb3.block wr.heap.size (by simp)).trans (heap_alloc_new wr.drew _); have e0 := cell_of_row w3 wr.heap.size 0 _ _ (0, 0) hx; have e1 := cell_of_row w3 wr.heap.size 1 _ _ (0, 0) hx; have e2 := cell_of_row w3 wr.heap.size 2 _ _ (0, 0) hx; have k0 := frozen_of_row w3 wr.heap.size 0 _ _ hx; have k1 := frozen_of_row w3 wr.heap.size 1 _ _ hx; have k2 := frozen_of_row w3 wr.heap.size 2 _ _ hx; have HXX := hid hx; clear hx) | skip)))
           all_goals
             have hz3 := B3.size
             have hbz := HB.out.size
             have ho3 : OwnP w3 w.heap.size A2 c2 out := by first | exact (ownP_drew HO.out).below hb3 | exact ((ownP_drew HO.out).alloc _).below hb3
             go_wp2_with (first
               | (have _ := HXX; at_builtin; refine wpList_append_p _ rfl (.tmp 30) (.tmp 32) rfl w.heap.size A2 c2 out rfl ((ownP_sets ho3 (fun e => absurd (HO.out.blk_ge _ e).2 (by omega))).alloc _) _ (some ⟨w3.heap.size, 0, none⟩) 1 1 [p] rfl rfl (rdP_one _ p _ (by simp)) (by simp; omega) (by simp; omega) ?_; intro A4 c4 L4 w4 hL4 ho4 hg4 hat4; have HL4 := hid hL4; clear hL4 hat4; have hb4 : Below w.heap.size w w4 := below_grow ((below_sets B3 hbz).alloc (by simp; omega) _) hg4 (fun g hg => (ho3.blk_ge g hg).1) (by simp; omega))
               | (at_builtin; refine wpList_append_p _ rfl (.tmp 30) (.tmp 32) rfl w.heap.size A2 c2 out rfl ((ho3.alloc _).alloc _) _ (some ⟨w3.heap.size + 1, 0, none⟩) 1 1 [p] rfl rfl (rdP_one _ p _ (by simp)) (by simp; omega) (by simp; omega) ?_; intro A4 c4 L4 w4 hL4 ho4 hg4 hat4; have HL4 := hid hL4; clear hL4 hat4; have hb4 : Below w.heap.size w w4 := below_grow ((B3.alloc hz3 _).alloc (by simp; omega) _) hg4 (fun g hg => (ho3.blk_ge g hg).1) (by simp; omega)))
             go_roundw
             case rel =>
               refine ⟨A3, c3, y, A4, c4, L4, rfl, rfl, rdB_over r3 B3 hb4 (Nat.le_refl _), ho4, hb4, hc3, hcc3, hid ?_⟩
               rw [HL4.out]
               exact parts_step HT.out.1 HT.out.2 HN.out
             case measure => have := one_short HN.out; have := HRN.out; simp at *; omega
         · rw [if_neg hc11] at hcut
           have HDR := hid hcut
           clear hcut
           go_wp2
           go_region_held (fun w' => RdB w' w.heap.size (some ⟨g, off + 1, none⟩) r ∧ Below w.heap.size w w' ∧ w'.cell? ⟨g, off, none⟩ = some (.int .u8 32))
             (first | exact ⟨HDR.out, HB.out.drew, HCE.out⟩ | exact ⟨rdB_over HDR.out HB.out B3 (Nat.le_refl _), B3, cell_over HB.out B3 hab HCE.out⟩ | exact ⟨rdB_over HDR.out HB.out (B3.alloc B3.size _) (Nat.le_refl _), B3.alloc B3.size _, cell_over HB.out (B3.alloc B3.size _) hab HCE.out⟩ | exact ⟨rdB_over HDR.out HB.out (HB.out.drew.alloc HB.out.size _) (Nat.le_refl _), HB.out.drew.alloc HB.out.size _, cell_over HB.out (HB.out.drew.alloc HB.out.size _) hab HCE.out⟩ | exact ⟨rdB_sets (rdB_over HDR.out HB.out B3 (Nat.le_refl _)) HB.out.size, below_sets B3 HB.out.size, cell_sets (cell_over HB.out B3 hab HCE.out) hab HB.out.size⟩ | (trace_state; fail))
             (first
               | (go_at_call 97; refine (HCT.out (.int .u8 32) _ _ (some ⟨g, off + 1, none⟩) _ (by omega) (by omega) (by go_split_ands; assumption) (by go_split_ands; exact Below.size (by assumption))).mono ?_; intro e w3 hh; obtain ⟨hb3, A3, c3, rfl, hc3, hcc3, r3⟩ := takenP_s hh HV.out; clear hh; have B3 := Below.trans (b := _) (by go_split_ands; assumption : Below w.heap.size w _) (hb3.mono (by go_split_ands; exact Below.size (by assumption))); (first | (have hx : w3.heap[wr.heap.size]? = some (.cells #[.bool false, .int .u64 0, .string ⟨#[]⟩] 142) := (hb3.block wr.heap.size (by simp)).trans (heap_alloc_new wr.drew _); have e0 := cell_of_row w3 wr.heap.size 0 _ _ (0, 0) hx; have e1 := cell_of_row w3 wr.heap.size 1 _ _ (0, 0) hx; have e2 := cell_of_row w3 wr.heap.size 2 _ _ (0, 0) hx; have k0 := frozen_of_row w3 wr.heap.size 0 _ _ hx; have k1 := frozen_of_row w3 wr.heap.size 1 _ _ hx; have k2 := frozen_of_row w3 wr.heap.size 2 _ _ hx; have HXX := hid hx; clear hx) | skip)))
           all_goals
             have hz3 := B3.size
             have hbz := HB.out.size
             have ho3 : OwnP w3 w.heap.size A2 c2 out := by first | exact (ownP_drew HO.out).below hb3 | exact ((ownP_drew HO.out).alloc _).below hb3
             go_wp2_with (first
               | (have _ := HXX; at_builtin; refine wpList_append_p _ rfl (.tmp 30) (.tmp 32) rfl w.heap.size A2 c2 out rfl ((ownP_sets ho3 (fun e => absurd (HO.out.blk_ge _ e).2 (by omega))).alloc _) _ (some ⟨w3.heap.size, 0, none⟩) 1 1 [p] rfl rfl (rdP_one _ p _ (by simp)) (by simp; omega) (by simp; omega) ?_; intro A4 c4 L4 w4 hL4 ho4 hg4 hat4; have HL4 := hid hL4; clear hL4 hat4; have hb4 : Below w.heap.size w w4 := below_grow ((below_sets B3 hbz).alloc (by simp; omega) _) hg4 (fun g hg => (ho3.blk_ge g hg).1) (by simp; omega))
               | (at_builtin; refine wpList_append_p _ rfl (.tmp 30) (.tmp 32) rfl w.heap.size A2 c2 out rfl ((ho3.alloc _).alloc _) _ (some ⟨w3.heap.size + 1, 0, none⟩) 1 1 [p] rfl rfl (rdP_one _ p _ (by simp)) (by simp; omega) (by simp; omega) ?_; intro A4 c4 L4 w4 hL4 ho4 hg4 hat4; have HL4 := hid hL4; clear hL4 hat4; have hb4 : Below w.heap.size w w4 := below_grow ((B3.alloc hz3 _).alloc (by simp; omega) _) hg4 (fun g hg => (ho3.blk_ge g hg).1) (by simp; omega)))
             go_roundw
             case rel =>
               refine ⟨A3, c3, y, A4, c4, L4, rfl, rfl, rdB_over r3 B3 hb4 (Nat.le_refl _), ho4, hb4, hc3, hcc3, hid ?_⟩
               rw [HL4.out]
               exact parts_step HT.out.1 HT.out.2 HN.out
             case measure => have := one_short HN.out; have := HRN.out; simp at *; omega
     · rw [if_neg h32] at hone
       have hx0 : t.toNat ≠ 32 := fun e => h32 (UInt8.toNat_inj.1 (by rw [e]; rfl))
       obtain ⟨x, hx⟩ : ∃ x, x = t.toNat := ⟨_, rfl⟩
       rw [← hx] at hx0 hcell2 HCN
       have hx1 : ((x : Int) == 32) = false := by simp; omega
       clear h32 hx0 hx
       have HCE := hid hcell2
       cases hv : Cod.one (t :: r) with
       | none =>
         rw [hv] at hone
         have HV := hid hone.symm
         have HN := hid hv
         clear hone hv
         have HB := hid hb
         have HO := hid ho
         clear hb ho
         by_cases hc11 : c1 = 1
         · rw [if_pos hc11] at hcut
           have HDR := hid hcut
           clear hcut
           subst hc11
           go_wp2
           go_region_held (fun w' => RdB w' w.heap.size (some ⟨g, off, none⟩) r ∧ Below w.heap.size w w' ∧ w'.cell? ⟨g, off, none⟩ = some (.int .u8 (x : Int)))
             (first | exact ⟨HDR.out, HB.out.drew, HCE.out⟩ | exact ⟨rdB_over HDR.out HB.out B3 (Nat.le_refl _), B3, cell_over HB.out B3 hab HCE.out⟩ | exact ⟨rdB_over HDR.out HB.out (B3.alloc B3.size _) (Nat.le_refl _), B3.alloc B3.size _, cell_over HB.out (B3.alloc B3.size _) hab HCE.out⟩ | exact ⟨rdB_over HDR.out HB.out (HB.out.drew.alloc HB.out.size _) (Nat.le_refl _), HB.out.drew.alloc HB.out.size _, cell_over HB.out (HB.out.drew.alloc HB.out.size _) hab HCE.out⟩ | exact ⟨rdB_sets (rdB_over HDR.out HB.out B3 (Nat.le_refl _)) HB.out.size, below_sets B3 HB.out.size, cell_sets (cell_over HB.out B3 hab HCE.out) hab HB.out.size⟩ | (trace_state; fail))
             (first
               | (go_at_call 96; refine (HCN.out _ _ (some ⟨g, off, none⟩) _ (by omega) (by omega) (by go_split_ands; assumption) (by go_split_ands; exact Below.size (by assumption))).mono ?_; intro e w3 hh; obtain ⟨hb3, rfl⟩ := takenP_n hh HV.out; clear hh; have B3 := Below.trans (b := _) (by go_split_ands; assumption : Below w.heap.size w _) (hb3.mono (by go_split_ands; exact Below.size (by assumption))); (first | (have hx : w3.heap[wr.heap.size]? = some (.cells #[.bool false, .int .u64 0, .string ⟨#[]⟩] 142) := (hb3.block wr.heap.size (by simp)).trans (heap_alloc_new wr.drew _); have e0 := cell_of_row w3 wr.heap.size 0 _ _ (0, 0) hx; have e1 := cell_of_row w3 wr.heap.size 1 _ _ (0, 0) hx; have e2 := cell_of_row w3 wr.heap.size 2 _ _ (0, 0) hx; have k0 := frozen_of_row w3 wr.heap.size 0 _ _ hx; have k1 := frozen_of_row w3 wr.heap.size 1 _ _ hx; have k2 := frozen_of_row w3 wr.heap.size 2 _ _ hx; have HXX := hid hx; clear hx) | skip)))
           all_goals go_wp2
           all_goals refine bodyPost_ret (results_tmp2 rfl _ _ _) rfl ?_
           all_goals first | exact parted_no (below_sets B3 HB.out.size) HT.out.2 HT.out.1 HN.out | exact parted_no (B3.alloc B3.size _) HT.out.2 HT.out.1 HN.out
         · rw [if_neg hc11] at hcut
           have HDR := hid hcut
           clear hcut
           go_wp2
           go_region_held (fun w' => RdB w' w.heap.size (some ⟨g, off + 1, none⟩) r ∧ Below w.heap.size w w' ∧ w'.cell? ⟨g, off, none⟩ = some (.int .u8 (x : Int)))
             (first | exact ⟨HDR.out, HB.out.drew, HCE.out⟩ | exact ⟨rdB_over HDR.out HB.out B3 (Nat.le_refl _), B3, cell_over HB.out B3 hab HCE.out⟩ | exact ⟨rdB_over HDR.out HB.out (B3.alloc B3.size _) (Nat.le_refl _), B3.alloc B3.size _, cell_over HB.out (B3.alloc B3.size _) hab HCE.out⟩ | exact ⟨rdB_over HDR.out HB.out (HB.out.drew.alloc HB.out.size _) (Nat.le_refl _), HB.out.drew.alloc HB.out.size _, cell_over HB.out (HB.out.drew.alloc HB.out.size _) hab HCE.out⟩ | exact ⟨rdB_sets (rdB_over HDR.out HB.out B3 (Nat.le_refl _)) HB.out.size, below_sets B3 HB.out.size, cell_sets (cell_over HB.out B3 hab HCE.out) hab HB.out.size⟩ | (trace_state; fail))
             (first
               | (go_at_call 96; refine (HCN.out _ _ (some ⟨g, off + 1, none⟩) _ (by omega) (by omega) (by go_split_ands; assumption) (by go_split_ands; exact Below.size (by assumption))).mono ?_; intro e w3 hh; obtain ⟨hb3, rfl⟩ := takenP_n hh HV.out; clear hh; have B3 := Below.trans (b := _) (by go_split_ands; assumption : Below w.heap.size w _) (hb3.mono (by go_split_ands; exact Below.size (by assumption))); (first | (have hx : w3.heap[wr.heap.size]? = some (.cells #[.bool false, .int .u64 0, .string ⟨#[]⟩] 142) := (hb3.block wr.heap.size (by simp)).trans (heap_alloc_new wr.drew _); have e0 := cell_of_row w3 wr.heap.size 0 _ _ (0, 0) hx; have e1 := cell_of_row w3 wr.heap.size 1 _ _ (0, 0) hx; have e2 := cell_of_row w3 wr.heap.size 2 _ _ (0, 0) hx; have k0 := frozen_of_row w3 wr.heap.size 0 _ _ hx; have k1 := frozen_of_row w3 wr.heap.size 1 _ _ hx; have k2 := frozen_of_row w3 wr.heap.size 2 _ _ hx; have HXX := hid hx; clear hx) | skip)))
           all_goals go_wp2
           all_goals refine bodyPost_ret (results_tmp2 rfl _ _ _) rfl ?_
           all_goals first | exact parted_no (below_sets B3 HB.out.size) HT.out.2 HT.out.1 HN.out | exact parted_no (B3.alloc B3.size _) HT.out.2 HT.out.1 HN.out
       | some v =>
         obtain ⟨p, y⟩ := v
         rw [hv] at hone
         have HV := hid hone.symm
         have HN := hid hv
         clear hone hv
         have HB := hid hb
         have HO := hid ho
         clear hb ho
         by_cases hc11 : c1 = 1
         · rw [if_pos hc11] at hcut
           have HDR := hid hcut
           clear hcut
           subst hc11
           go_wp2
           go_region_held (fun w' => RdB w' w.heap.size (some ⟨g, off, none⟩) r ∧ Below w.heap.size w w' ∧ w'.cell? ⟨g, off, none⟩ = some (.int .u8 (x : Int)))
             (first | exact ⟨HDR.out, HB.out.drew, HCE.out⟩ | exact ⟨rdB_over HDR.out HB.out B3 (Nat.le_refl _), B3, cell_over HB.out B3 hab HCE.out⟩ | exact ⟨rdB_over HDR.out HB.out (B3.alloc B3.size _) (Nat.le_refl _), B3.alloc B3.size _, cell_over HB.out (B3.alloc B3.size _) hab HCE.out⟩ | exact ⟨rdB_over HDR.out HB.out (HB.out.drew.alloc HB.out.size _) (Nat.le_refl _), HB.out.drew.alloc HB.out.size _, cell_over HB.out (HB.out.drew.alloc HB.out.size _) hab HCE.out⟩ | exact ⟨rdB_sets (rdB_over HDR.out HB.out B3 (Nat.le_refl _)) HB.out.size, below_sets B3 HB.out.size, cell_sets (cell_over HB.out B3 hab HCE.out) hab HB.out.size⟩ | (trace_state; fail))
             (first
               | (go_at_call 96; refine (HCN.out _ _ (some ⟨g, off, none⟩) _ (by omega) (by omega) (by go_split_ands; assumption) (by go_split_ands; exact Below.size (by assumption))).mono ?_; intro e w3 hh; obtain ⟨hb3, A3, c3, rfl, hc3, hcc3, r3⟩ := takenP_s hh HV.out; clear hh; have B3 := Below.trans (b := _) (by go_split_ands; assumption : Below w.heap.size w _) (hb3.mono (by go_split_ands; exact Below.size (by assumption))); (first | (have hx : w3.heap[wr.heap.size]? = some (.cells #[.bool false, .int .u64 0, .string ⟨#[]⟩] 142) := (hb3.block wr.heap.size (by simp)).trans (heap_alloc_new wr.drew _); have e0 := cell_of_row w3 wr.heap.size 0 _ _ (0, 0) hx; have e1 := cell_of_row w3 wr.heap.size 1 _ _ (0, 0) hx; have e2 := cell_of_row w3 wr.heap.size 2 _ _ (0, 0) hx; have k0 := frozen_of_row w3 wr.heap.size 0 _ _ hx; have k1 := frozen_of_row w3 wr.heap.size 1 _ _ hx; have k2 := frozen_of_row w3 wr.heap.size 2 _ _ hx; have HXX := hid hx; clear hx) | skip)))
           all_goals
             have hz3 := B3.size
             have hbz := HB.out.size
             have ho3 : OwnP w3 w.heap.size A2 c2 out := by first | exact (ownP_drew HO.out).below hb3 | exact ((ownP_drew HO.out).alloc _).below hb3
             go_wp2_with (first
               | (have _ := HXX; at_builtin; refine wpList_append_p _ rfl (.tmp 30) (.tmp 32) rfl w.heap.size A2 c2 out rfl ((ownP_sets ho3 (fun e => absurd (HO.out.blk_ge _ e).2 (by omega))).alloc _) _ (some ⟨w3.heap.size, 0, none⟩) 1 1 [p] rfl rfl (rdP_one _ p _ (by simp)) (by simp; omega) (by simp; omega) ?_; intro A4 c4 L4 w4 hL4 ho4 hg4 hat4; have HL4 := hid hL4; clear hL4 hat4; have hb4 : Below w.heap.size w w4 := below_grow ((below_sets B3 hbz).alloc (by simp; omega) _) hg4 (fun g hg => (ho3.blk_ge g hg).1) (by simp; omega))
               | (at_builtin; refine wpList_append_p _ rfl (.tmp 30) (.tmp 32) rfl w.heap.size A2 c2 out rfl ((ho3.alloc _).alloc _) _ (some ⟨w3.heap.size + 1, 0, none⟩) 1 1 [p] rfl rfl (rdP_one _ p _ (by simp)) (by simp; omega) (by simp; omega) ?_; intro A4 c4 L4 w4 hL4 ho4 hg4 hat4; have HL4 := hid hL4; clear hL4 hat4; have hb4 : Below w.heap.size w w4 := below_grow ((B3.alloc hz3 _).alloc (by simp; omega) _) hg4 (fun g hg => (ho3.blk_ge g hg).1) (by simp; omega)))
             go_roundw
             case rel =>
               refine ⟨A3, c3, y, A4, c4, L4, rfl, rfl, rdB_over r3 B3 hb4 (Nat.le_refl _), ho4, hb4, hc3, hcc3, hid ?_⟩
               rw [HL4.out]
               exact parts_step HT.out.1 HT.out.2 HN.out
             case measure => have := one_short HN.out; have := HRN.out; simp at *; omega
         · rw [if_neg hc11] at hcut
           have HDR := hid hcut
           clear hcut
           go_wp2
           go_region_held (fun w' => RdB w' w.heap.size (some ⟨g, off + 1, none⟩) r ∧ Below w.heap.size w w' ∧ w'.cell? ⟨g, off, none⟩ = some (.int .u8 (x : Int)))
             (first | exact ⟨HDR.out, HB.out.drew, HCE.out⟩ | exact ⟨rdB_over HDR.out HB.out B3 (Nat.le_refl _), B3, cell_over HB.out B3 hab HCE.out⟩ | exact ⟨rdB_over HDR.out HB.out (B3.alloc B3.size _) (Nat.le_refl _), B3.alloc B3.size _, cell_over HB.out (B3.alloc B3.size _) hab HCE.out⟩ | exact ⟨rdB_over HDR.out HB.out (HB.out.drew.alloc HB.out.size _) (Nat.le_refl _), HB.out.drew.alloc HB.out.size _, cell_over HB.out (HB.out.drew.alloc HB.out.size _) hab HCE.out⟩ | exact ⟨rdB_sets (rdB_over HDR.out HB.out B3 (Nat.le_refl _)) HB.out.size, below_sets B3 HB.out.size, cell_sets (cell_over HB.out B3 hab HCE.out) hab HB.out.size⟩ | (trace_state; fail))
             (first
               | (go_at_call 96; refine (HCN.out _ _ (some ⟨g, off + 1, none⟩) _ (by omega) (by omega) (by go_split_ands; assumption) (by go_split_ands; exact Below.size (by assumption))).mono ?_; intro e w3 hh; obtain ⟨hb3, A3, c3, rfl, hc3, hcc3, r3⟩ := takenP_s hh HV.out; clear hh; have B3 := Below.trans (b := _) (by go_split_ands; assumption : Below w.heap.size w _) (hb3.mono (by go_split_ands; exact Below.size (by assumption))); (first | (have hx : w3.heap[wr.heap.size]? = some (.cells #[.bool false, .int .u64 0, .string ⟨#[]⟩] 142) := (hb3.block wr.heap.size (by simp)).trans (heap_alloc_new wr.drew _); have e0 := cell_of_row w3 wr.heap.size 0 _ _ (0, 0) hx; have e1 := cell_of_row w3 wr.heap.size 1 _ _ (0, 0) hx; have e2 := cell_of_row w3 wr.heap.size 2 _ _ (0, 0) hx; have k0 := frozen_of_row w3 wr.heap.size 0 _ _ hx; have k1 := frozen_of_row w3 wr.heap.size 1 _ _ hx; have k2 := frozen_of_row w3 wr.heap.size 2 _ _ hx; have HXX := hid hx; clear hx) | skip)))
           all_goals
             have hz3 := B3.size
             have hbz := HB.out.size
             have ho3 : OwnP w3 w.heap.size A2 c2 out := by first | exact (ownP_drew HO.out).below hb3 | exact ((ownP_drew HO.out).alloc _).below hb3
             go_wp2_with (first
               | (have _ := HXX; at_builtin; refine wpList_append_p _ rfl (.tmp 30) (.tmp 32) rfl w.heap.size A2 c2 out rfl ((ownP_sets ho3 (fun e => absurd (HO.out.blk_ge _ e).2 (by omega))).alloc _) _ (some ⟨w3.heap.size, 0, none⟩) 1 1 [p] rfl rfl (rdP_one _ p _ (by simp)) (by simp; omega) (by simp; omega) ?_; intro A4 c4 L4 w4 hL4 ho4 hg4 hat4; have HL4 := hid hL4; clear hL4 hat4; have hb4 : Below w.heap.size w w4 := below_grow ((below_sets B3 hbz).alloc (by simp; omega) _) hg4 (fun g hg => (ho3.blk_ge g hg).1) (by simp; omega))
               | (at_builtin; refine wpList_append_p _ rfl (.tmp 30) (.tmp 32) rfl w.heap.size A2 c2 out rfl ((ho3.alloc _).alloc _) _ (some ⟨w3.heap.size + 1, 0, none⟩) 1 1 [p] rfl rfl (rdP_one _ p _ (by simp)) (by simp; omega) (by simp; omega) ?_; intro A4 c4 L4 w4 hL4 ho4 hg4 hat4; have HL4 := hid hL4; clear hL4 hat4; have hb4 : Below w.heap.size w w4 := below_grow ((B3.alloc hz3 _).alloc (by simp; omega) _) hg4 (fun g hg => (ho3.blk_ge g hg).1) (by simp; omega)))
             go_roundw
             case rel =>
               refine ⟨A3, c3, y, A4, c4, L4, rfl, rfl, rdB_over r3 B3 hb4 (Nat.le_refl _), ho4, hb4, hc3, hcc3, hid ?_⟩
               rw [HL4.out]
               exact parts_step HT.out.1 HT.out.2 HN.out
             case measure => have := one_short HN.out; have := HRN.out; simp at *; omega
end Go.Proofs.YtgafionfojnieaaGreatDoor
