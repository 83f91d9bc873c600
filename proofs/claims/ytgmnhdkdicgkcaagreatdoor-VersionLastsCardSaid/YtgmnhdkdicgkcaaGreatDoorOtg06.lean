/- Parts of the proof, one behind the other: The contract of frame.Take. -/
import Derived.Test.YtgmnhdkdicgkcaaGreatDoorOrg16
import Derived.Deep.RegionHeld
import Derived.Outline
namespace Go.Proofs.YtgmnhdkdicgkcaaGreatDoor
open Go.RowKit
open Lib (hid)
theorem results_c3 {P : Program} {fn : Func} {p u v : Tmp} {ty : TypeId} (h : fn.results = #[.cell p ty, .tmp u, .tmp v]) (tmps : Array Value) (w : World) (g : Nat) (t : TypeId) (cs : Array Value) (fr : Nat × Nat) (d : TypeDesc)
   (hp : tmps.getD p undef = .pointer (some ⟨g, 0, none⟩)) (hg : w.heap[g]? = some (.cells cs t fr)) (hu : P.underlying ty = some d) (hd : (match d, hu with | .struct _, _ => true | .array _ _, _ => true | _, _ => false) = true) (hs : (P.info? ty).map (fun x => x.size) = some cs.size) :
   (results fn tmps).run P w = .ok (.tuple #[.agg cs, tmps.getD u undef, tmps.getD v undef]) w := by
 have h1 := results_cell_row (P := P) (fn := { fn with results := #[.cell p ty] }) (p := p) (ty := ty) rfl tmps w g t cs fr d hp hg hu hd hs
 have h2 : ((asAddr (tmps.getD p undef)).run P w).andThen (fun a w1 => (loadVar ty a).run P w1) = .ok (.agg cs) w := by
   simpa [results] using h1
 rw [hp] at h2
 have h3 : (loadVar ty ⟨g, 0, none⟩).run P w = .ok (.agg cs) w := by simpa [asAddr] using h2
 have hp2 := hp
 simp at hp2
 simp [results, h, asAddr, hp2, h3]
def TakenR (w : World) (A0 : Option Addr) (v : Option (UInt8 × List UInt8 × List UInt8)) (e : Ending) (w' : World) : Prop :=
 Below w.heap.size w w' ∧ match v with
 | none => e = .returned (.tuple #[.agg #[.int .u8 0, .slice none 0 0], .slice none 0 0, .int .i64 3])
 | some (k, t, r) => ∃ A c B d, e = .returned (.tuple #[.agg #[.int .u8 (k.toNat : Int), .slice A t.length c], .slice B r.length d, .int .i64 0]) ∧ Own w' w.heap.size 5 A c t ∧ RdB w' w'.heap.size B r ∧ r.length ≤ d ∧ d ≤ 9223372036854775807 ∧ Frs w' w.heap.size A0 B
theorem takenR_no {w w' : World} {A0 : Option Addr} {b : List UInt8} (hv : Frm.take b = none) (hb : Below w.heap.size w w') : TakenR w A0 (Frm.take b) (.returned (.tuple #[.agg #[.int .u8 0, .slice none 0 0], .slice none 0 0, .int .i64 3])) w' := by
 rw [hv]; exact ⟨hb, rfl⟩
theorem frame_size : (Tryz.prog.info? 168).map (fun x => x.size) = some 2 := by kernel_rfl
theorem take_cons_none {k : UInt8} {l : List UInt8} (h : cutT (Cod.take l) = none) : Frm.take (k :: l) = none := by unfold Frm.take; simp only [h]
theorem take_cons_no {k : UInt8} {l t r : List UInt8} (h : cutT (Cod.take l) = some (t, r)) (hn : ¬ (t.length ≤ 65536 ∧ 4 ≤ r.length ∧ r.take 4 = Frm.be4 (Chk.sum (Frm.head k t)))) : Frm.take (k :: l) = none := by
 unfold Frm.take; simp only [h]; rw [if_neg hn]
theorem take_cons_yes {k : UInt8} {l t r : List UInt8} (h : cutT (Cod.take l) = some (t, r)) (hn : t.length ≤ 65536 ∧ 4 ≤ r.length ∧ r.take 4 = Frm.be4 (Chk.sum (Frm.head k t))) : Frm.take (k :: l) = some (k, t, r.drop 4) := by
 unfold Frm.take; simp only [h]; rw [if_pos hn]
theorem takeTextS_cut (A : Option Addr) (n c : Nat) (b : List UInt8) (w : World) (hn : n = b.length) (h : RdB w w.heap.size A b) (hl : b.length ≤ 140737488355328) (hc : b.length ≤ c) (hcc : c ≤ 9223372036854775807) :
   Calls Tryz.prog 58 #[.slice A n c] w (TakenS w A (cutT (Cod.take b))) := by subst hn; exact takeTextS_any A c b w h hl hc hcc
theorem frs_sets {w : World} {n G : Nat} {A B : Option Addr} (h : Frs w n A B) (hG : ∀ x, blk B = some x → x ≠ G) (a b : Value) : Frs ((w.setCell ⟨G, 0, none⟩ a).setCell ⟨G, 1, none⟩ b) n A B := fun g hg => by
 rcases h g hg with h1 | ⟨h1, cs, fr, h2⟩
 · exact .inl h1
 · refine .inr ⟨h1, cs, fr, ?_⟩
   rw [Below.heap_setCell _ _ _ _ (by have := hG g hg; simpa using this), Below.heap_setCell _ _ _ _ (by have := hG g hg; simpa using this)]
   exact h2
theorem heap_set2 {w : World} {g : Nat} {x y a b : Value} {T : TypeId} (h : w.heap[g]? = some (.cells #[x, y] T)) : ((w.setCell ⟨g, 0, none⟩ a).setCell ⟨g, 1, none⟩ b).heap[g]? = some (.cells #[a, b] T) := by
 have h1 := heap_setCell_same w g 0 _ T a h
 have h2 := heap_setCell_same _ g 1 _ T b h1
 simpa using h2
theorem join8u {n x : Nat} (hn : n < 16777216) (hx : x < 256) : bits .or .u32 ((n : Int) * 256) (x : Int) = ((n * 256 + x : Nat) : Int) := by
 have e1 : ((n : Int) * 256) = ((n * 256 : Nat) : Int) := by omega
 rw [e1, u32_or_nat _ _ (by omega) (by omega), nat_join8 (n * 256) x (by omega) (by omega)]
theorem chksum_cut (A : Option Addr) (n c : Nat) (l : List UInt8) (w : World) (hn : n = l.length) (h : RdB w w.heap.size A l) (hl : l.length ≤ 140737488355328) :
   Calls Tryz.prog 182 #[.slice A n c] w fun e w' => e = .returned (.int .u32 (Chk.sum l : Int)) ∧ Below w.heap.size w w' := by subst hn; exact chksum_any A c l w h hl
theorem own_keep2 {w w' : World} {base c : Nat} {e : TypeId} {A : Option Addr} {l : List UInt8} (h : Own w base e A c l) (hb : ∀ g, blk A = some g → w'.heap[g]? = w.heap[g]?) : Own w' base e A c l := by
 refine ⟨h.1, ?_⟩
 rcases h.2 with h2 | ⟨g, cap, cur, hv, hg, hh, r⟩
 · exact .inl h2
 · refine .inr ⟨g, cap, cur, hv, hg, ?_, r⟩
   injection hv with hv
   rw [hb g (by rw [hv]; rfl)]
   exact hh
theorem own_le2 {w : World} {n c : Nat} {T : TypeId} {A : Option Addr} {l : List UInt8} (h : Own w (n + 1) T A c l) : Own w n T A c l := h.mono (Nat.le_succ n)
theorem own_sets {w : World} {base G c : Nat} {T : TypeId} {A : Option Addr} {l : List UInt8} (h : Own w base T A c l) (hG : G < base) (a b : Value) : Own ((w.setCell ⟨G, 0, none⟩ a).setCell ⟨G, 1, none⟩ b) base T A c l := by
 refine own_keep2 h (fun g hg => ?_)
 have h1 := (h.blk_ge g hg).1
 rw [Below.heap_setCell _ _ _ _ (by simp; omega), Below.heap_setCell _ _ _ _ (by simp; omega)]
theorem rdB_sets2 {w : World} {B G : Nat} {A : Option Addr} {l : List UInt8} (h : RdB w B A l) (hA : ∀ g, blk A = some g → g ≠ G) (a b : Value) : RdB ((w.setCell ⟨G, 0, none⟩ a).setCell ⟨G, 1, none⟩ b) B A l := by
 refine ⟨h.1, fun hn => ?_⟩
 obtain ⟨ad, e, hb, hc⟩ := h.2 hn
 have hne : ad.block ≠ G := hA _ (by rw [e]; rfl)
 refine ⟨ad, e, hb, fun j u hu => ?_⟩
 rw [World.cell?_setCell_other _ _ _ _ (fun e => hne (by rw [← block_of_add ad j, ← e])), World.cell?_setCell_other _ _ _ _ (fun e => hne (by rw [← block_of_add ad j, ← e]))]
 exact hc j u hu
set_option maxHeartbeats 2000000 in
set_option maxRecDepth 100000 in
theorem ftake_any (A : Option Addr) (c : Nat) (b : List UInt8) (w : World) (h : RdB w w.heap.size A b) (hl : b.length ≤ 140737488355328) (hc : b.length ≤ c) (hcc : c ≤ 9223372036854775807) :
   Calls Tryz.prog 198 #[.slice A b.length c] w (TakenR w A (Frm.take b)) := by
 have HAL : Hid (∀ o, Below w.heap.size w (w.alloc o)) := hid (fun o => (Below.refl _ _).alloc (Nat.le_refl _) o)
 rcases b with _ | ⟨k, b⟩
 · go_enter Tryz.func198, Tryz.ntmps198
   go_wp2_with fail
   refine bodyPost_ret (results_c3 rfl _ _ w.heap.size 168 #[.int .u8 0, .slice none 0 0] _ _ rfl (heap_alloc_new _ _) Tryz.underlying168 rfl frame_size) rfl ?_
   exact takenR_no rfl (HAL.out _)
 · obtain ⟨g, off, rfl, hab, hcell⟩ := h.at_ (k := 0) (by simp)
   have hcut := h.cut (k := 1) (c := c) (by simp) hc
   simp only [List.drop_succ_cons, List.drop_zero] at hcut
   have HH := hid h
   obtain ⟨n, hn⟩ : ∃ n, n = b.length := ⟨_, rfl⟩
   have hcell0 : w.cell? ⟨g, off, none⟩ = some (.int .u8 (k.toNat : Int)) := by simpa using hcell
   have hln : (k :: b).length = n + 1 := by rw [hn]; rfl
   rw [hln] at hl hc ⊢
   have h1c : (1 : Int) ≤ (c : Int) := by omega
   obtain ⟨kn, hkn⟩ : ∃ kn, kn = k.toNat := ⟨_, rfl⟩
   rw [← hkn] at hcell0
   have HC0 := hid hcell0
   have HKN := hid hkn
   by_cases hc1 : c = 1
   · subst hc1
     have hn0 : n = 0 := by omega
     subst hn0
     have hb0 : b = [] := List.eq_nil_of_length_eq_zero hn.symm
     subst hb0
     have hx : cutT (Cod.take []) = none := rfl
     have HE := hid (take_cons_none (k := k) hx)
     have KT : Hid (∀ A w, Calls Tryz.prog 58 #[.slice A 0 0] w (TakenS w A none)) := hid (fun A w => by
       have := takeTextS_cut A 0 0 [] w rfl RdB.nil (by simp) (by simp) (by omega)
       rwa [hx] at this)
     clear hcell hcut h hn hln hkn hx
     go_enter Tryz.func198, Tryz.ntmps198
     go_wp2_with fail
     refine (KT.out _ _).mono ?_
     intro e w1 hh
     obtain ⟨hb1, rfl⟩ := takenS_none hh
     have hcw : w1.heap[w.heap.size]? = some (.cells #[.int .u8 0, .slice none 0 0] 168) := (hb1.block _ (by simp)).trans (heap_alloc_new _ _)
     have HCW := hid hcw
     have HB1 : Hid (Below w.heap.size w w1) := hid ((HAL.out _).trans (hb1.mono (by simp)))
     have q0 := cell_of_row w1 w.heap.size 0 _ _ (0, 0) hcw
     have q1 := cell_of_row w1 w.heap.size 1 _ _ (0, 0) hcw
     have f0 := frozen_of_row w1 w.heap.size 0 _ _ hcw
     have f1 := frozen_of_row w1 w.heap.size 1 _ _ hcw
     simp only [List.getElem?_toArray, List.getElem?_cons_zero, List.getElem?_cons_succ] at q0 q1
     clear hh hcw hb1
     go_wp2_with fail
     refine bodyPost_ret (results_c3 rfl _ _ w.heap.size 168 #[.int .u8 0, .slice none 0 0] _ _ rfl (heap_set2 HCW.out) Tryz.underlying168 rfl frame_size) rfl ?_
     exact takenR_no HE.out ((HB1.out.setCell (by simp) _).setCell (by simp) _)
   · rw [if_neg hc1] at hcut
     have HCUT := hid hcut
     have HN := hid hn
     clear hcell hcut h hn hln hcell0 hkn
     go_enter Tryz.func198, Tryz.ntmps198
     go_wp2_with fail
     refine (takeTextS_cut _ _ _ b _ HN.out ((HCUT.out.alloc (Nat.le_refl _) _).more (by simp)) (by have := HN.out; omega) (by have := HN.out; omega) (by omega)).mono ?_
     cases hx : cutT (Cod.take b) with
     | none =>
       intro e w1 hh
       obtain ⟨hb1, rfl⟩ := takenS_none hh
       have HE := hid (take_cons_none (k := k) hx)
       have hcw : w1.heap[w.heap.size]? = some (.cells #[.int .u8 0, .slice none 0 0] 168) := (hb1.block _ (by simp)).trans (heap_alloc_new _ _)
       have HCW := hid hcw
       have HB1 : Hid (Below w.heap.size w w1) := hid ((HAL.out _).trans (hb1.mono (by simp)))
       have q0 := cell_of_row w1 w.heap.size 0 _ _ (0, 0) hcw
       have q1 := cell_of_row w1 w.heap.size 1 _ _ (0, 0) hcw
       have f0 := frozen_of_row w1 w.heap.size 0 _ _ hcw
       have f1 := frozen_of_row w1 w.heap.size 1 _ _ hcw
       simp only [List.getElem?_toArray, List.getElem?_cons_zero, List.getElem?_cons_succ] at q0 q1
       clear hx hh hcw hb1
       go_wp2_with fail
       refine bodyPost_ret (results_c3 rfl _ _ w.heap.size 168 #[.int .u8 0, .slice none 0 0] _ _ rfl (heap_set2 HCW.out) Tryz.underlying168 rfl frame_size) rfl ?_
       exact takenR_no HE.out ((HB1.out.setCell (by simp) _).setCell (by simp) _)
     | some v =>
       obtain ⟨t, r⟩ := v
       intro e w1 hh
       obtain ⟨hb1, A1, c1, B1, d1, rfl, ho1, hr1, hd1, hdd1, hf1⟩ := takenS_some hh
       have hcw : w1.heap[w.heap.size]? = some (.cells #[.int .u8 0, .slice none 0 0] 168) := (hb1.block _ (by simp)).trans (heap_alloc_new _ _)
       have HCW := hid hcw
       have HB1 : Hid (Below w.heap.size w w1) := hid ((HAL.out _).trans (hb1.mono (by simp)))
       have HO1 : Hid (Own w1 (w.heap.size + 1) 5 A1 c1 t) := hid (by simpa using ho1)
       have HF1 : Hid (Frs w1 w.heap.size (some ⟨g, off, none⟩) B1) := hid (fun x hx => by
         rcases hf1 x hx with h1 | ⟨h1, h2⟩
         · exact .inl h1
         · exact .inr ⟨by have : w.heap.size + 1 ≤ x := (by simpa using h1); omega, h2⟩)
       have HFG : Hid (∀ x, blk B1 = some x → x ≠ w.heap.size) := hid (fun x hx => by
         rcases hf1 x hx with h1 | ⟨h1, _⟩
         · have : g = x := by simpa [blk] using h1
           omega
         · have : w.heap.size + 1 ≤ x := (by simpa using h1); omega)
       have HR1 := hid hr1
       have q0 := cell_of_row w1 w.heap.size 0 _ _ (0, 0) hcw
       have q1 := cell_of_row w1 w.heap.size 1 _ _ (0, 0) hcw
       have f0 := frozen_of_row w1 w.heap.size 0 _ _ hcw
       have f1 := frozen_of_row w1 w.heap.size 1 _ _ hcw
       simp only [List.getElem?_toArray, List.getElem?_cons_zero, List.getElem?_cons_succ] at q0 q1
       have htx := Frm.cutT_text hx
       have HX := hid hx
       have HTX := hid htx
       clear hx hh hcw hb1 hf1 hr1 ho1 htx
       by_cases ht : (65536 : Int) < (t.length : Int)
       · have HE := hid (take_cons_no (k := k) HX.out (fun h => by have := h.1; omega))
         go_wp2_with fail
         refine bodyPost_ret (results_c3 rfl _ _ w.heap.size 168 #[.int .u8 0, .slice none 0 0] _ _ rfl (heap_set2 HCW.out) Tryz.underlying168 rfl frame_size) rfl ?_
         exact takenR_no HE.out ((HB1.out.setCell (by simp) _).setCell (by simp) _)
       by_cases hr : (r.length : Int) < 4
       · have HE := hid (take_cons_no (k := k) HX.out (fun h => by have := h.2.1; omega))
         go_wp2_with fail
         refine bodyPost_ret (results_c3 rfl _ _ w.heap.size 168 #[.int .u8 0, .slice none 0 0] _ _ rfl (heap_set2 HCW.out) Tryz.underlying168 rfl frame_size) rfl ?_
         exact takenR_no HE.out ((HB1.out.setCell (by simp) _).setCell (by simp) _)
       obtain ⟨g2, off2, rfl, hg2, _⟩ := HR1.out.at_ (k := 0) (by omega)
       have HR1' := hid HR1.out
       go_wp2_with fail
       go_loop [8, 38] (fun v i => ∃ j x : Nat, j ≤ 4 ∧ i = .int .i64 (j : Int) ∧ v = .int .u32 (x : Int) ∧ Hid (x = Frm.num4 (r.take j))) (fun _ i => 4 - (intOf i).toNat)
       case atStart => exact ⟨0, 0, by omega, rfl, rfl, hid rfl⟩
       case round =>
         obtain ⟨j, x, hj, rfl, rfl, HX4⟩ := hrel
         by_cases hj4 : j < 4
         · obtain ⟨g3, off3, e3, _, hcj⟩ := HR1.out.at_ (k := j) (by omega)
           injection e3 with e3
           injection e3 with e4 e5
           subst e4 e5
           have hx24 : x < 16777216 := by
             have h1 := Frm.num4_lt (r.take j) 0
             rw [HX4.out]
             unfold Frm.num4
             have h2 : (r.take j).length ≤ 3 := by rw [List.length_take]; omega
             have h3 : (256 : Nat) ^ (r.take j).length ≤ 256 ^ 3 := Nat.pow_le_pow_right (by omega) h2
             have h4 : (256 : Nat) ^ 3 = 16777216 := by decide
             omega
           have hsn : Frm.num4 (r.take (j + 1)) = x * 256 + (r[j]'(by omega)).toNat := by
             rw [List.take_succ_eq_append_getElem (by omega), Frm.num4_snoc, HX4.out]
           have hyl := (r[j]'(by omega)).toNat_lt
           obtain ⟨y, hy⟩ : ∃ y, y = (r[j]'(by omega)).toNat := ⟨_, rfl⟩
           rw [← hy] at hcj hsn hyl
           have hjn := join8u hx24 hyl
           have HSN := hid hsn
           have hxi : (x : Int) < 16777216 := by omega
           have hyi : (y : Int) < 256 := by omega
           have hj0 : (0 : Int) ≤ (j : Int) := by omega
           have hj1 : (j : Int) < 4 := by omega
           clear hy hsn hx24 hyl
           go_wp2_with fail
           go_round
           case rel => exact ⟨j + 1, x * 256 + y, by omega, by go_num, rfl, hid HSN.out.symm⟩
           case measure => simp [intOf]; omega
         · obtain rfl : j = 4 := by omega
           have htk : (k :: b).take (n + 1 - r.length) = Frm.head k t ∧ r.length ≤ n := by
             have h1 := HTX.out
             have h2 := HN.out
             have h3 : n = (Cod.text t).length + r.length := by rw [h2, h1, List.length_append]
             refine ⟨?_, by omega⟩
             rw [show n + 1 - r.length = (Cod.text t).length + 1 by omega, List.take_succ_cons, h1, List.take_left']
             · rfl
             · rfl
           have HTK := hid htk.1
           have hrn := htk.2
           have HRC : Hid (n + 1 - r.length = ((k :: b).take (n + 1 - r.length)).length) := hid (by
             have := HN.out
             rw [List.length_take, List.length_cons]; omega)
           have HRT : Hid (RdB w1 w1.heap.size (some ⟨g, off, none⟩) ((k :: b).take (n + 1 - r.length))) := hid (((HH.out.take (by have := HN.out; rw [List.length_cons]; omega)).below HB1.out (Nat.le_refl _)).more HB1.out.size)
           have KS := hid (fun m (hm : m = n + 1 - r.length) => chksum_cut (some ⟨g, off, none⟩) m c _ w1 (hm.trans HRC.out) HRT.out (by have := HN.out; rw [List.length_take, List.length_cons]; omega))
           rw [HTK.out] at KS
           obtain ⟨S, hS⟩ : ∃ S, S = Chk.sum (Frm.head k t) := ⟨_, rfl⟩
           rw [← hS] at KS
           have HSI := Frm.sum_iff r (Frm.head k t) (by omega)
           rw [← hS, ← HX4.out] at HSI
           have HS := hid hS
           have hs0 : (0 : Int) ≤ (n : Int) + 1 - (r.length : Int) := by omega
           have hs1 : (n : Int) + 1 - (r.length : Int) ≤ (c : Int) := by omega
           clear htk hS hj4 hj
           by_cases hsx : S = x
           case pos =>
             have HE := hid (take_cons_yes (k := k) HX.out ⟨by omega, by omega, by rw [← HS.out]; exact HSI.2 hsx⟩)
             subst hsx
             go_wp2_with fail
             refine (KS.out _ rfl).mono ?_
             rintro e w3 ⟨rfl, hb3⟩
             have hz1 : w.heap.size < w1.heap.size := by have := HCW.out; rw [Array.getElem?_eq_some_iff] at this; exact this.1
             have hcw3 := (hb3.block _ hz1).trans HCW.out
             have HCW3 := hid hcw3
             have c0 := (hb3.cell (p := ⟨g, off, none⟩) (by have := HB1.out.size; simp; omega)).trans ((HB1.out.cell (p := ⟨g, off, none⟩) hab).trans HC0.out)
             have q0 := cell_of_row w3 w.heap.size 0 _ _ (0, 0) hcw3
             have q1 := cell_of_row w3 w.heap.size 1 _ _ (0, 0) hcw3
             have f0 := frozen_of_row w3 w.heap.size 0 _ _ hcw3
             have f1 := frozen_of_row w3 w.heap.size 1 _ _ hcw3
             simp only [List.getElem?_toArray, List.getElem?_cons_zero, List.getElem?_cons_succ] at q0 q1
             have hr4 := HR1.out.cut (k := 4) (c := d1) (by omega) (by omega)
             have HO3 := hid (HO1.out.below hb3)
             have HB3 := hid (HB1.out.trans (hb3.mono HB1.out.size))
             have HBB := hid hb3
             have i0 : (4 : Int) ≤ (r.length : Int) := by omega
             have i1 : (r.length : Int) ≤ (d1 : Int) := by omega
             have i2 : (0 : Int) < (n : Int) + 1 := by omega
             have HK : Hid (((w3.setCell ⟨w.heap.size, 0, none⟩ (.int .u8 (kn : Int))).setCell ⟨w.heap.size, 1, none⟩ (.slice A1 t.length c1)).cell? ⟨g, off, none⟩ = some (.int .u8 (kn : Int))) := hid (by
               rw [World.cell?_setCell_other _ _ _ _ (fun e => by injection e with e1; omega), World.cell?_setCell_other _ _ _ _ (fun e => by injection e with e1; omega)]
               exact c0)
             by_cases hd4 : d1 = 4
             · rw [if_pos hd4] at hr4
               have HR4 := hid ((hr4.below hb3 (Nat.le_refl _)).more hb3.size)
               clear hcw3 hb3 hr4 KS hz1
               go_wp2_with fail
               go_region_held (fun w' => w'.cell? ⟨g, off, none⟩ = some (.int .u8 (kn : Int))) (first | exact c0 | exact HK.out) (fail)
               go_wp2_with fail
               refine bodyPost_ret (results_c3 rfl _ _ w.heap.size 168 #[.int .u8 (kn : Int), .slice A1 t.length c1] _ _ rfl (heap_set2 HCW3.out) Tryz.underlying168 rfl frame_size) rfl ?_
               rw [HE.out]
               refine ⟨((HB3.out.setCell (by simp) _).setCell (by simp) _).drew, A1, c1, some ⟨g2, off2, none⟩, 0, ?_, own_le2 (own_sets HO3.out (by omega) _ _), (rdB_sets2 HR4.out HFG.out _ _).more (by simp), by simp; omega, by omega, frs_sets (HF1.out.below HBB.out) HFG.out _ _⟩
               rw [HKN.out, List.length_drop]; rfl
             · rw [if_neg hd4] at hr4
               have HR4 := hid ((hr4.below hb3 (Nat.le_refl _)).more hb3.size)
               clear hcw3 hb3 hr4 KS hz1
               go_wp2_with fail
               go_region_held (fun w' => w'.cell? ⟨g, off, none⟩ = some (.int .u8 (kn : Int))) (first | exact c0 | exact HK.out) (fail)
               go_wp2_with fail
               refine bodyPost_ret (results_c3 rfl _ _ w.heap.size 168 #[.int .u8 (kn : Int), .slice A1 t.length c1] _ _ rfl (heap_set2 HCW3.out) Tryz.underlying168 rfl frame_size) rfl ?_
               rw [HE.out]
               refine ⟨((HB3.out.setCell (by simp) _).setCell (by simp) _).drew, A1, c1, some ⟨g2, off2 + 4, none⟩, d1 - 4, ?_, own_le2 (own_sets HO3.out (by omega) _ _), (rdB_sets2 HR4.out HFG.out _ _).more (by simp), by simp; omega, by omega, frs_sets (HF1.out.below HBB.out) HFG.out _ _⟩
               rw [HKN.out, List.length_drop]; rfl
           case neg =>
             have HE := hid (take_cons_no (k := k) HX.out (fun h => hsx (by rw [← HS.out] at h; exact HSI.1 h.2.2)))
             have hsx2 : ((S : Int) == (x : Int)) = false := by simp; omega
             have hsx3 : ((S : Int) != (x : Int)) = true := by simp; omega
             go_wp2_with fail
             refine (KS.out _ rfl).mono ?_
             rintro e w3 ⟨rfl, hb3⟩
             have hz1 : w.heap.size < w1.heap.size := by have := HCW.out; rw [Array.getElem?_eq_some_iff] at this; exact this.1
             have hcw3 := (hb3.block _ hz1).trans HCW.out
             have HCW3 := hid hcw3
             have q0 := cell_of_row w3 w.heap.size 0 _ _ (0, 0) hcw3
             have q1 := cell_of_row w3 w.heap.size 1 _ _ (0, 0) hcw3
             have f0 := frozen_of_row w3 w.heap.size 0 _ _ hcw3
             have f1 := frozen_of_row w3 w.heap.size 1 _ _ hcw3
             simp only [List.getElem?_toArray, List.getElem?_cons_zero, List.getElem?_cons_succ] at q0 q1
             have HB3 := hid (HB1.out.trans (hb3.mono HB1.out.size))
             clear hcw3 hb3 KS hz1 hsx
             go_wp2_with fail
             refine bodyPost_ret (results_c3 rfl _ _ w.heap.size 168 #[.int .u8 0, .slice none 0 0] _ _ rfl (heap_set2 HCW3.out) Tryz.underlying168 rfl frame_size) rfl ?_
             exact takenR_no HE.out ((HB3.out.setCell (by simp) _).setCell (by simp) _)
end Go.Proofs.YtgmnhdkdicgkcaaGreatDoor
