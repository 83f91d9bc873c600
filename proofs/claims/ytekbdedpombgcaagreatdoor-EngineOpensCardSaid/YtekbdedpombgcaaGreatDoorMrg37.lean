/- Parts of the proof, one behind the other: The contract of frame.Take.; The contract of the reference's Take.; Frames in a row, in memory; the plain law of Scan. -/
import Derived.Test.YtekbdedpombgcaaGreatDoorMrg19
import Derived.Deep.RegionHeld
import Derived.Outline
import Derived.Test.YtekbdedpombgcaaGreatDoorMrg07
import Derived.Test.YtekbdedpombgcaaGreatDoorMrg01
import Derived.Test.YtekbdedpombgcaaGreatDoorMrg05
import Derived.Test.YtekbdedpombgcaaGreatDoorMrg02
namespace Go.Proofs.YtekbdedpombgcaaGreatDoor
open Go.RowKit

/-- What was taken: a frame, the rest. -/
def TakenR (w : World) (A0 : Option Addr) (v : Option (UInt8 × List UInt8 × List UInt8)) (e : Ending) (w' : World) : Prop :=
  Below w.heap.size w w' ∧ match v with
  | none => e = .returned (.tuple #[.agg #[.int .u8 0, .slice none 0 0], .slice none 0 0, .int .i64 3])
  | some (k, t, r) => ∃ A c B d, e = .returned (.tuple #[.agg #[.int .u8 (k.toNat : Int), .slice A t.length c], .slice B r.length d, .int .i64 0]) ∧ Own w' w.heap.size 5 A c t ∧ RdB w' w'.heap.size B r ∧ r.length ≤ d ∧ d ≤ 9223372036854775807 ∧ Frs w' w.heap.size A0 B
theorem takenR_no {w w' : World} {A0 : Option Addr} {b : List UInt8} (hv : Frm.take b = none) (hb : Below w.heap.size w w') : TakenR w A0 (Frm.take b) (.returned (.tuple #[.agg #[.int .u8 0, .slice none 0 0], .slice none 0 0, .int .i64 3])) w' := by
  rw [hv]; exact ⟨hb, rfl⟩
theorem frame_size : (Tryz.prog.info? 113).map (fun x => x.size) = some 2 := by kernel_rfl
theorem take_cons_none {k : UInt8} {l : List UInt8} (h : cutT (Cod.take l) = none) : Frm.take (k :: l) = none := by unfold Frm.take; simp only [h]
theorem take_cons_no {k : UInt8} {l t r : List UInt8} (h : cutT (Cod.take l) = some (t, r)) (hn : ¬ (t.length ≤ 65536 ∧ 4 ≤ r.length ∧ r.take 4 = Frm.be4 (Chk.sum (Frm.head k t)))) : Frm.take (k :: l) = none := by
  unfold Frm.take; simp only [h]; rw [if_neg hn]
theorem take_cons_yes {k : UInt8} {l t r : List UInt8} (h : cutT (Cod.take l) = some (t, r)) (hn : t.length ≤ 65536 ∧ 4 ≤ r.length ∧ r.take 4 = Frm.be4 (Chk.sum (Frm.head k t))) : Frm.take (k :: l) = some (k, t, r.drop 4) := by
  unfold Frm.take; simp only [h]; rw [if_pos hn]
theorem takeTextS_cut (A : Option Addr) (n c : Nat) (b : List UInt8) (w : World) (hn : n = b.length) (h : RdB w w.heap.size A b) (hl : b.length ≤ 140737488355328) (hc : b.length ≤ c) (hcc : c ≤ 9223372036854775807) :
    Calls Tryz.prog 47 #[.slice A n c] w (TakenS w A (cutT (Cod.take b))) := by subst hn; exact takeTextS_any A c b w h hl hc hcc
theorem frs_sets {w : World} {n G : Nat} {A B : Option Addr} (h : Frs w n A B) (hG : ∀ x, blk B = some x → x ≠ G) (a b : Value) : Frs ((w.setCell ⟨G, 0, none⟩ a).setCell ⟨G, 1, none⟩ b) n A B := fun g hg => by
  rcases h g hg with h1 | ⟨h1, cs, fr, h2⟩
  · exact .inl h1
  · refine .inr ⟨h1, cs, fr, ?_⟩
    rw [Below.heap_setCell _ _ _ _ (by have := hG g hg; simpa using this), Below.heap_setCell _ _ _ _ (by have := hG g hg; simpa using this)]
    exact h2
theorem heap_set2 {w : World} {g : Nat} {x y a b : Value} {T : TypeId} (h : w.heap[g]? = some (.cells #[x, y] T)) : ((w.setCell ⟨g, 0, none⟩ a).setCell ⟨g, 1, none⟩ b).heap[g]? = some (.cells #[a, b] T) := by
  have h1 := heap_setCell_same w g 0 _ T a h
  have h2 := heap_setCell_same _ g 1 _ T b h1
  simpa using h2
theorem join8u {n x : Nat} (hn : n < 16777216) (hx : x < 256) : bits .or .u32 ((n : Int) * 256) (x : Int) = ((n * 256 + x : Nat) : Int) := by
  have e1 : ((n : Int) * 256) = ((n * 256 : Nat) : Int) := by omega
  rw [e1, u32_or_nat _ _ (by omega) (by omega), nat_join8 (n * 256) x (by omega) (by omega)]
theorem chksum_cut (A : Option Addr) (n c : Nat) (l : List UInt8) (w : World) (hn : n = l.length) (h : RdB w w.heap.size A l) (hl : l.length ≤ 140737488355328) :
    Calls Tryz.prog 182 #[.slice A n c] w fun e w' => e = .returned (.int .u32 (Chk.sum l : Int)) ∧ Below w.heap.size w w' := by subst hn; exact chksum_any A c l w h hl
theorem own_keep2 {w w' : World} {base c : Nat} {e : TypeId} {A : Option Addr} {l : List UInt8} (h : Own w base e A c l) (hb : ∀ g, blk A = some g → w'.heap[g]? = w.heap[g]?) : Own w' base e A c l := by
  refine ⟨h.1, ?_⟩
  rcases h.2 with h2 | ⟨g, cap, cur, hv, hg, hh, r⟩
  · exact .inl h2
  · refine .inr ⟨g, cap, cur, hv, hg, ?_, r⟩
    injection hv with hv
    rw [hb g (by rw [hv]; rfl)]
    exact hh
theorem own_le2 {w : World} {n c : Nat} {T : TypeId} {A : Option Addr} {l : List UInt8} (h : Own w (n + 1) T A c l) : Own w n T A c l := h.mono (Nat.le_succ n)
theorem own_sets {w : World} {base G c : Nat} {T : TypeId} {A : Option Addr} {l : List UInt8} (h : Own w base T A c l) (hG : G < base) (a b : Value) : Own ((w.setCell ⟨G, 0, none⟩ a).setCell ⟨G, 1, none⟩ b) base T A c l := by
  refine own_keep2 h (fun g hg => ?_)
  have h1 := (h.blk_ge g hg).1
  rw [Below.heap_setCell _ _ _ _ (by simp; omega), Below.heap_setCell _ _ _ _ (by simp; omega)]
theorem rdB_sets2 {w : World} {B G : Nat} {A : Option Addr} {l : List UInt8} (h : RdB w B A l) (hA : ∀ g, blk A = some g → g ≠ G) (a b : Value) : RdB ((w.setCell ⟨G, 0, none⟩ a).setCell ⟨G, 1, none⟩ b) B A l := by
  refine ⟨h.1, fun hn => ?_⟩
  obtain ⟨ad, e, hb, hc⟩ := h.2 hn
  have hne : ad.block ≠ G := hA _ (by rw [e]; rfl)
  refine ⟨ad, e, hb, fun j u hu => ?_⟩
  rw [World.cell?_setCell_other _ _ _ _ (fun e => hne (by rw [← block_of_add ad j, ← e])), World.cell?_setCell_other _ _ _ _ (fun e => hne (by rw [← block_of_add ad j, ← e]))]
  exact hc j u hu
set_option maxHeartbeats 2000000 in
set_option maxRecDepth 100000 in
theorem ftake_any (A : Option Addr) (c : Nat) (b : List UInt8) (w : World) (h : RdB w w.heap.size A b) (hl : b.length ≤ 140737488355328) (hc : b.length ≤ c) (hcc : c ≤ 9223372036854775807) :
    Calls Tryz.prog 167 #[.slice A b.length c] w (TakenR w A (Frm.take b)) := by
  have HAL : Hid (∀ o, Below w.heap.size w (w.alloc o)) := Lib.hid (fun o => (Below.refl _ _).alloc (Nat.le_refl _) o)
  rcases b with _ | ⟨k, b⟩
  · go_enter Tryz.func167, Tryz.ntmps167
    go_wp2_with fail
    refine bodyPost_ret (results_c3 rfl _ _ w.heap.size 113 #[.int .u8 0, .slice none 0 0] _ _ rfl (heap_alloc_new _ _) Tryz.underlying113 rfl frame_size) rfl ?_
    exact takenR_no rfl (HAL.out _)
  · obtain ⟨g, off, rfl, hab, hcell⟩ := h.at_ (k := 0) (by simp)
    have hcut := h.cut (k := 1) (c := c) (by simp) hc
    simp only [List.drop_succ_cons, List.drop_zero] at hcut
    have HH := Lib.hid h
    obtain ⟨n, hn⟩ : ∃ n, n = b.length := ⟨_, rfl⟩
    have hcell0 : w.cell? ⟨g, off, none⟩ = some (.int .u8 (k.toNat : Int)) := by simpa using hcell
    have hln : (k :: b).length = n + 1 := by rw [hn]; rfl
    rw [hln] at hl hc ⊢
    have h1c : (1 : Int) ≤ (c : Int) := by omega
    obtain ⟨kn, hkn⟩ : ∃ kn, kn = k.toNat := ⟨_, rfl⟩
    rw [← hkn] at hcell0
    have HC0 := Lib.hid hcell0
    have HKN := Lib.hid hkn
    by_cases hc1 : c = 1
    · subst hc1
      have hn0 : n = 0 := by omega
      subst hn0
      have hb0 : b = [] := List.eq_nil_of_length_eq_zero hn.symm
      subst hb0
      have hx : cutT (Cod.take []) = none := rfl
      have HE := Lib.hid (take_cons_none (k := k) hx)
      have KT : Hid (∀ A w, Calls Tryz.prog 47 #[.slice A 0 0] w (TakenS w A none)) := Lib.hid (fun A w => by
        have := takeTextS_cut A 0 0 [] w rfl RdB.nil (by simp) (by simp) (by omega)
        rwa [hx] at this)
      clear hcell hcut h hn hln hkn hx
      go_enter Tryz.func167, Tryz.ntmps167
      go_wp2_with fail
      refine (KT.out _ _).mono ?_
      intro e w1 hh
      obtain ⟨hb1, rfl⟩ := takenS_none hh
      have hcw : w1.heap[w.heap.size]? = some (.cells #[.int .u8 0, .slice none 0 0] 113) := (hb1.block _ (by simp)).trans (heap_alloc_new _ _)
      have HCW := Lib.hid hcw
      have HB1 : Hid (Below w.heap.size w w1) := Lib.hid ((HAL.out _).trans (hb1.mono (by simp)))
      have q0 := cell_of_row w1 w.heap.size 0 _ _ (0, 0) hcw
      have q1 := cell_of_row w1 w.heap.size 1 _ _ (0, 0) hcw
      have f0 := frozen_of_row w1 w.heap.size 0 _ _ hcw
      have f1 := frozen_of_row w1 w.heap.size 1 _ _ hcw
      simp only [List.getElem?_toArray, List.getElem?_cons_zero, List.getElem?_cons_succ] at q0 q1
      clear hh hcw hb1
      go_wp2_with fail
      refine bodyPost_ret (results_c3 rfl _ _ w.heap.size 113 #[.int .u8 0, .slice none 0 0] _ _ rfl (heap_set2 HCW.out) Tryz.underlying113 rfl frame_size) rfl ?_
      exact takenR_no HE.out ((HB1.out.setCell (by simp) _).setCell (by simp) _)
    · rw [if_neg hc1] at hcut
      have HCUT := Lib.hid hcut
      have HN := Lib.hid hn
      clear hcell hcut h hn hln hcell0 hkn
      go_enter Tryz.func167, Tryz.ntmps167
      go_wp2_with fail
      refine (takeTextS_cut _ _ _ b _ HN.out ((HCUT.out.alloc (Nat.le_refl _) _).more (by simp)) (by have := HN.out; omega) (by have := HN.out; omega) (by omega)).mono ?_
      cases hx : cutT (Cod.take b) with
      | none =>
        intro e w1 hh
        obtain ⟨hb1, rfl⟩ := takenS_none hh
        have HE := Lib.hid (take_cons_none (k := k) hx)
        have hcw : w1.heap[w.heap.size]? = some (.cells #[.int .u8 0, .slice none 0 0] 113) := (hb1.block _ (by simp)).trans (heap_alloc_new _ _)
        have HCW := Lib.hid hcw
        have HB1 : Hid (Below w.heap.size w w1) := Lib.hid ((HAL.out _).trans (hb1.mono (by simp)))
        have q0 := cell_of_row w1 w.heap.size 0 _ _ (0, 0) hcw
        have q1 := cell_of_row w1 w.heap.size 1 _ _ (0, 0) hcw
        have f0 := frozen_of_row w1 w.heap.size 0 _ _ hcw
        have f1 := frozen_of_row w1 w.heap.size 1 _ _ hcw
        simp only [List.getElem?_toArray, List.getElem?_cons_zero, List.getElem?_cons_succ] at q0 q1
        clear hx hh hcw hb1
        go_wp2_with fail
        refine bodyPost_ret (results_c3 rfl _ _ w.heap.size 113 #[.int .u8 0, .slice none 0 0] _ _ rfl (heap_set2 HCW.out) Tryz.underlying113 rfl frame_size) rfl ?_
        exact takenR_no HE.out ((HB1.out.setCell (by simp) _).setCell (by simp) _)
      | some v =>
        obtain ⟨t, r⟩ := v
        intro e w1 hh
        obtain ⟨hb1, A1, c1, B1, d1, rfl, ho1, hr1, hd1, hdd1, hf1⟩ := takenS_some hh
        have hcw : w1.heap[w.heap.size]? = some (.cells #[.int .u8 0, .slice none 0 0] 113) := (hb1.block _ (by simp)).trans (heap_alloc_new _ _)
        have HCW := Lib.hid hcw
        have HB1 : Hid (Below w.heap.size w w1) := Lib.hid ((HAL.out _).trans (hb1.mono (by simp)))
        have HO1 : Hid (Own w1 (w.heap.size + 1) 5 A1 c1 t) := Lib.hid (by simpa using ho1)
        have HF1 : Hid (Frs w1 w.heap.size (some ⟨g, off, none⟩) B1) := Lib.hid (fun x hx => by
          rcases hf1 x hx with h1 | ⟨h1, h2⟩
          · exact .inl h1
          · exact .inr ⟨by have : w.heap.size + 1 ≤ x := (by simpa using h1); omega, h2⟩)
        have HFG : Hid (∀ x, blk B1 = some x → x ≠ w.heap.size) := Lib.hid (fun x hx => by
          rcases hf1 x hx with h1 | ⟨h1, _⟩
          · have : g = x := by simpa [blk] using h1
            omega
          · have : w.heap.size + 1 ≤ x := (by simpa using h1); omega)
        have HR1 := Lib.hid hr1
        have q0 := cell_of_row w1 w.heap.size 0 _ _ (0, 0) hcw
        have q1 := cell_of_row w1 w.heap.size 1 _ _ (0, 0) hcw
        have f0 := frozen_of_row w1 w.heap.size 0 _ _ hcw
        have f1 := frozen_of_row w1 w.heap.size 1 _ _ hcw
        simp only [List.getElem?_toArray, List.getElem?_cons_zero, List.getElem?_cons_succ] at q0 q1
        have htx := Frm.cutT_text hx
        have HX := Lib.hid hx
        have HTX := Lib.hid htx
        clear hx hh hcw hb1 hf1 hr1 ho1 htx
        by_cases ht : (65536 : Int) < (t.length : Int)
        · have HE := Lib.hid (take_cons_no (k := k) HX.out (fun h => by have := h.1; omega))
          go_wp2_with fail
          refine bodyPost_ret (results_c3 rfl _ _ w.heap.size 113 #[.int .u8 0, .slice none 0 0] _ _ rfl (heap_set2 HCW.out) Tryz.underlying113 rfl frame_size) rfl ?_
          exact takenR_no HE.out ((HB1.out.setCell (by simp) _).setCell (by simp) _)
        by_cases hr : (r.length : Int) < 4
        · have HE := Lib.hid (take_cons_no (k := k) HX.out (fun h => by have := h.2.1; omega))
          go_wp2_with fail
          refine bodyPost_ret (results_c3 rfl _ _ w.heap.size 113 #[.int .u8 0, .slice none 0 0] _ _ rfl (heap_set2 HCW.out) Tryz.underlying113 rfl frame_size) rfl ?_
          exact takenR_no HE.out ((HB1.out.setCell (by simp) _).setCell (by simp) _)
        obtain ⟨g2, off2, rfl, hg2, _⟩ := HR1.out.at_ (k := 0) (by omega)
        have HR1' := Lib.hid HR1.out
        go_wp2_with fail
        go_loop [8, 38] (fun v i => ∃ j x : Nat, j ≤ 4 ∧ i = .int .i64 (j : Int) ∧ v = .int .u32 (x : Int) ∧ Hid (x = Frm.num4 (r.take j))) (fun _ i => 4 - (intOf i).toNat)
        case atStart => exact ⟨0, 0, by omega, rfl, rfl, Lib.hid rfl⟩
        case round =>
          obtain ⟨j, x, hj, rfl, rfl, HX4⟩ := hrel
          by_cases hj4 : j < 4
          · obtain ⟨g3, off3, e3, _, hcj⟩ := HR1.out.at_ (k := j) (by omega)
            injection e3 with e3
            injection e3 with e4 e5
            subst e4 e5
            have hx24 : x < 16777216 := by
              have h1 := Frm.num4_lt (r.take j) 0
              rw [HX4.out]
              unfold Frm.num4
              have h2 : (r.take j).length ≤ 3 := by rw [List.length_take]; omega
              have h3 : (256 : Nat) ^ (r.take j).length ≤ 256 ^ 3 := Nat.pow_le_pow_right (by omega) h2
              have h4 : (256 : Nat) ^ 3 = 16777216 := by decide
              omega
            have hsn : Frm.num4 (r.take (j + 1)) = x * 256 + (r[j]'(by omega)).toNat := by
              rw [List.take_succ_eq_append_getElem (by omega), Frm.num4_snoc, HX4.out]
            have hyl := (r[j]'(by omega)).toNat_lt
            obtain ⟨y, hy⟩ : ∃ y, y = (r[j]'(by omega)).toNat := ⟨_, rfl⟩
            rw [← hy] at hcj hsn hyl
            have hjn := join8u hx24 hyl
            have HSN := Lib.hid hsn
            have hxi : (x : Int) < 16777216 := by omega
            have hyi : (y : Int) < 256 := by omega
            have hj0 : (0 : Int) ≤ (j : Int) := by omega
            have hj1 : (j : Int) < 4 := by omega
            clear hy hsn hx24 hyl
            go_wp2_with fail
            go_round
            case rel => exact ⟨j + 1, x * 256 + y, by omega, by go_num, rfl, Lib.hid HSN.out.symm⟩
            case measure => simp [intOf]; omega
          · obtain rfl : j = 4 := by omega
            have htk : (k :: b).take (n + 1 - r.length) = Frm.head k t ∧ r.length ≤ n := by
              have h1 := HTX.out
              have h2 := HN.out
              have h3 : n = (Cod.text t).length + r.length := by rw [h2, h1, List.length_append]
              refine ⟨?_, by omega⟩
              rw [show n + 1 - r.length = (Cod.text t).length + 1 by omega, List.take_succ_cons, h1, List.take_left']
              · rfl
              · rfl
            have HTK := Lib.hid htk.1
            have hrn := htk.2
            have HRC : Hid (n + 1 - r.length = ((k :: b).take (n + 1 - r.length)).length) := Lib.hid (by
              have := HN.out
              rw [List.length_take, List.length_cons]; omega)
            have HRT : Hid (RdB w1 w1.heap.size (some ⟨g, off, none⟩) ((k :: b).take (n + 1 - r.length))) := Lib.hid (((HH.out.take (by have := HN.out; rw [List.length_cons]; omega)).below HB1.out (Nat.le_refl _)).more HB1.out.size)
            have KS := Lib.hid (fun m (hm : m = n + 1 - r.length) => chksum_cut (some ⟨g, off, none⟩) m c _ w1 (hm.trans HRC.out) HRT.out (by have := HN.out; rw [List.length_take, List.length_cons]; omega))
            rw [HTK.out] at KS
            obtain ⟨S, hS⟩ : ∃ S, S = Chk.sum (Frm.head k t) := ⟨_, rfl⟩
            rw [← hS] at KS
            have HSI := Frm.sum_iff r (Frm.head k t) (by omega)
            rw [← hS, ← HX4.out] at HSI
            have HS := Lib.hid hS
            have hs0 : (0 : Int) ≤ (n : Int) + 1 - (r.length : Int) := by omega
            have hs1 : (n : Int) + 1 - (r.length : Int) ≤ (c : Int) := by omega
            clear htk hS hj4 hj
            by_cases hsx : S = x
            case pos =>
              have HE := Lib.hid (take_cons_yes (k := k) HX.out ⟨by omega, by omega, by rw [← HS.out]; exact HSI.2 hsx⟩)
              subst hsx
              go_wp2_with fail
              refine (KS.out _ rfl).mono ?_
              rintro e w3 ⟨rfl, hb3⟩
              have hz1 : w.heap.size < w1.heap.size := by have := HCW.out; rw [Array.getElem?_eq_some_iff] at this; exact this.1
              have hcw3 := (hb3.block _ hz1).trans HCW.out
              have HCW3 := Lib.hid hcw3
              have c0 := (hb3.cell (p := ⟨g, off, none⟩) (by have := HB1.out.size; simp; omega)).trans ((HB1.out.cell (p := ⟨g, off, none⟩) hab).trans HC0.out)
              have q0 := cell_of_row w3 w.heap.size 0 _ _ (0, 0) hcw3
              have q1 := cell_of_row w3 w.heap.size 1 _ _ (0, 0) hcw3
              have f0 := frozen_of_row w3 w.heap.size 0 _ _ hcw3
              have f1 := frozen_of_row w3 w.heap.size 1 _ _ hcw3
              simp only [List.getElem?_toArray, List.getElem?_cons_zero, List.getElem?_cons_succ] at q0 q1
              have hr4 := HR1.out.cut (k := 4) (c := d1) (by omega) (by omega)
              have HO3 := Lib.hid (HO1.out.below hb3)
              have HB3 := Lib.hid (HB1.out.trans (hb3.mono HB1.out.size))
              have HBB := Lib.hid hb3
              have i0 : (4 : Int) ≤ (r.length : Int) := by omega
              have i1 : (r.length : Int) ≤ (d1 : Int) := by omega
              have i2 : (0 : Int) < (n : Int) + 1 := by omega
              have HK : Hid (((w3.setCell ⟨w.heap.size, 0, none⟩ (.int .u8 (kn : Int))).setCell ⟨w.heap.size, 1, none⟩ (.slice A1 t.length c1)).cell? ⟨g, off, none⟩ = some (.int .u8 (kn : Int))) := Lib.hid (by
                rw [World.cell?_setCell_other _ _ _ _ (fun e => by injection e with e1; omega), World.cell?_setCell_other _ _ _ _ (fun e => by injection e with e1; omega)]
                exact c0)
              by_cases hd4 : d1 = 4
              · rw [if_pos hd4] at hr4
                have HR4 := Lib.hid ((hr4.below hb3 (Nat.le_refl _)).more hb3.size)
                clear hcw3 hb3 hr4 KS hz1
                go_wp2_with fail
                go_region_held (fun w' => w'.cell? ⟨g, off, none⟩ = some (.int .u8 (kn : Int))) (first | exact c0 | exact HK.out) (fail)
                go_wp2_with fail
                refine bodyPost_ret (results_c3 rfl _ _ w.heap.size 113 #[.int .u8 (kn : Int), .slice A1 t.length c1] _ _ rfl (heap_set2 HCW3.out) Tryz.underlying113 rfl frame_size) rfl ?_
                rw [HE.out]
                refine ⟨((HB3.out.setCell (by simp) _).setCell (by simp) _).drew, A1, c1, some ⟨g2, off2, none⟩, 0, ?_, own_le2 (own_sets HO3.out (by omega) _ _), (rdB_sets2 HR4.out HFG.out _ _).more (by simp), by simp; omega, by omega, frs_sets (HF1.out.below HBB.out) HFG.out _ _⟩
                rw [HKN.out, List.length_drop]; rfl
              · rw [if_neg hd4] at hr4
                have HR4 := Lib.hid ((hr4.below hb3 (Nat.le_refl _)).more hb3.size)
                clear hcw3 hb3 hr4 KS hz1
                go_wp2_with fail
                go_region_held (fun w' => w'.cell? ⟨g, off, none⟩ = some (.int .u8 (kn : Int))) (first | exact c0 | exact HK.out) (fail)
                go_wp2_with fail
                refine bodyPost_ret (results_c3 rfl _ _ w.heap.size 113 #[.int .u8 (kn : Int), .slice A1 t.length c1] _ _ rfl (heap_set2 HCW3.out) Tryz.underlying113 rfl frame_size) rfl ?_
                rw [HE.out]
                refine ⟨((HB3.out.setCell (by simp) _).setCell (by simp) _).drew, A1, c1, some ⟨g2, off2 + 4, none⟩, d1 - 4, ?_, own_le2 (own_sets HO3.out (by omega) _ _), (rdB_sets2 HR4.out HFG.out _ _).more (by simp), by simp; omega, by omega, frs_sets (HF1.out.below HBB.out) HFG.out _ _⟩
                rw [HKN.out, List.length_drop]; rfl
            case neg =>
              have HE := Lib.hid (take_cons_no (k := k) HX.out (fun h => hsx (by rw [← HS.out] at h; exact HSI.1 h.2.2)))
              have hsx2 : ((S : Int) == (x : Int)) = false := by simp; omega
              have hsx3 : ((S : Int) != (x : Int)) = true := by simp; omega
              go_wp2_with fail
              refine (KS.out _ rfl).mono ?_
              rintro e w3 ⟨rfl, hb3⟩
              have hz1 : w.heap.size < w1.heap.size := by have := HCW.out; rw [Array.getElem?_eq_some_iff] at this; exact this.1
              have hcw3 := (hb3.block _ hz1).trans HCW.out
              have HCW3 := Lib.hid hcw3
              have q0 := cell_of_row w3 w.heap.size 0 _ _ (0, 0) hcw3
              have q1 := cell_of_row w3 w.heap.size 1 _ _ (0, 0) hcw3
              have f0 := frozen_of_row w3 w.heap.size 0 _ _ hcw3
              have f1 := frozen_of_row w3 w.heap.size 1 _ _ hcw3
              simp only [List.getElem?_toArray, List.getElem?_cons_zero, List.getElem?_cons_succ] at q0 q1
              have HB3 := Lib.hid (HB1.out.trans (hb3.mono HB1.out.size))
              clear hcw3 hb3 KS hz1 hsx
              go_wp2_with fail
              refine bodyPost_ret (results_c3 rfl _ _ w.heap.size 113 #[.int .u8 0, .slice none 0 0] _ _ rfl (heap_set2 HCW3.out) Tryz.underlying113 rfl frame_size) rfl ?_
              exact takenR_no HE.out ((HB3.out.setCell (by simp) _).setCell (by simp) _)
end Go.Proofs.YtekbdedpombgcaaGreatDoor

namespace Go.Proofs.YtekbdedpombgcaaGreatDoor
open Go.RowKit

end Go.Proofs.YtekbdedpombgcaaGreatDoor

namespace Go.Proofs.YtekbdedpombgcaaGreatDoor
open Go.RowKit

namespace Frm
/-- Frames, one behind the other. -/
def flat (l : List (UInt8 × List UInt8)) : List UInt8 := l.flatMap (fun p => put p.1 p.2)
theorem flat_snoc (l : List (UInt8 × List UInt8)) (k : UInt8) (t : List UInt8) : flat (l ++ [(k, t)]) = flat l ++ put k t := by simp [flat]
theorem put_pos (k : UInt8) (t : List UInt8) : 0 < (put k t).length := by unfold put head; simp
theorem flat_len (l : List (UInt8 × List UInt8)) : l.length ≤ (flat l).length := by
  induction l with
  | nil => simp
  | cons p l ih =>
    have := put_pos p.1 p.2
    have e : flat (p :: l) = put p.1 p.2 ++ flat l := by simp [flat]
    rw [e, List.length_append, List.length_cons]; omega
/-- What scanning comes to. -/
structure Scans (b : List UInt8) (l : List (UInt8 × List UInt8)) (r : List UInt8) : Prop where
  eq : b = flat l ++ r
  fit : ∀ p ∈ l, p.2.length ≤ 65536
theorem Scans.nil (b : List UInt8) : Scans b [] b := ⟨rfl, fun p hp => by cases hp⟩
theorem Scans.step {b r r' t : List UInt8} {k : UInt8} {l : List (UInt8 × List UInt8)} (h : Scans b l r) (ht : take r = some (k, t, r')) : Scans b (l ++ [(k, t)]) r' := by
  obtain ⟨e, hf⟩ := of_take ht
  refine ⟨by rw [h.eq, e, flat_snoc, List.append_assoc], fun p hp => ?_⟩
  simp only [List.mem_append, List.mem_singleton] at hp
  rcases hp with hp | hp
  · exact h.fit p hp
  · rw [hp]; exact hf
theorem Scans.len {b r : List UInt8} {l : List (UInt8 × List UInt8)} (h : Scans b l r) : l.length ≤ b.length ∧ r.length ≤ b.length := by
  have := flat_len l
  rw [h.eq, List.length_append]; omega
end Frm
/-- A frame as it lies in memory. -/
structure Fv where
  k : UInt8
  A : Option Addr
  c : Nat
  b : List UInt8
def Fv.cells (f : Fv) : List Value := [.int .u8 (f.k.toNat : Int), .slice f.A f.b.length f.c]
def Fv.pr (f : Fv) : UInt8 × List UInt8 := (f.k, f.b)
theorem frT : RT Tryz.prog 109 113 Fv.cells 2 32 (.agg #[.int .u8 0, .slice none 0 0]) :=
  ⟨Tryz.underlying109, by kernel_rfl, fun _ => rfl, fun _ u hu => by simp [Fv.cells] at hu; rcases hu with h | h <;> (subst h; rfl), by omega, rfl⟩
structure RdFv (w : World) (B : Nat) (A : Option Addr) (l : List Fv) : Prop where
  row : RdS Fv.cells 2 w B A l
  ok : ∀ f ∈ l, RdB w B f.A f.b ∧ f.b.length ≤ f.c ∧ f.c ≤ 9223372036854775807
theorem RdFv.below {w w' : World} {B D : Nat} {A : Option Addr} {l : List Fv} (h : RdFv w B A l) (hb : Below D w w') (hD : B ≤ D) : RdFv w' B A l := ⟨h.row.below hb hD, fun f hf => ⟨(h.ok f hf).1.below hb hD, (h.ok f hf).2⟩⟩
theorem RdFv.more {w : World} {B B' : Nat} {A : Option Addr} {l : List Fv} (h : RdFv w B A l) (hB : B ≤ B') : RdFv w B' A l := ⟨h.row.more hB, fun f hf => ⟨(h.ok f hf).1.more hB, (h.ok f hf).2⟩⟩
theorem RdFv.row2 {w : World} {B : Nat} {A : Option Addr} {l : List Fv} (h : RdFv w B A l) (hl : 0 < l.length) : ∃ b off, A = some ⟨b, off, none⟩ ∧ b < B ∧ ∀ k (hk : k < l.length), w.cell? ⟨b, off + k * 2, none⟩ = some (.int .u8 (l[k].k.toNat : Int)) ∧
    w.cell? ⟨b, off + k * 2 + 1, none⟩ = some (.slice l[k].A l[k].b.length l[k].c) := by
  obtain ⟨b, off, hA, hb, hc⟩ := RdS.row (f := Fv.cells) (n := 2) (fun _ => rfl) (by omega) h.row hl
  exact ⟨b, off, hA, hb, fun k hk => ⟨hc k hk 0 _ rfl, hc k hk 1 _ rfl⟩⟩
/-- Frames of the call's own, their bytes apart from the row. -/
structure OwnFv (T : TypeId) (w : World) (base : Nat) (A : Option Addr) (c : Nat) (l : List Fv) : Prop where
  row : OwnS Fv.cells 2 w base T A c l
  own : ∀ f ∈ l, Own w base 5 f.A f.c f.b ∧ Off [blk A] (blk f.A)
section
variable {T : TypeId} {w w' : World} {base c c' : Nat} {A A' : Option Addr} {l : List Fv} {f : Fv}
theorem OwnFv.nil : OwnFv T w base none 0 [] := ⟨OwnS.nil _ _ _, fun f hf => by cases hf⟩
theorem OwnFv.call (h : OwnFv T w base A c l) (hb : Below w.heap.size w w') : OwnFv T w' base A c l := ⟨h.row.below hb, fun f hf => ⟨(h.own f hf).1.below hb, (h.own f hf).2⟩⟩
theorem OwnFv.app (h : OwnFv T w base A c l) (hf : Own w base 5 f.A f.c f.b) (hof : Off [blk A] (blk f.A)) (ho : OwnS Fv.cells 2 w' base T A' c' (l ++ [f])) (hg : w.grownBy w' (blk A)) (hat : blk A' = blk A ∨ blk A' = some w.heap.size) : OwnFv T w' base A' c' (l ++ [f]) := by
  have hR : ∀ r ∈ ([blk A'] : List (Option Nat)), r ∈ ([blk A] : List (Option Nat)) ∨ r = some w.heap.size := fun r hr => by
    simp only [List.mem_singleton] at hr ⊢
    rcases hat with h1 | h1
    · exact .inl (hr.trans h1)
    · exact .inr (hr.trans h1)
  refine ⟨ho, fun q hq => ?_⟩
  simp only [List.mem_append, List.mem_singleton] at hq
  rcases hq with hq | hq
  · obtain ⟨h1, h2⟩ := h.own q hq
    exact ⟨h1.kept hg (h2.ne (by simp)), h2.new (fun g hg => (h1.blk_ge g hg).2) hR⟩
  · rw [hq]
    exact ⟨hf.kept hg (hof.ne (by simp)), hof.new (fun g hg => (hf.blk_ge g hg).2) hR⟩
theorem OwnFv.rd (h : OwnFv T w base A c l) : RdFv w w.heap.size A l := ⟨h.row.rd, fun f hf => ⟨(h.own f hf).1.rd, (h.own f hf).1.cap, (h.own f hf).1.cap_le⟩⟩
end
theorem rd_frame_new (T : TypeId) (w : World) (f : Fv) : RdS Fv.cells 2 (w.alloc (.cells #[.int .u8 (f.k.toNat : Int), .slice f.A f.b.length f.c] T)) (w.heap.size + 1) (some ⟨w.heap.size, 0, none⟩) [f] := by
  refine RdS.of (f := Fv.cells) (n := 2) (l := [f]) (fun _ => rfl) _ 0 (by omega) (fun k hk j u hj => ?_)
  obtain rfl : k = 0 := by simp at hk; exact hk
  have hj' : f.cells[j]? = some u := hj
  rw [cell_of_row _ w.heap.size _ _ _ (0, 0) (heap_alloc_new w _)]
  simpa [Fv.cells] using hj'
theorem below_al2 (w : World) (o p : Obj) : Below w.heap.size w ((w.alloc o).alloc p) := ((Below.refl _ _).alloc (Nat.le_refl _) _).alloc (by simp) _
end Go.Proofs.YtekbdedpombgcaaGreatDoor
