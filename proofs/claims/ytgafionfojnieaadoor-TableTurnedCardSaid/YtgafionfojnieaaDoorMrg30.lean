/- Parts of the proof, one behind the other: Plain: a frame taken of bytes; it undoes Put.; The contract of frame.Take.; append of parts; the contract of the program's Parts.; The contract of the reference's Parts. -/
import Derived.Test.YtgafionfojnieaaDoorMrg04
import Derived.Test.YtgafionfojnieaaDoorMrg28
import Derived.Test.YtgafionfojnieaaDoorMrg14
import Derived.Test.YtgafionfojnieaaDoorMrg29
import Derived.Deep.RegionHeld
import Derived.Outline
import Derived.Test.YtgafionfojnieaaDoorMrg20
namespace Go.Proofs.YtgafionfojnieaaDoor
open Go.RowKit

namespace Frm
/-- The number of four bytes, the highest first. -/
def num4 (l : List UInt8) : Nat := l.foldl (fun n c => n * 256 + c.toNat) 0
/-- What bytes begin with: the frame's kind, its bytes, the rest. -/
def take (b : List UInt8) : Option (UInt8 × List UInt8 × List UInt8) := match b with
  | [] => none
  | k :: b' => match cutT (Cod.take b') with
    | none => none
    | some (t, r) => if t.length ≤ 65536 ∧ 4 ≤ r.length ∧ r.take 4 = be4 (Chk.sum (head k t)) then some (k, t, r.drop 4) else none
theorem cutT_text {b t r : List UInt8} (h : cutT (Cod.take b) = some (t, r)) : b = Cod.text t ++ r := by
  unfold cutT at h
  split at h
  · cases h
  · rename_i n r0 hk
    split at h
    · rename_i hn
      injection h with h; injection h with h1 h2
      subst h1 h2
      rw [Cod.take_number hk]
      unfold Cod.text
      have e : (r0.take n).length = n := by rw [List.length_take]; omega
      rw [e, List.append_assoc, List.take_append_drop]
    · cases h
theorem take_num (n : Nat) (h : n < 18446744073709551616) (r : List UInt8) : Cod.take (Cod.number n ++ r) = some (n, r) := Cod.take_of h r
theorem cutT_of (t r : List UInt8) (h : t.length < 18446744073709551616) : cutT (Cod.take (Cod.text t ++ r)) = some (t, r) := by
  unfold Cod.text
  rw [List.append_assoc, take_num _ h]
  unfold cutT
  simp
theorem be4_len (n : Nat) : (be4 n).length = 4 := rfl
theorem take_put (k : UInt8) (t r : List UInt8) (h : t.length ≤ 65536) : take (put k t ++ r) = some (k, t, r) := by
  unfold put
  have e : head k t ++ be4 (Chk.sum (head k t)) ++ r = k :: (Cod.text t ++ (be4 (Chk.sum (head k t)) ++ r)) := by
    rw [List.append_assoc]; rfl
  rw [e, take, cutT_of _ _ (by omega)]
  simp only
  rw [if_pos ⟨h, by simp [be4_len], by rw [List.take_append_of_le_length (by simp [be4_len]), List.take_of_length_le (by simp [be4_len])]⟩]
  rw [List.drop_append_of_le_length (by simp [be4_len]), List.drop_of_length_le (by simp [be4_len])]
  rfl
theorem of_take {b t r : List UInt8} {k : UInt8} (h : take b = some (k, t, r)) : b = put k t ++ r ∧ t.length ≤ 65536 := by
  unfold take at h
  split at h
  · cases h
  · rename_i k' b'
    split at h
    · cases h
    · rename_i t' r' hc
      split at h
      · rename_i hh
        obtain ⟨h1, h2, h3⟩ := hh
        injection h with h; injection h with e1 h; injection h with e2 e3
        subst e1 e2 e3
        refine ⟨?_, h1⟩
        rw [cutT_text hc, put, ← h3, List.append_assoc, List.take_append_drop]
        rfl
      · cases h
theorem num4_be4 (n : Nat) (h : n < 4294967296) : num4 (be4 n) = n := by
  unfold num4 be4
  simp only [List.foldl_cons, List.foldl_nil, UInt8.toNat_ofNat']
  omega
theorem num4_lt (l : List UInt8) : ∀ n : Nat, l.foldl (fun n (c : UInt8) => n * 256 + c.toNat) n < (n + 1) * 256 ^ l.length := by
  induction l with
  | nil => intro n; simp
  | cons c l ih =>
    intro n
    have h1 := ih (n * 256 + c.toNat)
    have h2 := c.toNat_lt
    rw [List.foldl_cons, List.length_cons, Nat.pow_succ]
    refine Nat.lt_of_lt_of_le h1 ?_
    rw [Nat.mul_comm (256 ^ l.length) 256, ← Nat.mul_assoc]
    exact Nat.mul_le_mul_right _ (by omega)
theorem num4_inj {l m : List UInt8} (hl : l.length = 4) (hm : m.length = 4) (h : num4 l = num4 m) : l = m := by
  match l, hl, m, hm with
  | [a, b, c, d], _, [e, f, g, i], _ =>
    unfold num4 at h
    simp only [List.foldl_cons, List.foldl_nil] at h
    have := a.toNat_lt; have := b.toNat_lt; have := c.toNat_lt; have := d.toNat_lt
    have := e.toNat_lt; have := f.toNat_lt; have := g.toNat_lt; have := i.toNat_lt
    have h1 : a.toNat = e.toNat := by omega
    have h2 : b.toNat = f.toNat := by omega
    have h3 : c.toNat = g.toNat := by omega
    have h4 : d.toNat = i.toNat := by omega
    rw [UInt8.toNat_inj.1 h1, UInt8.toNat_inj.1 h2, UInt8.toNat_inj.1 h3, UInt8.toNat_inj.1 h4]
theorem sum_iff (r h : List UInt8) (hr : 4 ≤ r.length) : r.take 4 = be4 (Chk.sum h) ↔ Chk.sum h = num4 (r.take 4) := by
  have hs : Chk.sum h < 2147483647 := Chk.sum_lt _
  constructor
  · intro e; rw [e, num4_be4 _ (by omega)]
  · intro e; exact num4_inj (by rw [List.length_take]; omega) rfl (by rw [num4_be4 _ (by omega), e])
theorem num4_snoc (l : List UInt8) (c : UInt8) : num4 (l ++ [c]) = num4 l * 256 + c.toNat := by unfold num4; simp [List.foldl_append]
end Frm
end Go.Proofs.YtgafionfojnieaaDoor

namespace Go.Proofs.YtgafionfojnieaaDoor
open Go.RowKit

/-- A frame as Go's value. -/
def FrV (k : Nat) (A : Option Addr) (n c : Nat) : Value := .agg #[.int .u8 (k : Int), .slice A n c]
/-- What was taken: a frame, the rest. -/
def TakenR (w : World) (A0 : Option Addr) (v : Option (UInt8 × List UInt8 × List UInt8)) (e : Ending) (w' : World) : Prop :=
  Below w.heap.size w w' ∧ match v with
  | none => e = .returned (.tuple #[.agg #[.int .u8 0, .slice none 0 0], .slice none 0 0, .int .i64 3])
  | some (k, t, r) => ∃ A c B d, e = .returned (.tuple #[.agg #[.int .u8 (k.toNat : Int), .slice A t.length c], .slice B r.length d, .int .i64 0]) ∧ Own w' w.heap.size 5 A c t ∧ RdB w' w'.heap.size B r ∧ r.length ≤ d ∧ d ≤ 9223372036854775807 ∧ Frs w' w.heap.size A0 B
theorem takenR_no {w w' : World} {A0 : Option Addr} {b : List UInt8} (hv : Frm.take b = none) (hb : Below w.heap.size w w') : TakenR w A0 (Frm.take b) (.returned (.tuple #[.agg #[.int .u8 0, .slice none 0 0], .slice none 0 0, .int .i64 3])) w' := by
  rw [hv]; exact ⟨hb, rfl⟩
theorem frame_size : (Tryd.prog.info? 73).map (fun x => x.size) = some 2 := by kernel_rfl
theorem take_cons_none {k : UInt8} {l : List UInt8} (h : cutT (Cod.take l) = none) : Frm.take (k :: l) = none := by unfold Frm.take; simp only [h]
theorem take_cons_no {k : UInt8} {l t r : List UInt8} (h : cutT (Cod.take l) = some (t, r)) (hn : ¬ (t.length ≤ 65536 ∧ 4 ≤ r.length ∧ r.take 4 = Frm.be4 (Chk.sum (Frm.head k t)))) : Frm.take (k :: l) = none := by
  unfold Frm.take; simp only [h]; rw [if_neg hn]
theorem take_cons_yes {k : UInt8} {l t r : List UInt8} (h : cutT (Cod.take l) = some (t, r)) (hn : t.length ≤ 65536 ∧ 4 ≤ r.length ∧ r.take 4 = Frm.be4 (Chk.sum (Frm.head k t))) : Frm.take (k :: l) = some (k, t, r.drop 4) := by
  unfold Frm.take; simp only [h]; rw [if_pos hn]
theorem takeTextS_cut (A : Option Addr) (n c : Nat) (b : List UInt8) (w : World) (hn : n = b.length) (h : RdB w w.heap.size A b) (hl : b.length ≤ 140737488355328) (hc : b.length ≤ c) (hcc : c ≤ 9223372036854775807) :
    Calls Tryd.prog 79 #[.slice A n c] w (TakenS w A (cutT (Cod.take b))) := by subst hn; exact takeTextS_any A c b w h hl hc hcc
theorem frs_sets {w : World} {n G : Nat} {A B : Option Addr} (h : Frs w n A B) (hG : ∀ x, blk B = some x → x ≠ G) (a b : Value) : Frs ((w.setCell ⟨G, 0, none⟩ a).setCell ⟨G, 1, none⟩ b) n A B := fun g hg => by
  rcases h g hg with h1 | ⟨h1, cs, fr, h2⟩
  · exact .inl h1
  · refine .inr ⟨h1, cs, fr, ?_⟩
    rw [Below.heap_setCell _ _ _ _ (by have := hG g hg; simpa using this), Below.heap_setCell _ _ _ _ (by have := hG g hg; simpa using this)]
    exact h2
theorem heap_set2 {w : World} {g : Nat} {x y a b : Value} {T : TypeId} (h : w.heap[g]? = some (.cells #[x, y] T)) : ((w.setCell ⟨g, 0, none⟩ a).setCell ⟨g, 1, none⟩ b).heap[g]? = some (.cells #[a, b] T) := by
  have h1 := heap_setCell_same w g 0 _ T a h
  have h2 := heap_setCell_same _ g 1 _ T b h1
  simpa using h2
theorem join8u {n x : Nat} (hn : n < 16777216) (hx : x < 256) : bits .or .u32 ((n : Int) * 256) (x : Int) = ((n * 256 + x : Nat) : Int) := by
  have e1 : ((n : Int) * 256) = ((n * 256 : Nat) : Int) := by omega
  rw [e1, u32_or_nat _ _ (by omega) (by omega), nat_join8 (n * 256) x (by omega) (by omega)]
theorem chksum_cut (A : Option Addr) (n c : Nat) (l : List UInt8) (w : World) (hn : n = l.length) (h : RdB w w.heap.size A l) (hl : l.length ≤ 140737488355328) :
    Calls Tryd.prog 70 #[.slice A n c] w fun e w' => e = .returned (.int .u32 (Chk.sum l : Int)) ∧ Below w.heap.size w w' := by subst hn; exact chksum_any A c l w h hl
theorem own_keep2 {w w' : World} {base c : Nat} {e : TypeId} {A : Option Addr} {l : List UInt8} (h : Own w base e A c l) (hb : ∀ g, blk A = some g → w'.heap[g]? = w.heap[g]?) : Own w' base e A c l := by
  refine ⟨h.1, ?_⟩
  rcases h.2 with h2 | ⟨g, cap, cur, hv, hg, hh, r⟩
  · exact .inl h2
  · refine .inr ⟨g, cap, cur, hv, hg, ?_, r⟩
    injection hv with hv
    rw [hb g (by rw [hv]; rfl)]
    exact hh
theorem own_le2 {w : World} {n c : Nat} {T : TypeId} {A : Option Addr} {l : List UInt8} (h : Own w (n + 1) T A c l) : Own w n T A c l := h.mono (Nat.le_succ n)
theorem own_sets {w : World} {base G c : Nat} {T : TypeId} {A : Option Addr} {l : List UInt8} (h : Own w base T A c l) (hG : G < base) (a b : Value) : Own ((w.setCell ⟨G, 0, none⟩ a).setCell ⟨G, 1, none⟩ b) base T A c l := by
  refine own_keep2 h (fun g hg => ?_)
  have h1 := (h.blk_ge g hg).1
  rw [Below.heap_setCell _ _ _ _ (by simp; omega), Below.heap_setCell _ _ _ _ (by simp; omega)]
theorem rdB_sets2 {w : World} {B G : Nat} {A : Option Addr} {l : List UInt8} (h : RdB w B A l) (hA : ∀ g, blk A = some g → g ≠ G) (a b : Value) : RdB ((w.setCell ⟨G, 0, none⟩ a).setCell ⟨G, 1, none⟩ b) B A l := by
  refine ⟨h.1, fun hn => ?_⟩
  obtain ⟨ad, e, hb, hc⟩ := h.2 hn
  have hne : ad.block ≠ G := hA _ (by rw [e]; rfl)
  refine ⟨ad, e, hb, fun j u hu => ?_⟩
  rw [World.cell?_setCell_other _ _ _ _ (fun e => hne (by rw [← block_of_add ad j, ← e])), World.cell?_setCell_other _ _ _ _ (fun e => hne (by rw [← block_of_add ad j, ← e]))]
  exact hc j u hu
set_option maxHeartbeats 2000000 in
set_option maxRecDepth 100000 in
theorem ftake_any (A : Option Addr) (c : Nat) (b : List UInt8) (w : World) (h : RdB w w.heap.size A b) (hl : b.length ≤ 140737488355328) (hc : b.length ≤ c) (hcc : c ≤ 9223372036854775807) :
    Calls Tryd.prog 76 #[.slice A b.length c] w (TakenR w A (Frm.take b)) := by
  have HAL : Hid (∀ o, Below w.heap.size w (w.alloc o)) := Lib.hid (fun o => (Below.refl _ _).alloc (Nat.le_refl _) o)
  rcases b with _ | ⟨k, b⟩
  · go_enter Tryd.func76, Tryd.ntmps76
    go_wp2_with fail
    refine bodyPost_ret (results_c3 rfl _ _ w.heap.size 73 #[.int .u8 0, .slice none 0 0] _ _ rfl (heap_alloc_new _ _) Tryd.underlying73 rfl frame_size) rfl ?_
    exact takenR_no rfl (HAL.out _)
  · obtain ⟨g, off, rfl, hab, hcell⟩ := h.at_ (k := 0) (by simp)
    have hcut := h.cut (k := 1) (c := c) (by simp) hc
    simp only [List.drop_succ_cons, List.drop_zero] at hcut
    have HH := Lib.hid h
    obtain ⟨n, hn⟩ : ∃ n, n = b.length := ⟨_, rfl⟩
    have hcell0 : w.cell? ⟨g, off, none⟩ = some (.int .u8 (k.toNat : Int)) := by simpa using hcell
    have hln : (k :: b).length = n + 1 := by rw [hn]; rfl
    rw [hln] at hl hc ⊢
    have h1c : (1 : Int) ≤ (c : Int) := by omega
    obtain ⟨kn, hkn⟩ : ∃ kn, kn = k.toNat := ⟨_, rfl⟩
    rw [← hkn] at hcell0
    have HC0 := Lib.hid hcell0
    have HKN := Lib.hid hkn
    by_cases hc1 : c = 1
    · subst hc1
      have hn0 : n = 0 := by omega
      subst hn0
      have hb0 : b = [] := List.eq_nil_of_length_eq_zero hn.symm
      subst hb0
      have hx : cutT (Cod.take []) = none := rfl
      have HE := Lib.hid (take_cons_none (k := k) hx)
      have KT : Hid (∀ A w, Calls Tryd.prog 79 #[.slice A 0 0] w (TakenS w A none)) := Lib.hid (fun A w => by
        have := takeTextS_cut A 0 0 [] w rfl RdB.nil (by simp) (by simp) (by omega)
        rwa [hx] at this)
      clear hcell hcut h hn hln hkn hx
      go_enter Tryd.func76, Tryd.ntmps76
      go_wp2_with fail
      refine (KT.out _ _).mono ?_
      intro e w1 hh
      obtain ⟨hb1, rfl⟩ := takenS_none hh
      have hcw : w1.heap[w.heap.size]? = some (.cells #[.int .u8 0, .slice none 0 0] 73) := (hb1.block _ (by simp)).trans (heap_alloc_new _ _)
      have HCW := Lib.hid hcw
      have HB1 : Hid (Below w.heap.size w w1) := Lib.hid ((HAL.out _).trans (hb1.mono (by simp)))
      have q0 := cell_of_row w1 w.heap.size 0 _ _ (0, 0) hcw
      have q1 := cell_of_row w1 w.heap.size 1 _ _ (0, 0) hcw
      have f0 := frozen_of_row w1 w.heap.size 0 _ _ hcw
      have f1 := frozen_of_row w1 w.heap.size 1 _ _ hcw
      simp only [List.getElem?_toArray, List.getElem?_cons_zero, List.getElem?_cons_succ] at q0 q1
      clear hh hcw hb1
      go_wp2_with fail
      refine bodyPost_ret (results_c3 rfl _ _ w.heap.size 73 #[.int .u8 0, .slice none 0 0] _ _ rfl (heap_set2 HCW.out) Tryd.underlying73 rfl frame_size) rfl ?_
      exact takenR_no HE.out ((HB1.out.setCell (by simp) _).setCell (by simp) _)
    · rw [if_neg hc1] at hcut
      have HCUT := Lib.hid hcut
      have HN := Lib.hid hn
      clear hcell hcut h hn hln hcell0 hkn
      go_enter Tryd.func76, Tryd.ntmps76
      go_wp2_with fail
      refine (takeTextS_cut _ _ _ b _ HN.out ((HCUT.out.alloc (Nat.le_refl _) _).more (by simp)) (by have := HN.out; omega) (by have := HN.out; omega) (by omega)).mono ?_
      cases hx : cutT (Cod.take b) with
      | none =>
        intro e w1 hh
        obtain ⟨hb1, rfl⟩ := takenS_none hh
        have HE := Lib.hid (take_cons_none (k := k) hx)
        have hcw : w1.heap[w.heap.size]? = some (.cells #[.int .u8 0, .slice none 0 0] 73) := (hb1.block _ (by simp)).trans (heap_alloc_new _ _)
        have HCW := Lib.hid hcw
        have HB1 : Hid (Below w.heap.size w w1) := Lib.hid ((HAL.out _).trans (hb1.mono (by simp)))
        have q0 := cell_of_row w1 w.heap.size 0 _ _ (0, 0) hcw
        have q1 := cell_of_row w1 w.heap.size 1 _ _ (0, 0) hcw
        have f0 := frozen_of_row w1 w.heap.size 0 _ _ hcw
        have f1 := frozen_of_row w1 w.heap.size 1 _ _ hcw
        simp only [List.getElem?_toArray, List.getElem?_cons_zero, List.getElem?_cons_succ] at q0 q1
        clear hx hh hcw hb1
        go_wp2_with fail
        refine bodyPost_ret (results_c3 rfl _ _ w.heap.size 73 #[.int .u8 0, .slice none 0 0] _ _ rfl (heap_set2 HCW.out) Tryd.underlying73 rfl frame_size) rfl ?_
        exact takenR_no HE.out ((HB1.out.setCell (by simp) _).setCell (by simp) _)
      | some v =>
        obtain ⟨t, r⟩ := v
        intro e w1 hh
        obtain ⟨hb1, A1, c1, B1, d1, rfl, ho1, hr1, hd1, hdd1, hf1⟩ := takenS_some hh
        have hcw : w1.heap[w.heap.size]? = some (.cells #[.int .u8 0, .slice none 0 0] 73) := (hb1.block _ (by simp)).trans (heap_alloc_new _ _)
        have HCW := Lib.hid hcw
        have HB1 : Hid (Below w.heap.size w w1) := Lib.hid ((HAL.out _).trans (hb1.mono (by simp)))
        have HO1 : Hid (Own w1 (w.heap.size + 1) 5 A1 c1 t) := Lib.hid (by simpa using ho1)
        have HF1 : Hid (Frs w1 w.heap.size (some ⟨g, off, none⟩) B1) := Lib.hid (fun x hx => by
          rcases hf1 x hx with h1 | ⟨h1, h2⟩
          · exact .inl h1
          · exact .inr ⟨by have : w.heap.size + 1 ≤ x := (by simpa using h1); omega, h2⟩)
        have HFG : Hid (∀ x, blk B1 = some x → x ≠ w.heap.size) := Lib.hid (fun x hx => by
          rcases hf1 x hx with h1 | ⟨h1, _⟩
          · have : g = x := by simpa [blk] using h1
            omega
          · have : w.heap.size + 1 ≤ x := (by simpa using h1); omega)
        have HR1 := Lib.hid hr1
        have q0 := cell_of_row w1 w.heap.size 0 _ _ (0, 0) hcw
        have q1 := cell_of_row w1 w.heap.size 1 _ _ (0, 0) hcw
        have f0 := frozen_of_row w1 w.heap.size 0 _ _ hcw
        have f1 := frozen_of_row w1 w.heap.size 1 _ _ hcw
        simp only [List.getElem?_toArray, List.getElem?_cons_zero, List.getElem?_cons_succ] at q0 q1
        have htx := Frm.cutT_text hx
        have HX := Lib.hid hx
        have HTX := Lib.hid htx
        clear hx hh hcw hb1 hf1 hr1 ho1 htx
        by_cases ht : (65536 : Int) < (t.length : Int)
        · have HE := Lib.hid (take_cons_no (k := k) HX.out (fun h => by have := h.1; omega))
          go_wp2_with fail
          refine bodyPost_ret (results_c3 rfl _ _ w.heap.size 73 #[.int .u8 0, .slice none 0 0] _ _ rfl (heap_set2 HCW.out) Tryd.underlying73 rfl frame_size) rfl ?_
          exact takenR_no HE.out ((HB1.out.setCell (by simp) _).setCell (by simp) _)
        by_cases hr : (r.length : Int) < 4
        · have HE := Lib.hid (take_cons_no (k := k) HX.out (fun h => by have := h.2.1; omega))
          go_wp2_with fail
          refine bodyPost_ret (results_c3 rfl _ _ w.heap.size 73 #[.int .u8 0, .slice none 0 0] _ _ rfl (heap_set2 HCW.out) Tryd.underlying73 rfl frame_size) rfl ?_
          exact takenR_no HE.out ((HB1.out.setCell (by simp) _).setCell (by simp) _)
        obtain ⟨g2, off2, rfl, hg2, _⟩ := HR1.out.at_ (k := 0) (by omega)
        have HR1' := Lib.hid HR1.out
        go_wp2_with fail
        go_loop [8, 38] (fun v i => ∃ j x : Nat, j ≤ 4 ∧ i = .int .i64 (j : Int) ∧ v = .int .u32 (x : Int) ∧ Hid (x = Frm.num4 (r.take j))) (fun _ i => 4 - (intOf i).toNat)
        case atStart => exact ⟨0, 0, by omega, rfl, rfl, Lib.hid rfl⟩
        case round =>
          obtain ⟨j, x, hj, rfl, rfl, HX4⟩ := hrel
          by_cases hj4 : j < 4
          · obtain ⟨g3, off3, e3, _, hcj⟩ := HR1.out.at_ (k := j) (by omega)
            injection e3 with e3
            injection e3 with e4 e5
            subst e4 e5
            have hx24 : x < 16777216 := by
              have h1 := Frm.num4_lt (r.take j) 0
              rw [HX4.out]
              unfold Frm.num4
              have h2 : (r.take j).length ≤ 3 := by rw [List.length_take]; omega
              have h3 : (256 : Nat) ^ (r.take j).length ≤ 256 ^ 3 := Nat.pow_le_pow_right (by omega) h2
              have h4 : (256 : Nat) ^ 3 = 16777216 := by decide
              omega
            have hsn : Frm.num4 (r.take (j + 1)) = x * 256 + (r[j]'(by omega)).toNat := by
              rw [List.take_succ_eq_append_getElem (by omega), Frm.num4_snoc, HX4.out]
            have hyl := (r[j]'(by omega)).toNat_lt
            obtain ⟨y, hy⟩ : ∃ y, y = (r[j]'(by omega)).toNat := ⟨_, rfl⟩
            rw [← hy] at hcj hsn hyl
            have hjn := join8u hx24 hyl
            have HSN := Lib.hid hsn
            have hxi : (x : Int) < 16777216 := by omega
            have hyi : (y : Int) < 256 := by omega
            have hj0 : (0 : Int) ≤ (j : Int) := by omega
            have hj1 : (j : Int) < 4 := by omega
            clear hy hsn hx24 hyl
            go_wp2_with fail
            go_round
            case rel => exact ⟨j + 1, x * 256 + y, by omega, by go_num, rfl, Lib.hid HSN.out.symm⟩
            case measure => simp [intOf]; omega
          · obtain rfl : j = 4 := by omega
            have htk : (k :: b).take (n + 1 - r.length) = Frm.head k t ∧ r.length ≤ n := by
              have h1 := HTX.out
              have h2 := HN.out
              have h3 : n = (Cod.text t).length + r.length := by rw [h2, h1, List.length_append]
              refine ⟨?_, by omega⟩
              rw [show n + 1 - r.length = (Cod.text t).length + 1 by omega, List.take_succ_cons, h1, List.take_left']
              · rfl
              · rfl
            have HTK := Lib.hid htk.1
            have hrn := htk.2
            have HRC : Hid (n + 1 - r.length = ((k :: b).take (n + 1 - r.length)).length) := Lib.hid (by
              have := HN.out
              rw [List.length_take, List.length_cons]; omega)
            have HRT : Hid (RdB w1 w1.heap.size (some ⟨g, off, none⟩) ((k :: b).take (n + 1 - r.length))) := Lib.hid (((HH.out.take (by have := HN.out; rw [List.length_cons]; omega)).below HB1.out (Nat.le_refl _)).more HB1.out.size)
            have KS := Lib.hid (fun m (hm : m = n + 1 - r.length) => chksum_cut (some ⟨g, off, none⟩) m c _ w1 (hm.trans HRC.out) HRT.out (by have := HN.out; rw [List.length_take, List.length_cons]; omega))
            rw [HTK.out] at KS
            obtain ⟨S, hS⟩ : ∃ S, S = Chk.sum (Frm.head k t) := ⟨_, rfl⟩
            rw [← hS] at KS
            have HSI := Frm.sum_iff r (Frm.head k t) (by omega)
            rw [← hS, ← HX4.out] at HSI
            have HS := Lib.hid hS
            have hs0 : (0 : Int) ≤ (n : Int) + 1 - (r.length : Int) := by omega
            have hs1 : (n : Int) + 1 - (r.length : Int) ≤ (c : Int) := by omega
            clear htk hS hj4 hj
            by_cases hsx : S = x
            case pos =>
              have HE := Lib.hid (take_cons_yes (k := k) HX.out ⟨by omega, by omega, by rw [← HS.out]; exact HSI.2 hsx⟩)
              subst hsx
              go_wp2_with fail
              refine (KS.out _ rfl).mono ?_
              rintro e w3 ⟨rfl, hb3⟩
              have hz1 : w.heap.size < w1.heap.size := by have := HCW.out; rw [Array.getElem?_eq_some_iff] at this; exact this.1
              have hcw3 := (hb3.block _ hz1).trans HCW.out
              have HCW3 := Lib.hid hcw3
              have c0 := (hb3.cell (p := ⟨g, off, none⟩) (by have := HB1.out.size; simp; omega)).trans ((HB1.out.cell (p := ⟨g, off, none⟩) hab).trans HC0.out)
              have q0 := cell_of_row w3 w.heap.size 0 _ _ (0, 0) hcw3
              have q1 := cell_of_row w3 w.heap.size 1 _ _ (0, 0) hcw3
              have f0 := frozen_of_row w3 w.heap.size 0 _ _ hcw3
              have f1 := frozen_of_row w3 w.heap.size 1 _ _ hcw3
              simp only [List.getElem?_toArray, List.getElem?_cons_zero, List.getElem?_cons_succ] at q0 q1
              have hr4 := HR1.out.cut (k := 4) (c := d1) (by omega) (by omega)
              have HO3 := Lib.hid (HO1.out.below hb3)
              have HB3 := Lib.hid (HB1.out.trans (hb3.mono HB1.out.size))
              have HBB := Lib.hid hb3
              have i0 : (4 : Int) ≤ (r.length : Int) := by omega
              have i1 : (r.length : Int) ≤ (d1 : Int) := by omega
              have i2 : (0 : Int) < (n : Int) + 1 := by omega
              have HK : Hid (((w3.setCell ⟨w.heap.size, 0, none⟩ (.int .u8 (kn : Int))).setCell ⟨w.heap.size, 1, none⟩ (.slice A1 t.length c1)).cell? ⟨g, off, none⟩ = some (.int .u8 (kn : Int))) := Lib.hid (by
                rw [World.cell?_setCell_other _ _ _ _ (fun e => by injection e with e1; omega), World.cell?_setCell_other _ _ _ _ (fun e => by injection e with e1; omega)]
                exact c0)
              by_cases hd4 : d1 = 4
              · rw [if_pos hd4] at hr4
                have HR4 := Lib.hid ((hr4.below hb3 (Nat.le_refl _)).more hb3.size)
                clear hcw3 hb3 hr4 KS hz1
                go_wp2_with fail
                go_region_held (fun w' => w'.cell? ⟨g, off, none⟩ = some (.int .u8 (kn : Int))) (first | exact c0 | exact HK.out) (fail)
                go_wp2_with fail
                refine bodyPost_ret (results_c3 rfl _ _ w.heap.size 73 #[.int .u8 (kn : Int), .slice A1 t.length c1] _ _ rfl (heap_set2 HCW3.out) Tryd.underlying73 rfl frame_size) rfl ?_
                rw [HE.out]
                refine ⟨((HB3.out.setCell (by simp) _).setCell (by simp) _).drew, A1, c1, some ⟨g2, off2, none⟩, 0, ?_, own_le2 (own_sets HO3.out (by omega) _ _), (rdB_sets2 HR4.out HFG.out _ _).more (by simp), by simp; omega, by omega, frs_sets (HF1.out.below HBB.out) HFG.out _ _⟩
                rw [HKN.out, List.length_drop]; rfl
              · rw [if_neg hd4] at hr4
                have HR4 := Lib.hid ((hr4.below hb3 (Nat.le_refl _)).more hb3.size)
                clear hcw3 hb3 hr4 KS hz1
                go_wp2_with fail
                go_region_held (fun w' => w'.cell? ⟨g, off, none⟩ = some (.int .u8 (kn : Int))) (first | exact c0 | exact HK.out) (fail)
                go_wp2_with fail
                refine bodyPost_ret (results_c3 rfl _ _ w.heap.size 73 #[.int .u8 (kn : Int), .slice A1 t.length c1] _ _ rfl (heap_set2 HCW3.out) Tryd.underlying73 rfl frame_size) rfl ?_
                rw [HE.out]
                refine ⟨((HB3.out.setCell (by simp) _).setCell (by simp) _).drew, A1, c1, some ⟨g2, off2 + 4, none⟩, d1 - 4, ?_, own_le2 (own_sets HO3.out (by omega) _ _), (rdB_sets2 HR4.out HFG.out _ _).more (by simp), by simp; omega, by omega, frs_sets (HF1.out.below HBB.out) HFG.out _ _⟩
                rw [HKN.out, List.length_drop]; rfl
            case neg =>
              have HE := Lib.hid (take_cons_no (k := k) HX.out (fun h => hsx (by rw [← HS.out] at h; exact HSI.1 h.2.2)))
              have hsx2 : ((S : Int) == (x : Int)) = false := by simp; omega
              have hsx3 : ((S : Int) != (x : Int)) = true := by simp; omega
              go_wp2_with fail
              refine (KS.out _ rfl).mono ?_
              rintro e w3 ⟨rfl, hb3⟩
              have hz1 : w.heap.size < w1.heap.size := by have := HCW.out; rw [Array.getElem?_eq_some_iff] at this; exact this.1
              have hcw3 := (hb3.block _ hz1).trans HCW.out
              have HCW3 := Lib.hid hcw3
              have q0 := cell_of_row w3 w.heap.size 0 _ _ (0, 0) hcw3
              have q1 := cell_of_row w3 w.heap.size 1 _ _ (0, 0) hcw3
              have f0 := frozen_of_row w3 w.heap.size 0 _ _ hcw3
              have f1 := frozen_of_row w3 w.heap.size 1 _ _ hcw3
              simp only [List.getElem?_toArray, List.getElem?_cons_zero, List.getElem?_cons_succ] at q0 q1
              have HB3 := Lib.hid (HB1.out.trans (hb3.mono HB1.out.size))
              clear hcw3 hb3 KS hz1 hsx
              go_wp2_with fail
              refine bodyPost_ret (results_c3 rfl _ _ w.heap.size 73 #[.int .u8 0, .slice none 0 0] _ _ rfl (heap_set2 HCW3.out) Tryd.underlying73 rfl frame_size) rfl ?_
              exact takenR_no HE.out ((HB3.out.setCell (by simp) _).setCell (by simp) _)
end Go.Proofs.YtgafionfojnieaaDoor

namespace Go.Proofs.YtgafionfojnieaaDoor
open Go.RowKit

def OwnP (w : World) (base : Nat) (A : Option Addr) (c : Nat) (l : List Pt) : Prop := w.ownsRow base 122 3 (.slice A l.length c) l.length (pv l)
section
variable {w w' : World} {base : Nat} {A : Option Addr} {c : Nat} {l : List Pt}
theorem OwnP.rd (h : OwnP w base A c l) : RdP w w.heap.size A l := Reads.of_own h
theorem OwnP.alloc (h : OwnP w base A c l) (o : Obj) : OwnP (w.alloc o) base A c l := World.ownsRow.alloc h o
theorem OwnP.below (h : OwnP w base A c l) (hb : Below w.heap.size w w') : OwnP w' base A c l :=
  World.ownsRow.kept (row := none) h ⟨hb.os, hb.tape, hb.output, hb.size, fun k hk _ => hb.block k hk⟩ (by cases A <;> simp [Value.ownBlock])
theorem OwnP.blk_ge (h : OwnP w base A c l) : ∀ g, blk A = some g → base ≤ g ∧ g < w.heap.size := by
  intro g hg
  refine World.ownsRow.lt h g ?_
  cases A with
  | none => simp [blk] at hg
  | some a => simpa [Value.ownBlock, blk] using hg
theorem OwnP.nil (w : World) (base : Nat) : OwnP w base none 0 [] := World.ownsRow_nil _ _ _ _
end
theorem pv_one (l : List Pt) : ∀ u ∈ pv l, u.oneCell' = true := by
  intro u hu
  simp only [pv, List.mem_flatMap] at hu
  obtain ⟨p, _, hu⟩ := hu
  simp only [Pt.cells, List.mem_cons, List.not_mem_nil, or_false] at hu
  rcases hu with rfl | rfl | rfl <;> rfl
theorem part_info : (Tryd.prog.info? 122).map (fun i => (i.zero, i.size, i.bytes)) = some (some (.agg #[.bool false, .int .u64 0, .string ⟨#[]⟩]), 3, 32) := by kernel_rfl
theorem wpList_append_p (w : World) {ops : Array Oper} {rest : List Oper} {o : Oper} {a : Act} {Q : Exit → Act → World → Prop} (hgd : o.guard = none) (s x : Operand)
    (ho : o.op = .call { callee := .builtin .append, args := #[s, x], argTypes := #[118, 118] })
    (base : Nat) (A : Option Addr) (c : Nat) (l : List Pt) (hs : a.eval s = .slice A l.length c) (hown : OwnP w base A c l)
    (B : Nat) (A2 : Option Addr) (m c2 : Nat) (l2 : List Pt) (hx : a.eval x = .slice A2 m c2) (hm : m = l2.length) (hr : RdP w B A2 l2) (hlen : (l.length + l2.length) * 32 ≤ 140737488355328) (hbase : base ≤ w.heap.size)
    (h : ∀ A' c' L w', L = l ++ l2 → OwnP w' base A' c' L → w.grownBy w' (blk A) → (blk A' = blk A ∨ blk A' = some w.heap.size) → wpList Tryd.prog ops Q rest (a.put o.dst (.slice A' L.length c')) w') : wpList Tryd.prog ops Q (o :: rest) a w :=
  wpList_plain hgd fun K hK => by
    subst hm
    obtain ⟨i, hi, hz0, hz1, hz2⟩ := info_parts part_info
    obtain ⟨v', w', hrun, h2, h3, h4⟩ := run_append_any (P := Tryd.prog) w base 118 o.type 122 i _ 3 32 Tryd.underlying118 hi hz0 hz1 hz2 rfl (by omega) (.slice A l.length c) l.length (pv l) hown B A2 l2.length c2 (pv l2) hr (pv_one l2)
      (by unfold maxLen; omega) hlen hbase
    rw [ownBlock_slice] at h3 h4
    have hv : ∃ A' c', v' = .slice A' (l ++ l2).length c' := by
      rw [List.length_append]
      rcases h2.2 with ⟨hv, hn⟩ | ⟨g, cap, cur, hv, _⟩
      · exact ⟨none, 0, by rw [hv, hn]⟩
      · exact ⟨_, _, hv⟩
    obtain ⟨A', c', rfl⟩ := hv
    rw [ownBlock_slice] at h4
    have h5 : OwnP w' base A' c' (l ++ l2) := by
      unfold OwnP
      rw [pv_append]
      rw [List.length_append] at h2 ⊢
      exact h2
    unfold Oper.wp execOp
    simp only [ho, resolve, invoke, builtin, Sem.run_bind, Sem.run_pure, Result.andThen_ok, List.map_toArray, List.map_cons, List.map_nil, hs, hx, hrun]
    exact hK _ _ (h A' c' _ w' rfl h5 h3 h4)
theorem rdP_one (w : World) (p : Pt) (H : Nat) (hH : w.heap.size = H) : RdP (w.alloc (.cells #[.bool p.t, .int .u64 (p.n : Int), .string p.s] 122)) (w.alloc (.cells #[.bool p.t, .int .u64 (p.n : Int), .string p.s] 122)).heap.size (some ⟨H, 0, none⟩) [p] := by
  subst hH
  refine ⟨by rfl, fun _ => ⟨_, rfl, by simp, fun j u hu => ?_⟩⟩
  have hadd : (⟨w.heap.size, 0, none⟩ : Addr).add j = ⟨w.heap.size, j, none⟩ := by unfold Addr.add; split <;> simp_all
  rw [hadd, cell_of_row _ w.heap.size j _ _ (0, 0) (heap_alloc_new w _)]
  show (pv [p]).toArray[j]? = some u
  simpa using hu
/-- What Parts hands back. -/
def Parted (w : World) (b : List UInt8) (e : Ending) (w' : World) : Prop :=
  Below w.heap.size w w' ∧ ((∃ l, Cod.AllN l ∧ Cod.key l = b ∧ ∃ A c, e = .returned (.tuple #[.slice A l.length c, .int .i64 0]) ∧ RdP w' w'.heap.size A l) ∨
    ((∀ l, Cod.AllN l → Cod.key l ≠ b) ∧ e = .returned (.tuple #[.slice none 0 0, .int .i64 3])))
theorem takenP_out {w w' : World} {B : Nat} {v : Option (Pt × List UInt8)} {e : Ending} (h : TakenP w B v e w') : Below w.heap.size w w' ∧ ((v = none ∧ e = .returned (.tuple #[PtV ⟨false, 0, .empty⟩, .slice none 0 0, .int .i64 3])) ∨
    ∃ p y, v = some (p, y) ∧ ∃ A c, e = .returned (.tuple #[PtV p, .slice A y.length c, .int .i64 0]) ∧ y.length ≤ c ∧ c ≤ 9223372036854775807 ∧ RdB w' B A y) := by
  obtain ⟨hb, h⟩ := h
  cases v with
  | none => exact ⟨hb, .inl ⟨rfl, h⟩⟩
  | some v => exact ⟨hb, .inr ⟨v.1, v.2, rfl, h⟩⟩
end Go.Proofs.YtgafionfojnieaaDoor

namespace Go.Proofs.YtgafionfojnieaaDoor
open Go.RowKit

/-- What the reference knows at place k: if the bytes are a key at all, then of 'out' and of parts whose key stands from k on. -/
def Knows (b : List UInt8) (out : List Pt) (k : Nat) : Prop := Cod.AllN out ∧ (∀ p ∈ out, p.s.size ≤ b.length) ∧ ∀ l, Cod.AllN l → Cod.key l = b → ∃ l', l = out ++ l' ∧ Cod.AllN l' ∧ Cod.key l' = b.drop k
/-- .. within a text that began behind place k. -/
def KnowsT (b : List UInt8) (k : Nat) (S : List UInt8) (i : Nat) : Prop := ∀ s y, b.drop (k + 1) = Esc.esc 0 [0, 255] s ++ [0, 0] ++ y → ∃ s1, s = S ++ s1 ∧ b.drop i = Esc.esc 0 [0, 255] s1 ++ [0, 0] ++ y
theorem knowsT_start (b : List UInt8) (k : Nat) : KnowsT b k [] (k + 1) := fun s _ h => ⟨s, rfl, h⟩
theorem knowsT_step {b : List UInt8} {k : Nat} {S : List UInt8} {i : Nat} (h : KnowsT b k S i) (hi : i + 1 < b.length) (hn : ¬ (b[i]'(by omega) = 0 ∧ b[i + 1] = 0)) :
    KnowsT b k (S ++ [b[i]'(by omega)]) (if b[i]'(by omega) = 0 then i + 2 else i + 1) := by
  intro s y he
  obtain ⟨s1, e1, e2⟩ := h s y he
  rw [List.drop_eq_getElem_cons (by omega), List.drop_eq_getElem_cons hi] at e2
  obtain ⟨s2, e3, e4⟩ := (Cod.esc_step e2.symm).2 hn
  refine ⟨s2, by rw [e1, e3]; simp, ?_⟩
  by_cases h0 : b[i]'(by omega) = 0
  · rw [if_pos h0] at e4 ⊢; exact e4
  · rw [if_neg h0] at e4 ⊢
    rw [List.drop_eq_getElem_cons hi]; exact e4
theorem knowsT_end {b : List UInt8} {k : Nat} {S : List UInt8} {i : Nat} (h : KnowsT b k S i) (hx : b.length ≤ i + 1 ∨ ∃ h : i + 1 < b.length, b[i]'(by omega) = 0 ∧ b[i + 1] = 0) :
    ∀ s y, b.drop (k + 1) = Esc.esc 0 [0, 255] s ++ [0, 0] ++ y → s = S ∧ y = b.drop (i + 2) := by
  intro s y he
  obtain ⟨s1, e1, e2⟩ := h s y he
  rcases hx with hx | ⟨hi, h0⟩
  · have := Cod.esc_two s1 y
    rw [← e2, List.length_drop] at this
    omega
  · rw [List.drop_eq_getElem_cons (by omega), List.drop_eq_getElem_cons hi] at e2
    obtain ⟨e3, e4⟩ := (Cod.esc_step e2.symm).1 h0
    exact ⟨by rw [e1, e3]; simp, e4⟩
theorem key_text {l : List Pt} {r : List UInt8} (hl : Cod.AllN l) (h : Cod.key l = 32 :: r) : ∃ s l', l = ⟨true, 0, ⟨s.toArray⟩⟩ :: l' ∧ Cod.AllN l' ∧ r = Esc.esc 0 [0, 255] s ++ [0, 0] ++ Cod.key l' := by
  obtain ⟨p, y, l', e1, rfl, e3⟩ := Cod.key_one hl h
  have hl' : Cod.AllN l' := fun q hq => hl q (List.mem_cons_of_mem _ hq)
  rw [Cod.one, if_pos rfl] at e1
  cases ht : Cod.txt r with
  | none => rw [ht] at e1; cases e1
  | some v =>
    rw [ht] at e1
    injection e1 with e1
    injection e1 with e4 e5
    have := Cod.txt_dec r.length r v.1 v.2 (Nat.le_refl _) ht
    refine ⟨v.1, l', by rw [← e4], hl', ?_⟩
    rw [e3, ← e5]; exact this
theorem knows_text {b : List UInt8} {out : List Pt} {k i : Nat} {S : List UInt8} (h : Knows b out k) (hk : k < b.length) (ht : b[k] = 32) (hS : S.length ≤ b.length)
    (he : ∀ s y, b.drop (k + 1) = Esc.esc 0 [0, 255] s ++ [0, 0] ++ y → s = S ∧ y = b.drop (i + 2)) : Knows b (out ++ [⟨true, 0, ⟨S.toArray⟩⟩]) (i + 2) := by
  obtain ⟨h1, h2, h3⟩ := h
  refine ⟨fun q hq => ?_, fun q hq => ?_, fun l hl hb => ?_⟩
  · rw [List.mem_append] at hq
    rcases hq with hq | hq
    · exact h1 q hq
    · simp at hq; subst hq
      exact ⟨by show 0 < 18446744073709551616; omega, fun _ => rfl, fun h => by cases h⟩
  · rw [List.mem_append] at hq
    rcases hq with hq | hq
    · exact h2 q hq
    · simp at hq; subst hq
      show S.toArray.size ≤ _
      simpa using hS
  · obtain ⟨l', e1, e2, e3⟩ := h3 l hl hb
    rw [List.drop_eq_getElem_cons hk, ht] at e3
    obtain ⟨s, l'', e4, e5, e6⟩ := key_text e2 e3
    obtain ⟨e7, e8⟩ := he s (Cod.key l'') e6
    subst e7
    exact ⟨l'', by rw [e1, e4]; simp, e5, e8⟩
theorem key_num {l : List Pt} {t : UInt8} {r : List UInt8} (hl : Cod.AllN l) (ht : t ≠ 32) (h : Cod.key l = t :: r) : ∃ l', l = ⟨false, Cod.val 0 (r.take (t.toNat - 16)), .empty⟩ :: l' ∧ Cod.AllN l' ∧ Cod.key l' = r.drop (t.toNat - 16) ∧ t.toNat - 16 ≤ 8 ∧ t.toNat - 16 ≤ r.length := by
  obtain ⟨p, y, l', e1, rfl, e3⟩ := Cod.key_one hl h
  have hl' : Cod.AllN l' := fun q hq => hl q (List.mem_cons_of_mem _ hq)
  rw [Cod.one, if_neg ht, Cod.num] at e1
  split at e1
  · cases e1
  · rename_i hc
    injection e1 with e1
    injection e1 with e4 e5
    refine ⟨l', by rw [← e4], hl', by rw [e3, ← e5], by omega, by omega⟩
theorem knows_num {b : List UInt8} {out : List Pt} {k j n : Nat} (h : Knows b out k) (hk : k < b.length) (ht : b[k] ≠ 32) (hj1 : 1 ≤ j) (hj2 : j ≤ b[k].toNat - 16 + 1) (hj3 : j ≤ 9)
    (hn : n = Cod.val 0 ((b.drop (k + 1)).take (j - 1))) (hx : ¬ (j ≤ b[k].toNat - 16 ∧ j ≤ 8 ∧ k + j < b.length)) : Knows b (out ++ [⟨false, n, .empty⟩]) (k + 1 + (b[k].toNat - 16)) := by
  obtain ⟨h1, h2, h3⟩ := h
  refine ⟨fun q hq => ?_, fun q hq => ?_, fun l hl hb => ?_⟩
  · rw [List.mem_append] at hq
    rcases hq with hq | hq
    · exact h1 q hq
    · simp at hq; subst hq
      refine ⟨?_, (fun h => by cases h), fun _ => rfl⟩
      show n < _
      rw [hn]
      exact Cod.val_8 (by rw [List.length_take]; omega)
  · rw [List.mem_append] at hq
    rcases hq with hq | hq
    · exact h2 q hq
    · simp at hq; subst hq
      show ByteArray.empty.size ≤ _
      exact Nat.zero_le _
  · obtain ⟨l', e1, e2, e3⟩ := h3 l hl hb
    rw [List.drop_eq_getElem_cons hk] at e3
    obtain ⟨l'', e4, e5, e6, e7, e8⟩ := key_num e2 ht e3
    rw [List.length_drop] at e8
    have hjj : j - 1 = b[k].toNat - 16 := by omega
    refine ⟨l'', ?_, e5, by rw [e6, List.drop_drop]⟩
    rw [e1, e4, hn, hjj]
    simp
theorem knows_start (b : List UInt8) : Knows b [] 0 := ⟨(fun p hp => by simp at hp), (fun p hp => by simp at hp), fun l hl h => ⟨l, rfl, hl, h⟩⟩
theorem knows_end {b : List UInt8} {out : List Pt} {k : Nat} (h : Knows b out k) (hk : b.length ≤ k) (hn : Cod.key out ≠ b) : ∀ l, Cod.AllN l → Cod.key l ≠ b := by
  intro l hl e
  obtain ⟨l', e1, _, e3⟩ := h.2.2 l hl e
  rw [List.drop_eq_nil_of_le hk] at e3
  rw [Cod.key_nil e3, List.append_nil] at e1
  rw [e1] at e
  exact hn e
end Go.Proofs.YtgafionfojnieaaDoor
