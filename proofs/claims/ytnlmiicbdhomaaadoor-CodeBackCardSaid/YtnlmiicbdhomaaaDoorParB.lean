/- The contract of the program's text. -/
import Derived.Test.YtnlmiicbdhomaaaDoorParA
import Derived.Test.YtnlmiicbdhomaaaDoorLibB
namespace Go.Proofs.YtnlmiicbdhomaaaDoor
open Go.RowKit

theorem txt_app (x : List UInt8) : ∀ l, x.count 0 = 0 → Cod.txt (x ++ l) = (Cod.txt l).map (fun v => (x ++ v.1, v.2)) := by
  induction x with
  | nil => intro l _; simp
  | cons c x ih =>
    intro l h
    have hc : c ≠ 0 := by intro e; subst e; simp at h
    have hx : x.count 0 = 0 := by rw [List.count_cons] at h; omega
    rw [List.cons_append, Cod.txt_byte hc, ih l hx]
    cases Cod.txt l <;> rfl
theorem txt_nil : Cod.txt [] = none := by rw [Cod.txt]
theorem txt_free {l : List UInt8} (h : l.count 0 = 0) : Cod.txt l = none := by
  have := txt_app l [] h
  rw [List.append_nil, txt_nil] at this
  exact this
theorem heap_set3 {w : World} {g : Nat} {x y z a b c : Value} {T : TypeId} (h : w.heap[g]? = some (.cells #[x, y, z] T)) : (((w.setCell ⟨g, 0, none⟩ a).setCell ⟨g, 1, none⟩ b).setCell ⟨g, 2, none⟩ c).heap[g]? = some (.cells #[a, b, c] T) := by
  have h1 := heap_setCell_same w g 0 _ T a h
  have h2 := heap_setCell_same _ g 1 _ T b h1
  have h3 := heap_setCell_same _ g 2 _ T c h2
  simpa using h3
theorem rdB_over {w1 wr w4 : World} {B D : Nat} {A : Option Addr} {l : List UInt8} (h : RdB wr B A l) (hb : Below D w1 wr) (hb4 : Below D w1 w4) (hBD : B ≤ D) : RdB w4 B A l :=
  Reads.keep h fun p hp => (hb4.cell (by omega)).trans (hb.cell (by omega)).symm
theorem rdB_sets {w4 : World} {B G : Nat} {a b c : Value} {A : Option Addr} {l : List UInt8} (h : RdB w4 B A l) (hz : B ≤ G) : RdB (((w4.setCell ⟨G, 0, none⟩ a).setCell ⟨G, 1, none⟩ b).setCell ⟨G, 2, none⟩ c) B A l :=
  Reads.setCell (Reads.setCell (Reads.setCell h hz a) hz b) hz c
theorem slice_len {A : Option Addr} {n m c : Nat} (h : n = m) : Value.slice A n c = .slice A m c := by rw [h]
def txtP (v : Option (List UInt8 × List UInt8)) : Option (Pt × List UInt8) := v.map (fun v => (⟨true, 0, ⟨v.1.toArray⟩⟩, v.2))

set_option maxHeartbeats 1000000 in
set_option maxRecDepth 100000 in
theorem txt_any (t : Value) (A : Option Addr) (c : Nat) (b : List UInt8) (w : World) (B : Nat) (hB : B ≤ w.heap.size) (h : RdB w B A b) (hl : b.length ≤ 70368744177664) (hc : b.length ≤ c) (hcc : c ≤ 9223372036854775807) :
    Calls Tryd.prog 35 #[t, .slice A b.length c] w (TakenP w B (txtP (Cod.txt b))) := by
  go_enter Tryd.func35, Tryd.ntmps35
  go_wp2
  have hal : Below w.heap.size w (w.alloc (.cells #[.bool false, .int .u64 0, .string ⟨#[]⟩] 41)) := (Below.refl _ _).alloc (Nat.le_refl _) _
  have hnew := heap_alloc_new w (.cells #[.bool false, .int .u64 0, .string ⟨#[]⟩] 41)
  have hr0 := RdB.alloc h hB (.cells #[.bool false, .int .u64 0, .string ⟨#[]⟩] 41)
  have hsz : (w.alloc (.cells #[.bool false, .int .u64 0, .string ⟨#[]⟩] 41)).heap.size = w.heap.size + 1 := by simp
  obtain ⟨w1, hw1⟩ : ∃ w1, w1 = w.alloc (.cells #[.bool false, .int .u64 0, .string ⟨#[]⟩] 41) := ⟨_, rfl⟩
  rw [← hw1] at hal hnew hr0 hsz ⊢
  have HW1 := Lib.hid hw1; clear hw1
  go_loopw [1, 7, 8, 9] (fun v u _ _ wr => ∃ (A1 : Option Addr) (c1 : Nat) (L1 : List UInt8) (A2 : Option Addr) (c2 : Nat) (S : List UInt8), v = .slice A1 L1.length c1 ∧ u = .slice A2 S.length c2 ∧
    RdB wr B A1 L1 ∧ Own wr w1.heap.size 5 A2 c2 S ∧ Below w1.heap.size w1 wr ∧ L1.length ≤ c1 ∧ c1 ≤ 9223372036854775807 ∧ S.length + L1.length ≤ b.length ∧ Hid (Cod.txt b = (Cod.txt L1).map (fun v => (S ++ v.1, v.2)))) (fun v _ _ _ _ => (match v with | .slice _ n _ => n | _ => 0))
  case atStart => exact ⟨A, c, b, none, 0, [], rfl, rfl, hr0, Own.nil _ _ _, Below.refl _ _, hc, hcc, by simp, Lib.hid (by cases Cod.txt b <;> simp)⟩
  case round =>
    clear hr0 h hc hcc
    obtain ⟨A1, c1, L1, A2, c2, S, rfl, rfl, h1, ho, hb, hc1, hcc1, hlen, HT⟩ := hrel
    have hcw : wr.heap[w.heap.size]? = some (.cells #[.bool false, .int .u64 0, .string ⟨#[]⟩] 41) := (hb.block _ (by omega)).trans hnew
    have q0 := cell_of_row wr w.heap.size 0 _ _ (0, 0) hcw
    have q1 := cell_of_row wr w.heap.size 1 _ _ (0, 0) hcw
    have q2 := cell_of_row wr w.heap.size 2 _ _ (0, 0) hcw
    have f0 := frozen_of_row wr w.heap.size 0 _ _ hcw
    have f1 := frozen_of_row wr w.heap.size 1 _ _ hcw
    have f2 := frozen_of_row wr w.heap.size 2 _ _ hcw
    have hbw : Below w.heap.size w wr := hal.trans (hb.mono (by omega))
    have HBW := Lib.hid hbw
    have HCW := Lib.hid hcw
    clear hbw hcw
    by_cases h0 : L1.count 0 = 0
    · have e := HT.out
      rw [txt_free h0] at e
      have HE := Lib.hid e; clear e
      have C := indexByte_any B A1 c1 L1 0 wr h1
      rw [Esc.index_none 0 L1 h0] at C
      have HC := Lib.hid C; clear C h0
      go_wp2_with fail
      refine HC.out.mono ?_
      rintro e w2 ⟨rfl, rfl⟩
      go_wp2_with fail
      refine bodyPost_ret (results_c3 rfl _ _ w.heap.size 41 #[.bool false, .int .u64 0, .string ⟨#[]⟩] _ _ rfl (heap_set3 HCW.out) Tryd.underlying41 rfl part_size) rfl ?_
      exact takenP_none (by rw [HE.out]; rfl) (((HBW.out.setCell (Nat.le_refl _) _).setCell (Nat.le_refl _) _).setCell (Nat.le_refl _) _)
    · obtain ⟨x, y, hL, hx0, hi⟩ := Esc.index_split 0 L1 (by omega)
      obtain ⟨g, off, rfl, hab, hcell0⟩ := h1.at_ (k := 0) (by rw [hL]; simp; omega)
      clear hcell0
      have hab2 : g < w.heap.size := by omega
      have C := indexByte_any B (some ⟨g, off, none⟩) c1 L1 0 wr h1
      rw [hi] at C
      obtain ⟨N, hN⟩ : ∃ N, N = L1.length := ⟨_, rfl⟩
      obtain ⟨X, hX⟩ : ∃ X, X = x.length := ⟨_, rfl⟩
      rw [← hN] at C hlen hc1 ⊢
      rw [← hX] at C
      have HC := Lib.hid C; clear C h0 hi
      cases y with
      | nil =>
        have e := HT.out
        rw [hL, txt_app x [0] hx0, Cod.txt_one] at e
        have HE := Lib.hid e; clear e
        have hNX : (N : Int) = (X : Int) + 1 := by rw [hN, hX, hL]; simp
        clear hN hX hL h1
        go_wp2_with fail
        refine HC.out.mono ?_
        rintro e w2 ⟨rfl, rfl⟩
        go_wp2_with fail
        refine bodyPost_ret (results_c3 rfl _ _ w.heap.size 41 #[.bool false, .int .u64 0, .string ⟨#[]⟩] _ _ rfl (heap_set3 HCW.out) Tryd.underlying41 rfl part_size) rfl ?_
        exact takenP_none (by rw [HE.out]; rfl) (((HBW.out.setCell (Nat.le_refl _) _).setCell (Nat.le_refl _) _).setCell (Nat.le_refl _) _)
      | cons d r =>
        have hNX : N = X + 2 + r.length := by rw [hN, hX, hL]; simp; omega
        obtain ⟨g', off', e0, _, hcell⟩ := h1.at_ (k := X + 1) (by omega)
        injection e0 with e0
        injection e0 with e1 e2
        subst e1 e2
        have hd : L1[X + 1]'(by omega) = d := by
          have : L1[X + 1]? = some d := by rw [hL, List.getElem?_append_right (by omega)]; simp [hX]
          rw [List.getElem?_eq_getElem (by omega)] at this
          injection this
        rw [hd] at hcell
        have htk : RdB wr B (some ⟨g, off, none⟩) x := by
          have q := h1.take (k := X) (by omega)
          rw [hL, List.take_left' hX.symm] at q
          exact q
        have hdr := h1.cut (k := X + 2) (c := c1) (by omega) (by omega)
        have hdr2 : L1.drop (X + 2) = r := by rw [hL, hX]; simp
        rw [hdr2] at hdr
        have HTK := Lib.hid htk
        have HDR := Lib.hid hdr
        have HX := Lib.hid hX
        have e := HT.out
        rw [hL, txt_app x _ hx0] at e
        have hne : S.length + X + 2 + r.length ≤ b.length := by omega
        have hN1 : X + 1 < N := by omega
        have hN2 : ((X : Int) + 1 == (N : Int)) = false := by simp; omega
        have HNX := Lib.hid hNX
        clear htk hdr hdr2 hd hN hX hL h1 HT hNX
        by_cases hd0 : d = 0
        · subst hd0
          rw [Cod.txt_end] at e
          have HE := Lib.hid e; clear e
          have hcell : wr.cell? ⟨g, off + (X + 1), none⟩ = some (.int .u8 0) := hcell
          go_wp2_with fail
          refine HC.out.mono ?_
          rintro e w2 ⟨rfl, rfl⟩
          go_wp2_with (at_builtin; refine wpList_append_b _ rfl (.tmp 22) (.tmp 25) bt rfl w1.heap.size A2 c2 S rfl ho _ (some ⟨g, off, none⟩) X c1 x rfl HX.out HTK.out (by have := HX.out; omega) hb.size ?_; intro A4 c4 L4 w4 hL4 ho4 hg4 hat4; have HL4 := Lib.hid hL4; clear hL4 hat4; have hb4 : Below w1.heap.size w1 w4 := below_grow hb hg4 (fun g hg => (ho.blk_ge g hg).1) hb.size; have hcell4 := (hb4.cell (p := ⟨g, off + (X + 1), none⟩) (by show g < w1.heap.size; omega)).trans ((hb.cell (p := ⟨g, off + (X + 1), none⟩) (by show g < w1.heap.size; omega)).symm.trans hcell); have hcw4 : w4.heap[w.heap.size]? = some (.cells #[.bool false, .int .u64 0, .string ⟨#[]⟩] 41) := (hb4.block _ (by omega)).trans hnew; have r0 := cell_of_row w4 w.heap.size 0 _ _ (0, 0) hcw4; have r1 := cell_of_row w4 w.heap.size 1 _ _ (0, 0) hcw4; have r2 := cell_of_row w4 w.heap.size 2 _ _ (0, 0) hcw4; have k0 := frozen_of_row w4 w.heap.size 0 _ _ hcw4; have k1 := frozen_of_row w4 w.heap.size 1 _ _ hcw4; have k2 := frozen_of_row w4 w.heap.size 2 _ _ hcw4; have HB4 := Lib.hid hb4; have HCW4 := Lib.hid hcw4; have hstr := run_string_b w4 bt Tryd.underlying9 _ A4 L4.length c4 L4 rfl ho4.rd; have hz4 := hb4.size; clear hg4 hcw4 q0 q1 q2 f0 f1 f2 hcell)
          all_goals refine bodyPost_ret (results_c3 rfl _ _ w.heap.size 41 #[.bool true, .int .u64 0, .string ⟨L4.toArray⟩] _ _ rfl (heap_set3 HCW4.out) Tryd.underlying41 rfl part_size) rfl ?_
          all_goals exact takenP_some (p := ⟨true, 0, ⟨(S ++ (x ++ [])).toArray⟩⟩) (y := r) (q := ⟨true, 0, ⟨L4.toArray⟩⟩) (by rw [HE.out]; rfl) ((((hal.trans (HB4.out.mono (by omega))).setCell (Nat.le_refl _) _).setCell (Nat.le_refl _) _).setCell (Nat.le_refl _) _) (by rw [HL4.out]; simp) (by have := HNX.out; omega) (by have := HNX.out; omega) (by omega) (by
            refine rdB_sets ?_ (by omega)
            have q := rdB_over HDR.out hb HB4.out (by omega)
            first
              | exact q
              | (rw [if_pos (by assumption)] at q; exact q)
              | (rw [if_neg (by assumption)] at q; exact q))
        · have hd1 : d.toNat ≠ 0 := fun e => hd0 (UInt8.toNat_inj.1 (by rw [e]; rfl))
          by_cases hd5 : d = 255
          · subst hd5
            rw [Cod.txt_esc] at e
            have HE := Lib.hid e; clear e
            have hcell : wr.cell? ⟨g, off + (X + 1), none⟩ = some (.int .u8 255) := hcell
            go_wp2_with fail
            refine HC.out.mono ?_
            rintro e w2 ⟨rfl, rfl⟩
            go_wp2_with (first
              | (at_builtin; refine wpList_append_b _ rfl (.tmp 22) (.tmp 25) bt rfl w1.heap.size A2 c2 S rfl ho _ (some ⟨g, off, none⟩) X c1 x rfl HX.out HTK.out (by have := HX.out; omega) hb.size ?_; intro A4 c4 L4 w4 hL4 ho4 hg4 hat4; have HL4 := Lib.hid hL4; clear hL4 hat4; have hb4 : Below w1.heap.size w1 w4 := below_grow hb hg4 (fun g hg => (ho.blk_ge g hg).1) hb.size; have hcell4 := (hb4.cell (p := ⟨g, off + (X + 1), none⟩) (by show g < w1.heap.size; omega)).trans ((hb.cell (p := ⟨g, off + (X + 1), none⟩) (by show g < w1.heap.size; omega)).symm.trans hcell); have hcw4 : w4.heap[w.heap.size]? = some (.cells #[.bool false, .int .u64 0, .string ⟨#[]⟩] 41) := (hb4.block _ (by omega)).trans hnew; have r0 := cell_of_row w4 w.heap.size 0 _ _ (0, 0) hcw4; have r1 := cell_of_row w4 w.heap.size 1 _ _ (0, 0) hcw4; have r2 := cell_of_row w4 w.heap.size 2 _ _ (0, 0) hcw4; have k0 := frozen_of_row w4 w.heap.size 0 _ _ hcw4; have k1 := frozen_of_row w4 w.heap.size 1 _ _ hcw4; have k2 := frozen_of_row w4 w.heap.size 2 _ _ hcw4; have HB4 := Lib.hid hb4; have HCW4 := Lib.hid hcw4; have hstr := run_string_b w4 bt Tryd.underlying9 _ A4 L4.length c4 L4 rfl ho4.rd; have hz4 := hb4.size; clear hg4 hcw4 q0 q1 q2 f0 f1 f2 hcell)
              | (at_builtin; refine wpList_append_b _ rfl (.tmp 46) (.tmp 47) bt rfl w1.heap.size A4 c4 L4 rfl (ho4.alloc _) _ (some ⟨w4.heap.size, 0, none⟩) 1 1 [0] rfl rfl (rdB_one (x := 0) (by simp) rfl (by simp)) (by rw [HL4.out]; simp; have := HX.out; omega) (by simp; omega) ?_; intro A5 c5 L5 w5 hL5 ho5 hg5 hat5; have HL5 := Lib.hid hL5; clear hL5 hat5; have hb5 : Below w1.heap.size w1 w5 := below_grow (HB4.out.alloc hz4 _) hg5 (fun g hg => (ho4.blk_ge g hg).1) (by simp; omega)))
            go_roundw
            case rel =>
              refine ⟨_, _, r, A5, c5, L5, slice_len (by have := HNX.out; omega), rfl, ?_, ho5, hb5, by have := HNX.out; omega, by omega, by have := HNX.out; have := HX.out; have := congrArg List.length HL5.out; have := congrArg List.length HL4.out; simp at *; omega, Lib.hid ?_⟩
              · have q := rdB_over HDR.out hb hb5 (by omega)
                first
                  | exact q
                  | (rw [if_pos (by assumption)] at q; exact q)
                  | (rw [if_neg (by assumption)] at q; exact q)
              · rw [HE.out, HL5.out, HL4.out]
                cases Cod.txt r <;> simp
            case measure => have := HNX.out; simp; omega
          · rw [Cod.txt_bad hd0 hd5 r] at e
            have HE := Lib.hid e; clear e
            have hd2 : d.toNat ≠ 255 := fun e => hd5 (UInt8.toNat_inj.1 (by rw [e]; rfl))
            obtain ⟨v, hv⟩ : ∃ v, v = d.toNat := ⟨_, rfl⟩
            rw [← hv] at hcell hd1 hd2
            have hd3 : ((v : Int) == 0) = false := by simp; omega
            have hd4 : ((v : Int) == 255) = false := by simp; omega
            clear hv hd0 hd5 hd1 hd2
            go_wp2_with fail
            refine HC.out.mono ?_
            rintro e w2 ⟨rfl, rfl⟩
            go_wp2_with (at_builtin; refine wpList_append_b _ rfl (.tmp 22) (.tmp 25) bt rfl w1.heap.size A2 c2 S rfl ho _ (some ⟨g, off, none⟩) X c1 x rfl HX.out HTK.out (by have := HX.out; omega) hb.size ?_; intro A4 c4 L4 w4 hL4 ho4 hg4 hat4; have HL4 := Lib.hid hL4; clear hL4 hat4; have hb4 : Below w1.heap.size w1 w4 := below_grow hb hg4 (fun g hg => (ho.blk_ge g hg).1) hb.size; have hcell4 := (hb4.cell (p := ⟨g, off + (X + 1), none⟩) (by show g < w1.heap.size; omega)).trans ((hb.cell (p := ⟨g, off + (X + 1), none⟩) (by show g < w1.heap.size; omega)).symm.trans hcell); have hcw4 : w4.heap[w.heap.size]? = some (.cells #[.bool false, .int .u64 0, .string ⟨#[]⟩] 41) := (hb4.block _ (by omega)).trans hnew; have r0 := cell_of_row w4 w.heap.size 0 _ _ (0, 0) hcw4; have r1 := cell_of_row w4 w.heap.size 1 _ _ (0, 0) hcw4; have r2 := cell_of_row w4 w.heap.size 2 _ _ (0, 0) hcw4; have k0 := frozen_of_row w4 w.heap.size 0 _ _ hcw4; have k1 := frozen_of_row w4 w.heap.size 1 _ _ hcw4; have k2 := frozen_of_row w4 w.heap.size 2 _ _ hcw4; have HB4 := Lib.hid hb4; have HCW4 := Lib.hid hcw4; have hstr := run_string_b w4 bt Tryd.underlying9 _ A4 L4.length c4 L4 rfl ho4.rd; have hz4 := hb4.size; clear hg4 hcw4 q0 q1 q2 f0 f1 f2 hcell)
            all_goals refine bodyPost_ret (results_c3 rfl _ _ w.heap.size 41 #[.bool false, .int .u64 0, .string ⟨#[]⟩] _ _ rfl (heap_set3 HCW4.out) Tryd.underlying41 rfl part_size) rfl ?_
            all_goals exact takenP_none (by rw [HE.out]; rfl) ((((hal.trans (HB4.out.mono (by omega))).setCell (Nat.le_refl _) _).setCell (Nat.le_refl _) _).setCell (Nat.le_refl _) _)
end Go.Proofs.YtnlmiicbdhomaaaDoor
