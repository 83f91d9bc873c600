/- Parts of the proof, one behind the other: The contract of the program's Parts. -/
import Derived.Test.YtgafionfojnieaaDoorMrg30
import Derived.Deep.RegionHeld
namespace Go.Proofs.YtgafionfojnieaaDoor
open Go.RowKit

theorem takenP_n {w w' : World} {B : Nat} {v : Option (Pt × List UInt8)} {e : Ending} (h : TakenP w B v e w') (hv : v = none) : Below w.heap.size w w' ∧ e = .returned (.tuple #[.agg #[.bool false, .int .u64 0, .string ⟨#[]⟩], .slice none 0 0, .int .i64 3]) := by
  subst hv; exact h
theorem takenP_s {w w' : World} {B : Nat} {v : Option (Pt × List UInt8)} {e : Ending} {p : Pt} {y : List UInt8} (h : TakenP w B v e w') (hv : v = some (p, y)) : Below w.heap.size w w' ∧ ∃ A c, e = .returned (.tuple #[.agg #[.bool p.t, .int .u64 (p.n : Int), .string p.s], .slice A y.length c, .int .i64 0]) ∧ y.length ≤ c ∧ c ≤ 9223372036854775807 ∧ RdB w' B A y := by
  subst hv; exact h
theorem parted_ok {w w' : World} {b : List UInt8} {l : List Pt} {A : Option Addr} {c : Nat} (hb : Below w.heap.size w w') (hl : Cod.AllN l) (hk : Cod.key l = b) (hr : RdP w' w'.heap.size A l) : Parted w b (.returned (.tuple #[.slice A l.length c, .int .i64 0])) w' :=
  ⟨hb, .inl ⟨l, hl, hk, A, c, rfl, hr⟩⟩
theorem parted_no {w w' : World} {b : List UInt8} {out : List Pt} {t : UInt8} {r : List UInt8} (hb : Below w.heap.size w w') (ho : Cod.AllN out) (hk : b = Cod.key out ++ t :: r) (hn : Cod.one (t :: r) = none) : Parted w b (.returned (.tuple #[.slice none 0 0, .int .i64 3])) w' := by
  refine ⟨hb, .inr ⟨fun l hl e => ?_, rfl⟩⟩
  rw [hk] at e
  obtain ⟨l', _, e2, e3⟩ := Cod.key_split out l (t :: r) ho hl e
  obtain ⟨p, y, l'', e4, _⟩ := Cod.key_one e3 e2
  rw [hn] at e4; cases e4
theorem parts_step {b : List UInt8} {out : List Pt} {t : UInt8} {r y : List UInt8} {p : Pt} (hk : b = Cod.key out ++ t :: r) (ho : Cod.AllN out) (hn : Cod.one (t :: r) = some (p, y)) : b = Cod.key (out ++ [p]) ++ y ∧ Cod.AllN (out ++ [p]) := by
  obtain ⟨e1, e2⟩ := Cod.one_dec hn
  refine ⟨?_, fun q hq => ?_⟩
  · rw [hk, e1, Cod.key_append]
    simp [Cod.key]
  · rw [List.mem_append] at hq
    rcases hq with hq | hq
    · exact ho q hq
    · simp at hq; subst hq; exact e2
theorem one_short {t : UInt8} {r y : List UInt8} {p : Pt} (hn : Cod.one (t :: r) = some (p, y)) : y.length < (t :: r).length := by
  obtain ⟨e1, _⟩ := Cod.one_dec hn
  rw [e1, List.length_append]
  have h2 : 0 < (Cod.partKey p).length := List.length_pos_iff.2 (Cod.partKey_ne p)
  omega
theorem cell_over {w w1 w2 : World} {D g off : Nat} {v : Value} (h1 : Below D w w1) (h2 : Below D w w2) (hg : g < D) (h : w1.cell? ⟨g, off, none⟩ = some v) : w2.cell? ⟨g, off, none⟩ = some v :=
  (h2.cell (p := ⟨g, off, none⟩) hg).trans ((h1.cell (p := ⟨g, off, none⟩) hg).symm.trans h)
theorem below_sets {w w4 : World} {B G : Nat} {a b c : Value} (h : Below B w w4) (hz : B ≤ G) : Below B w (((w4.setCell ⟨G, 0, none⟩ a).setCell ⟨G, 1, none⟩ b).setCell ⟨G, 2, none⟩ c) :=
  ((h.setCell hz _).setCell hz _).setCell hz _
theorem cell_sets {w4 : World} {B G g off : Nat} {v a b c : Value} (h : w4.cell? ⟨g, off, none⟩ = some v) (hg : g < B) (hz : B ≤ G) : (((w4.setCell ⟨G, 0, none⟩ a).setCell ⟨G, 1, none⟩ b).setCell ⟨G, 2, none⟩ c).cell? ⟨g, off, none⟩ = some v := by
  rw [World.cell?_setCell_other _ _ _ _ (fun e => by injection e; omega), World.cell?_setCell_other _ _ _ _ (fun e => by injection e; omega), World.cell?_setCell_other _ _ _ _ (fun e => by injection e; omega)]
  exact h
theorem ownP_drew {w1 : World} {B : Nat} {A : Option Addr} {c : Nat} {l : List Pt} (h : OwnP w1 B A c l) : OwnP w1.drew B A c l := h
theorem ownP_sets {w3 : World} {B G : Nat} {A : Option Addr} {c : Nat} {l : List Pt} {x y z : Value} (h : OwnP w3 B A c l) (hne : blk A ≠ some G) : OwnP (((w3.setCell ⟨G, 0, none⟩ x).setCell ⟨G, 1, none⟩ y).setCell ⟨G, 2, none⟩ z) B A c l := by
  have hn : (Value.slice A l.length c).ownBlock ≠ some G := by rw [ownBlock_slice]; exact hne
  exact ownsRow_setCell_other (ownsRow_setCell_other (ownsRow_setCell_other h hn x) hn y) hn z
theorem ownP_over {w1 w2 w3 : World} {B : Nat} {A : Option Addr} {c : Nat} {l : List Pt} (h : OwnP w1 B A c l) (he : w2.heap = w1.heap) (hb : Below w2.heap.size w2 w3) : OwnP w3 B A c l := by
  have h2 : OwnP w2 B A c l := by
    unfold OwnP World.ownsRow at h ⊢
    rw [he]; exact h
  exact h2.below hb
theorem parts_len {out : List Pt} {b r : List UInt8} (hk : b = Cod.key out ++ r) : out.length + r.length ≤ b.length := by
  have h : ∀ l : List Pt, l.length ≤ (Cod.key l).length := by
    intro l
    induction l with
    | nil => simp
    | cons p l ih =>
      rw [Cod.key_cons, List.length_append, List.length_cons]
      have := Cod.partKey_ne p
      have h2 : 0 < (Cod.partKey p).length := List.length_pos_iff.2 this
      omega
  rw [hk, List.length_append]
  have := h out
  omega

set_option maxHeartbeats 16000000 in
set_option maxRecDepth 100000 in
theorem parts_any (A : Option Addr) (c : Nat) (b : List UInt8) (w : World) (h : RdB w w.heap.size A b) (hl : b.length ≤ 1000000) (hc : b.length ≤ c) (hcc : c ≤ 9223372036854775807) :
    Calls Tryd.prog 65 #[.slice A b.length c] w (Parted w b) := by
  go_enter Tryd.func65, Tryd.ntmps65
  go_wp2
  go_loopw [0, 4, 5, 6, 7, 8] (fun v u _ _ _ _ wr => ∃ (A1 : Option Addr) (c1 : Nat) (L1 : List UInt8) (A2 : Option Addr) (c2 : Nat) (out : List Pt), v = .slice A1 L1.length c1 ∧ u = .slice A2 out.length c2 ∧
    RdB wr w.heap.size A1 L1 ∧ OwnP wr w.heap.size A2 c2 out ∧ Below w.heap.size w wr ∧ L1.length ≤ c1 ∧ c1 ≤ 9223372036854775807 ∧ Hid (b = Cod.key out ++ L1 ∧ Cod.AllN out)) (fun v _ _ _ _ _ _ => (match v with | .slice _ n _ => n | _ => 0))
  case atStart => exact ⟨A, c, b, none, 0, [], rfl, rfl, h, OwnP.nil _ _, Below.refl _ _, hc, hcc, Lib.hid ⟨rfl, fun p hp => by simp at hp⟩⟩
  case round =>
    clear h hc hcc
    obtain ⟨A1, c1, L1, A2, c2, out, rfl, rfl, h1, ho, hb, hc1, hcc1, HT⟩ := hrel
    cases L1 with
    | nil =>
      have HB := Lib.hid hb
      have HO := Lib.hid ho
      clear h1 hc1 hb ho
      go_wp2
      refine bodyPost_ret (results_tmp2 rfl _ _ _) rfl ?_
      exact parted_ok HB.out HT.out.2 (by have := HT.out.1; rw [List.append_nil] at this; exact this.symm) HO.out.rd
    | cons t r =>
      have hlen := parts_len HT.out.1
      obtain ⟨g, off, rfl, hab, hcell⟩ := h1.at_ (k := 0) (by simp)
      have hcell2 : wr.cell? ⟨g, off, none⟩ = some (.int .u8 (t.toNat : Int)) := by
        have := hcell
        rw [Nat.add_zero] at this
        exact this
      have hcut := h1.cut (k := 1) (c := c1) (by simp) hc1
      rw [show (t :: r).drop 1 = r from rfl] at hcut
      have hN : r.length = (t :: r).length - 1 := by simp
      have hN0 : 0 < (t :: r).length := by simp
      rw [List.length_cons] at hlen
      obtain ⟨N, hNN⟩ : ∃ N, N = (t :: r).length := ⟨_, rfl⟩
      rw [← hNN] at hN hN0 hc1 ⊢
      have hrN : r.length + 1 = N := by rw [hNN]; simp
      have HRN := Lib.hid hrN
      have hrl : r.length ≤ 1000000 := by omega
      have hoN : out.length ≤ 1000000 := by omega
      clear hcell h1 hNN hN hrN hlen
      have CT : ∀ (tv : Value) (n0 c0 : Nat) (Ac : Option Addr) (w' : World), n0 = N - 1 → c0 = c1 - 1 → RdB w' w.heap.size Ac r → w.heap.size ≤ w'.heap.size → Calls Tryd.prog 81 #[tv, .slice Ac n0 c0] w' (TakenP w' w.heap.size (txtP (Cod.txt r))) := fun tv n0 c0 Ac w' hn0 hc0 hr hz => by
        subst hn0 hc0
        have e : N - 1 = r.length := by have := HRN.out; omega
        rw [e]
        exact txt_any _ Ac (c1 - 1) r w' w.heap.size hz hr (by omega) (by omega) (by omega)
      have CN : ∀ (n0 c0 : Nat) (Ac : Option Addr) (w' : World), n0 = N - 1 → c0 = c1 - 1 → RdB w' w.heap.size Ac r → w.heap.size ≤ w'.heap.size → Calls Tryd.prog 80 #[.int .u8 (t.toNat : Int), .slice Ac n0 c0] w' (TakenP w' w.heap.size (Cod.num t r)) := fun n0 c0 Ac w' hn0 hc0 hr hz => by
        subst hn0 hc0
        have e : N - 1 = r.length := by have := HRN.out; omega
        rw [e]
        exact num_any t Ac (c1 - 1) r w' _ rfl w.heap.size hz hr (by omega) (by omega) (by omega)
      have HCT := Lib.hid CT
      have HCN := Lib.hid CN
      clear CT CN
      have hone : Cod.one (t :: r) = if t = 32 then txtP (Cod.txt r) else Cod.num t r := by rw [Cod.one]; rfl
      by_cases h32 : t = 32
      · subst h32
        rw [if_pos rfl] at hone
        have hcell3 : wr.cell? ⟨g, off, none⟩ = some (.int .u8 32) := hcell2
        clear hcell2
        have HCE := Lib.hid hcell3
        cases hv : Cod.one (32 :: r) with
        | none =>
          rw [hv] at hone
          have HV := Lib.hid hone.symm
          have HN := Lib.hid hv
          clear hone hv
          have HB := Lib.hid hb
          have HO := Lib.hid ho
          clear hb ho
          by_cases hc11 : c1 = 1
          · rw [if_pos hc11] at hcut
            have HDR := Lib.hid hcut
            clear hcut
            subst hc11
            go_wp2
            go_region_held (fun w' => RdB w' w.heap.size (some ⟨g, off, none⟩) r ∧ Below w.heap.size w w' ∧ w'.cell? ⟨g, off, none⟩ = some (.int .u8 32))
              (first | exact ⟨HDR.out, HB.out.drew, HCE.out⟩ | exact ⟨rdB_over HDR.out HB.out B3 (Nat.le_refl _), B3, cell_over HB.out B3 hab HCE.out⟩ | exact ⟨rdB_over HDR.out HB.out (B3.alloc B3.size _) (Nat.le_refl _), B3.alloc B3.size _, cell_over HB.out (B3.alloc B3.size _) hab HCE.out⟩ | exact ⟨rdB_over HDR.out HB.out (HB.out.drew.alloc HB.out.size _) (Nat.le_refl _), HB.out.drew.alloc HB.out.size _, cell_over HB.out (HB.out.drew.alloc HB.out.size _) hab HCE.out⟩ | exact ⟨rdB_sets (rdB_over HDR.out HB.out B3 (Nat.le_refl _)) HB.out.size, below_sets B3 HB.out.size, cell_sets (cell_over HB.out B3 hab HCE.out) hab HB.out.size⟩ | (trace_state; fail))
              (first
                | (go_at_call 81; refine (HCT.out (.int .u8 32) _ _ (some ⟨g, off, none⟩) _ (by omega) (by omega) (by go_split_ands; assumption) (by go_split_ands; exact Below.size (by assumption))).mono ?_; intro e w3 hh; obtain ⟨hb3, rfl⟩ := takenP_n hh HV.out; clear hh; have B3 := Below.trans (b := _) (by go_split_ands; assumption : Below w.heap.size w _) (hb3.mono (by go_split_ands; exact Below.size (by assumption))); (first | (have hx : w3.heap[wr.heap.size]? = some (.cells #[.bool false, .int .u64 0, .string ⟨#[]⟩] 122) := (hb3.block wr.heap.size (by simp)).trans (heap_alloc_new wr.drew _); have e0 := cell_of_row w3 wr.heap.size 0 _ _ (0, 0) hx; have e1 := cell_of_row w3 wr.heap.size 1 _ _ (0, 0) hx; have e2 := cell_of_row w3 wr.heap.size 2 _ _ (0, 0) hx; have k0 := frozen_of_row w3 wr.heap.size 0 _ _ hx; have k1 := frozen_of_row w3 wr.heap.size 1 _ _ hx; have k2 := frozen_of_row w3 wr.heap.size 2 _ _ hx; have HXX := Lib.hid hx; clear hx) | skip)))
            all_goals go_wp2
            all_goals refine bodyPost_ret (results_tmp2 rfl _ _ _) rfl ?_
            all_goals first | exact parted_no (below_sets B3 HB.out.size) HT.out.2 HT.out.1 HN.out | exact parted_no (B3.alloc B3.size _) HT.out.2 HT.out.1 HN.out
          · rw [if_neg hc11] at hcut
            have HDR := Lib.hid hcut
            clear hcut
            go_wp2
            go_region_held (fun w' => RdB w' w.heap.size (some ⟨g, off + 1, none⟩) r ∧ Below w.heap.size w w' ∧ w'.cell? ⟨g, off, none⟩ = some (.int .u8 32))
              (first | exact ⟨HDR.out, HB.out.drew, HCE.out⟩ | exact ⟨rdB_over HDR.out HB.out B3 (Nat.le_refl _), B3, cell_over HB.out B3 hab HCE.out⟩ | exact ⟨rdB_over HDR.out HB.out (B3.alloc B3.size _) (Nat.le_refl _), B3.alloc B3.size _, cell_over HB.out (B3.alloc B3.size _) hab HCE.out⟩ | exact ⟨rdB_over HDR.out HB.out (HB.out.drew.alloc HB.out.size _) (Nat.le_refl _), HB.out.drew.alloc HB.out.size _, cell_over HB.out (HB.out.drew.alloc HB.out.size _) hab HCE.out⟩ | exact ⟨rdB_sets (rdB_over HDR.out HB.out B3 (Nat.le_refl _)) HB.out.size, below_sets B3 HB.out.size, cell_sets (cell_over HB.out B3 hab HCE.out) hab HB.out.size⟩ | (trace_state; fail))
              (first
                | (go_at_call 81; refine (HCT.out (.int .u8 32) _ _ (some ⟨g, off + 1, none⟩) _ (by omega) (by omega) (by go_split_ands; assumption) (by go_split_ands; exact Below.size (by assumption))).mono ?_; intro e w3 hh; obtain ⟨hb3, rfl⟩ := takenP_n hh HV.out; clear hh; have B3 := Below.trans (b := _) (by go_split_ands; assumption : Below w.heap.size w _) (hb3.mono (by go_split_ands; exact Below.size (by assumption))); (first | (have hx : w3.heap[wr.heap.size]? = some (.cells #[.bool false, .int .u64 0, .string ⟨#[]⟩] 122) := (hb3.block wr.heap.size (by simp)).trans (heap_alloc_new wr.drew _); have e0 := cell_of_row w3 wr.heap.size 0 _ _ (0, 0) hx; have e1 := cell_of_row w3 wr.heap.size 1 _ _ (0, 0) hx; have e2 := cell_of_row w3 wr.heap.size 2 _ _ (0, 0) hx; have k0 := frozen_of_row w3 wr.heap.size 0 _ _ hx; have k1 := frozen_of_row w3 wr.heap.size 1 _ _ hx; have k2 := frozen_of_row w3 wr.heap.size 2 _ _ hx; have HXX := Lib.hid hx; clear hx) | skip)))
            all_goals go_wp2
            all_goals refine bodyPost_ret (results_tmp2 rfl _ _ _) rfl ?_
            all_goals first | exact parted_no (below_sets B3 HB.out.size) HT.out.2 HT.out.1 HN.out | exact parted_no (B3.alloc B3.size _) HT.out.2 HT.out.1 HN.out
        | some v =>
          obtain ⟨p, y⟩ := v
          rw [hv] at hone
          have HV := Lib.hid hone.symm
          have HN := Lib.hid hv
          clear hone hv
          have HB := Lib.hid hb
          have HO := Lib.hid ho
          clear hb ho
          by_cases hc11 : c1 = 1
          · rw [if_pos hc11] at hcut
            have HDR := Lib.hid hcut
            clear hcut
            subst hc11
            go_wp2
            go_region_held (fun w' => RdB w' w.heap.size (some ⟨g, off, none⟩) r ∧ Below w.heap.size w w' ∧ w'.cell? ⟨g, off, none⟩ = some (.int .u8 32))
              (first | exact ⟨HDR.out, HB.out.drew, HCE.out⟩ | exact ⟨rdB_over HDR.out HB.out B3 (Nat.le_refl _), B3, cell_over HB.out B3 hab HCE.out⟩ | exact ⟨rdB_over HDR.out HB.out (B3.alloc B3.size _) (Nat.le_refl _), B3.alloc B3.size _, cell_over HB.out (B3.alloc B3.size _) hab HCE.out⟩ | exact ⟨rdB_over HDR.out HB.out (HB.out.drew.alloc HB.out.size _) (Nat.le_refl _), HB.out.drew.alloc HB.out.size _, cell_over HB.out (HB.out.drew.alloc HB.out.size _) hab HCE.out⟩ | exact ⟨rdB_sets (rdB_over HDR.out HB.out B3 (Nat.le_refl _)) HB.out.size, below_sets B3 HB.out.size, cell_sets (cell_over HB.out B3 hab HCE.out) hab HB.out.size⟩ | (trace_state; fail))
              (first
                | (go_at_call 81; refine (HCT.out (.int .u8 32) _ _ (some ⟨g, off, none⟩) _ (by omega) (by omega) (by go_split_ands; assumption) (by go_split_ands; exact Below.size (by assumption))).mono ?_; intro e w3 hh; obtain ⟨hb3, A3, c3, rfl, hc3, hcc3, r3⟩ := takenP_s hh HV.out; clear hh; have B3 := Below.trans (b := _) (by go_split_ands; assumption : Below w.heap.size w _) (hb3.mono (by go_split_ands; exact Below.size (by assumption))); (first | (have hx : w3.heap[wr.heap.size]? = some (.cells #[.bool false, .int .u64 0, .string ⟨#[]⟩] 122) := (hb3.block wr.heap.size (by simp)).trans (heap_alloc_new wr.drew _); have e0 := cell_of_row w3 wr.heap.size 0 _ _ (0, 0) hx; have e1 := cell_of_row w3 wr.heap.size 1 _ _ (0, 0) hx; have e2 := cell_of_row w3 wr.heap.size 2 _ _ (0, 0) hx; have k0 := frozen_of_row w3 wr.heap.size 0 _ _ hx; have k1 := frozen_of_row w3 wr.heap.size 1 _ _ hx; have k2 := frozen_of_row w3 wr.heap.size 2 _ _ hx; have HXX := Lib.hid hx; clear hx) | skip)))
            all_goals
              have hz3 := B3.size
              have hbz := HB.out.size
              have ho3 : OwnP w3 w.heap.size A2 c2 out := by first | exact (ownP_drew HO.out).below hb3 | exact ((ownP_drew HO.out).alloc _).below hb3
              go_wp2_with (first
                | (have _ := HXX; at_builtin; refine wpList_append_p _ rfl (.tmp 30) (.tmp 32) rfl w.heap.size A2 c2 out rfl ((ownP_sets ho3 (fun e => absurd (HO.out.blk_ge _ e).2 (by omega))).alloc _) _ (some ⟨w3.heap.size, 0, none⟩) 1 1 [p] rfl rfl (rdP_one _ p _ (by simp)) (by simp; omega) (by simp; omega) ?_; intro A4 c4 L4 w4 hL4 ho4 hg4 hat4; have HL4 := Lib.hid hL4; clear hL4 hat4; have hb4 : Below w.heap.size w w4 := below_grow ((below_sets B3 hbz).alloc (by simp; omega) _) hg4 (fun g hg => (ho3.blk_ge g hg).1) (by simp; omega))
                | (at_builtin; refine wpList_append_p _ rfl (.tmp 30) (.tmp 32) rfl w.heap.size A2 c2 out rfl ((ho3.alloc _).alloc _) _ (some ⟨w3.heap.size + 1, 0, none⟩) 1 1 [p] rfl rfl (rdP_one _ p _ (by simp)) (by simp; omega) (by simp; omega) ?_; intro A4 c4 L4 w4 hL4 ho4 hg4 hat4; have HL4 := Lib.hid hL4; clear hL4 hat4; have hb4 : Below w.heap.size w w4 := below_grow ((B3.alloc hz3 _).alloc (by simp; omega) _) hg4 (fun g hg => (ho3.blk_ge g hg).1) (by simp; omega)))
              go_roundw
              case rel =>
                refine ⟨A3, c3, y, A4, c4, L4, rfl, rfl, rdB_over r3 B3 hb4 (Nat.le_refl _), ho4, hb4, hc3, hcc3, Lib.hid ?_⟩
                rw [HL4.out]
                exact parts_step HT.out.1 HT.out.2 HN.out
              case measure => have := one_short HN.out; have := HRN.out; simp at *; omega
          · rw [if_neg hc11] at hcut
            have HDR := Lib.hid hcut
            clear hcut
            go_wp2
            go_region_held (fun w' => RdB w' w.heap.size (some ⟨g, off + 1, none⟩) r ∧ Below w.heap.size w w' ∧ w'.cell? ⟨g, off, none⟩ = some (.int .u8 32))
              (first | exact ⟨HDR.out, HB.out.drew, HCE.out⟩ | exact ⟨rdB_over HDR.out HB.out B3 (Nat.le_refl _), B3, cell_over HB.out B3 hab HCE.out⟩ | exact ⟨rdB_over HDR.out HB.out (B3.alloc B3.size _) (Nat.le_refl _), B3.alloc B3.size _, cell_over HB.out (B3.alloc B3.size _) hab HCE.out⟩ | exact ⟨rdB_over HDR.out HB.out (HB.out.drew.alloc HB.out.size _) (Nat.le_refl _), HB.out.drew.alloc HB.out.size _, cell_over HB.out (HB.out.drew.alloc HB.out.size _) hab HCE.out⟩ | exact ⟨rdB_sets (rdB_over HDR.out HB.out B3 (Nat.le_refl _)) HB.out.size, below_sets B3 HB.out.size, cell_sets (cell_over HB.out B3 hab HCE.out) hab HB.out.size⟩ | (trace_state; fail))
              (first
                | (go_at_call 81; refine (HCT.out (.int .u8 32) _ _ (some ⟨g, off + 1, none⟩) _ (by omega) (by omega) (by go_split_ands; assumption) (by go_split_ands; exact Below.size (by assumption))).mono ?_; intro e w3 hh; obtain ⟨hb3, A3, c3, rfl, hc3, hcc3, r3⟩ := takenP_s hh HV.out; clear hh; have B3 := Below.trans (b := _) (by go_split_ands; assumption : Below w.heap.size w _) (hb3.mono (by go_split_ands; exact Below.size (by assumption))); (first | (have hx : w3.heap[wr.heap.size]? = some (.cells #[.bool false, .int .u64 0, .string ⟨#[]⟩] 122) := (hb3.block wr.heap.size (by simp)).trans (heap_alloc_new wr.drew _); have e0 := cell_of_row w3 wr.heap.size 0 _ _ (0, 0) hx; have e1 := cell_of_row w3 wr.heap.size 1 _ _ (0, 0) hx; have e2 := cell_of_row w3 wr.heap.size 2 _ _ (0, 0) hx; have k0 := frozen_of_row w3 wr.heap.size 0 _ _ hx; have k1 := frozen_of_row w3 wr.heap.size 1 _ _ hx; have k2 := frozen_of_row w3 wr.heap.size 2 _ _ hx; have HXX := Lib.hid hx; clear hx) | skip)))
            all_goals
              have hz3 := B3.size
              have hbz := HB.out.size
              have ho3 : OwnP w3 w.heap.size A2 c2 out := by first | exact (ownP_drew HO.out).below hb3 | exact ((ownP_drew HO.out).alloc _).below hb3
              go_wp2_with (first
                | (have _ := HXX; at_builtin; refine wpList_append_p _ rfl (.tmp 30) (.tmp 32) rfl w.heap.size A2 c2 out rfl ((ownP_sets ho3 (fun e => absurd (HO.out.blk_ge _ e).2 (by omega))).alloc _) _ (some ⟨w3.heap.size, 0, none⟩) 1 1 [p] rfl rfl (rdP_one _ p _ (by simp)) (by simp; omega) (by simp; omega) ?_; intro A4 c4 L4 w4 hL4 ho4 hg4 hat4; have HL4 := Lib.hid hL4; clear hL4 hat4; have hb4 : Below w.heap.size w w4 := below_grow ((below_sets B3 hbz).alloc (by simp; omega) _) hg4 (fun g hg => (ho3.blk_ge g hg).1) (by simp; omega))
                | (at_builtin; refine wpList_append_p _ rfl (.tmp 30) (.tmp 32) rfl w.heap.size A2 c2 out rfl ((ho3.alloc _).alloc _) _ (some ⟨w3.heap.size + 1, 0, none⟩) 1 1 [p] rfl rfl (rdP_one _ p _ (by simp)) (by simp; omega) (by simp; omega) ?_; intro A4 c4 L4 w4 hL4 ho4 hg4 hat4; have HL4 := Lib.hid hL4; clear hL4 hat4; have hb4 : Below w.heap.size w w4 := below_grow ((B3.alloc hz3 _).alloc (by simp; omega) _) hg4 (fun g hg => (ho3.blk_ge g hg).1) (by simp; omega)))
              go_roundw
              case rel =>
                refine ⟨A3, c3, y, A4, c4, L4, rfl, rfl, rdB_over r3 B3 hb4 (Nat.le_refl _), ho4, hb4, hc3, hcc3, Lib.hid ?_⟩
                rw [HL4.out]
                exact parts_step HT.out.1 HT.out.2 HN.out
              case measure => have := one_short HN.out; have := HRN.out; simp at *; omega
      · rw [if_neg h32] at hone
        have hx0 : t.toNat ≠ 32 := fun e => h32 (UInt8.toNat_inj.1 (by rw [e]; rfl))
        obtain ⟨x, hx⟩ : ∃ x, x = t.toNat := ⟨_, rfl⟩
        rw [← hx] at hx0 hcell2 HCN
        have hx1 : ((x : Int) == 32) = false := by simp; omega
        clear h32 hx0 hx
        have HCE := Lib.hid hcell2
        cases hv : Cod.one (t :: r) with
        | none =>
          rw [hv] at hone
          have HV := Lib.hid hone.symm
          have HN := Lib.hid hv
          clear hone hv
          have HB := Lib.hid hb
          have HO := Lib.hid ho
          clear hb ho
          by_cases hc11 : c1 = 1
          · rw [if_pos hc11] at hcut
            have HDR := Lib.hid hcut
            clear hcut
            subst hc11
            go_wp2
            go_region_held (fun w' => RdB w' w.heap.size (some ⟨g, off, none⟩) r ∧ Below w.heap.size w w' ∧ w'.cell? ⟨g, off, none⟩ = some (.int .u8 (x : Int)))
              (first | exact ⟨HDR.out, HB.out.drew, HCE.out⟩ | exact ⟨rdB_over HDR.out HB.out B3 (Nat.le_refl _), B3, cell_over HB.out B3 hab HCE.out⟩ | exact ⟨rdB_over HDR.out HB.out (B3.alloc B3.size _) (Nat.le_refl _), B3.alloc B3.size _, cell_over HB.out (B3.alloc B3.size _) hab HCE.out⟩ | exact ⟨rdB_over HDR.out HB.out (HB.out.drew.alloc HB.out.size _) (Nat.le_refl _), HB.out.drew.alloc HB.out.size _, cell_over HB.out (HB.out.drew.alloc HB.out.size _) hab HCE.out⟩ | exact ⟨rdB_sets (rdB_over HDR.out HB.out B3 (Nat.le_refl _)) HB.out.size, below_sets B3 HB.out.size, cell_sets (cell_over HB.out B3 hab HCE.out) hab HB.out.size⟩ | (trace_state; fail))
              (first
                | (go_at_call 80; refine (HCN.out _ _ (some ⟨g, off, none⟩) _ (by omega) (by omega) (by go_split_ands; assumption) (by go_split_ands; exact Below.size (by assumption))).mono ?_; intro e w3 hh; obtain ⟨hb3, rfl⟩ := takenP_n hh HV.out; clear hh; have B3 := Below.trans (b := _) (by go_split_ands; assumption : Below w.heap.size w _) (hb3.mono (by go_split_ands; exact Below.size (by assumption))); (first | (have hx : w3.heap[wr.heap.size]? = some (.cells #[.bool false, .int .u64 0, .string ⟨#[]⟩] 122) := (hb3.block wr.heap.size (by simp)).trans (heap_alloc_new wr.drew _); have e0 := cell_of_row w3 wr.heap.size 0 _ _ (0, 0) hx; have e1 := cell_of_row w3 wr.heap.size 1 _ _ (0, 0) hx; have e2 := cell_of_row w3 wr.heap.size 2 _ _ (0, 0) hx; have k0 := frozen_of_row w3 wr.heap.size 0 _ _ hx; have k1 := frozen_of_row w3 wr.heap.size 1 _ _ hx; have k2 := frozen_of_row w3 wr.heap.size 2 _ _ hx; have HXX := Lib.hid hx; clear hx) | skip)))
            all_goals go_wp2
            all_goals refine bodyPost_ret (results_tmp2 rfl _ _ _) rfl ?_
            all_goals first | exact parted_no (below_sets B3 HB.out.size) HT.out.2 HT.out.1 HN.out | exact parted_no (B3.alloc B3.size _) HT.out.2 HT.out.1 HN.out
          · rw [if_neg hc11] at hcut
            have HDR := Lib.hid hcut
            clear hcut
            go_wp2
            go_region_held (fun w' => RdB w' w.heap.size (some ⟨g, off + 1, none⟩) r ∧ Below w.heap.size w w' ∧ w'.cell? ⟨g, off, none⟩ = some (.int .u8 (x : Int)))
              (first | exact ⟨HDR.out, HB.out.drew, HCE.out⟩ | exact ⟨rdB_over HDR.out HB.out B3 (Nat.le_refl _), B3, cell_over HB.out B3 hab HCE.out⟩ | exact ⟨rdB_over HDR.out HB.out (B3.alloc B3.size _) (Nat.le_refl _), B3.alloc B3.size _, cell_over HB.out (B3.alloc B3.size _) hab HCE.out⟩ | exact ⟨rdB_over HDR.out HB.out (HB.out.drew.alloc HB.out.size _) (Nat.le_refl _), HB.out.drew.alloc HB.out.size _, cell_over HB.out (HB.out.drew.alloc HB.out.size _) hab HCE.out⟩ | exact ⟨rdB_sets (rdB_over HDR.out HB.out B3 (Nat.le_refl _)) HB.out.size, below_sets B3 HB.out.size, cell_sets (cell_over HB.out B3 hab HCE.out) hab HB.out.size⟩ | (trace_state; fail))
              (first
                | (go_at_call 80; refine (HCN.out _ _ (some ⟨g, off + 1, none⟩) _ (by omega) (by omega) (by go_split_ands; assumption) (by go_split_ands; exact Below.size (by assumption))).mono ?_; intro e w3 hh; obtain ⟨hb3, rfl⟩ := takenP_n hh HV.out; clear hh; have B3 := Below.trans (b := _) (by go_split_ands; assumption : Below w.heap.size w _) (hb3.mono (by go_split_ands; exact Below.size (by assumption))); (first | (have hx : w3.heap[wr.heap.size]? = some (.cells #[.bool false, .int .u64 0, .string ⟨#[]⟩] 122) := (hb3.block wr.heap.size (by simp)).trans (heap_alloc_new wr.drew _); have e0 := cell_of_row w3 wr.heap.size 0 _ _ (0, 0) hx; have e1 := cell_of_row w3 wr.heap.size 1 _ _ (0, 0) hx; have e2 := cell_of_row w3 wr.heap.size 2 _ _ (0, 0) hx; have k0 := frozen_of_row w3 wr.heap.size 0 _ _ hx; have k1 := frozen_of_row w3 wr.heap.size 1 _ _ hx; have k2 := frozen_of_row w3 wr.heap.size 2 _ _ hx; have HXX := Lib.hid hx; clear hx) | skip)))
            all_goals go_wp2
            all_goals refine bodyPost_ret (results_tmp2 rfl _ _ _) rfl ?_
            all_goals first | exact parted_no (below_sets B3 HB.out.size) HT.out.2 HT.out.1 HN.out | exact parted_no (B3.alloc B3.size _) HT.out.2 HT.out.1 HN.out
        | some v =>
          obtain ⟨p, y⟩ := v
          rw [hv] at hone
          have HV := Lib.hid hone.symm
          have HN := Lib.hid hv
          clear hone hv
          have HB := Lib.hid hb
          have HO := Lib.hid ho
          clear hb ho
          by_cases hc11 : c1 = 1
          · rw [if_pos hc11] at hcut
            have HDR := Lib.hid hcut
            clear hcut
            subst hc11
            go_wp2
            go_region_held (fun w' => RdB w' w.heap.size (some ⟨g, off, none⟩) r ∧ Below w.heap.size w w' ∧ w'.cell? ⟨g, off, none⟩ = some (.int .u8 (x : Int)))
              (first | exact ⟨HDR.out, HB.out.drew, HCE.out⟩ | exact ⟨rdB_over HDR.out HB.out B3 (Nat.le_refl _), B3, cell_over HB.out B3 hab HCE.out⟩ | exact ⟨rdB_over HDR.out HB.out (B3.alloc B3.size _) (Nat.le_refl _), B3.alloc B3.size _, cell_over HB.out (B3.alloc B3.size _) hab HCE.out⟩ | exact ⟨rdB_over HDR.out HB.out (HB.out.drew.alloc HB.out.size _) (Nat.le_refl _), HB.out.drew.alloc HB.out.size _, cell_over HB.out (HB.out.drew.alloc HB.out.size _) hab HCE.out⟩ | exact ⟨rdB_sets (rdB_over HDR.out HB.out B3 (Nat.le_refl _)) HB.out.size, below_sets B3 HB.out.size, cell_sets (cell_over HB.out B3 hab HCE.out) hab HB.out.size⟩ | (trace_state; fail))
              (first
                | (go_at_call 80; refine (HCN.out _ _ (some ⟨g, off, none⟩) _ (by omega) (by omega) (by go_split_ands; assumption) (by go_split_ands; exact Below.size (by assumption))).mono ?_; intro e w3 hh; obtain ⟨hb3, A3, c3, rfl, hc3, hcc3, r3⟩ := takenP_s hh HV.out; clear hh; have B3 := Below.trans (b := _) (by go_split_ands; assumption : Below w.heap.size w _) (hb3.mono (by go_split_ands; exact Below.size (by assumption))); (first | (have hx : w3.heap[wr.heap.size]? = some (.cells #[.bool false, .int .u64 0, .string ⟨#[]⟩] 122) := (hb3.block wr.heap.size (by simp)).trans (heap_alloc_new wr.drew _); have e0 := cell_of_row w3 wr.heap.size 0 _ _ (0, 0) hx; have e1 := cell_of_row w3 wr.heap.size 1 _ _ (0, 0) hx; have e2 := cell_of_row w3 wr.heap.size 2 _ _ (0, 0) hx; have k0 := frozen_of_row w3 wr.heap.size 0 _ _ hx; have k1 := frozen_of_row w3 wr.heap.size 1 _ _ hx; have k2 := frozen_of_row w3 wr.heap.size 2 _ _ hx; have HXX := Lib.hid hx; clear hx) | skip)))
            all_goals
              have hz3 := B3.size
              have hbz := HB.out.size
              have ho3 : OwnP w3 w.heap.size A2 c2 out := by first | exact (ownP_drew HO.out).below hb3 | exact ((ownP_drew HO.out).alloc _).below hb3
              go_wp2_with (first
                | (have _ := HXX; at_builtin; refine wpList_append_p _ rfl (.tmp 30) (.tmp 32) rfl w.heap.size A2 c2 out rfl ((ownP_sets ho3 (fun e => absurd (HO.out.blk_ge _ e).2 (by omega))).alloc _) _ (some ⟨w3.heap.size, 0, none⟩) 1 1 [p] rfl rfl (rdP_one _ p _ (by simp)) (by simp; omega) (by simp; omega) ?_; intro A4 c4 L4 w4 hL4 ho4 hg4 hat4; have HL4 := Lib.hid hL4; clear hL4 hat4; have hb4 : Below w.heap.size w w4 := below_grow ((below_sets B3 hbz).alloc (by simp; omega) _) hg4 (fun g hg => (ho3.blk_ge g hg).1) (by simp; omega))
                | (at_builtin; refine wpList_append_p _ rfl (.tmp 30) (.tmp 32) rfl w.heap.size A2 c2 out rfl ((ho3.alloc _).alloc _) _ (some ⟨w3.heap.size + 1, 0, none⟩) 1 1 [p] rfl rfl (rdP_one _ p _ (by simp)) (by simp; omega) (by simp; omega) ?_; intro A4 c4 L4 w4 hL4 ho4 hg4 hat4; have HL4 := Lib.hid hL4; clear hL4 hat4; have hb4 : Below w.heap.size w w4 := below_grow ((B3.alloc hz3 _).alloc (by simp; omega) _) hg4 (fun g hg => (ho3.blk_ge g hg).1) (by simp; omega)))
              go_roundw
              case rel =>
                refine ⟨A3, c3, y, A4, c4, L4, rfl, rfl, rdB_over r3 B3 hb4 (Nat.le_refl _), ho4, hb4, hc3, hcc3, Lib.hid ?_⟩
                rw [HL4.out]
                exact parts_step HT.out.1 HT.out.2 HN.out
              case measure => have := one_short HN.out; have := HRN.out; simp at *; omega
          · rw [if_neg hc11] at hcut
            have HDR := Lib.hid hcut
            clear hcut
            go_wp2
            go_region_held (fun w' => RdB w' w.heap.size (some ⟨g, off + 1, none⟩) r ∧ Below w.heap.size w w' ∧ w'.cell? ⟨g, off, none⟩ = some (.int .u8 (x : Int)))
              (first | exact ⟨HDR.out, HB.out.drew, HCE.out⟩ | exact ⟨rdB_over HDR.out HB.out B3 (Nat.le_refl _), B3, cell_over HB.out B3 hab HCE.out⟩ | exact ⟨rdB_over HDR.out HB.out (B3.alloc B3.size _) (Nat.le_refl _), B3.alloc B3.size _, cell_over HB.out (B3.alloc B3.size _) hab HCE.out⟩ | exact ⟨rdB_over HDR.out HB.out (HB.out.drew.alloc HB.out.size _) (Nat.le_refl _), HB.out.drew.alloc HB.out.size _, cell_over HB.out (HB.out.drew.alloc HB.out.size _) hab HCE.out⟩ | exact ⟨rdB_sets (rdB_over HDR.out HB.out B3 (Nat.le_refl _)) HB.out.size, below_sets B3 HB.out.size, cell_sets (cell_over HB.out B3 hab HCE.out) hab HB.out.size⟩ | (trace_state; fail))
              (first
                | (go_at_call 80; refine (HCN.out _ _ (some ⟨g, off + 1, none⟩) _ (by omega) (by omega) (by go_split_ands; assumption) (by go_split_ands; exact Below.size (by assumption))).mono ?_; intro e w3 hh; obtain ⟨hb3, A3, c3, rfl, hc3, hcc3, r3⟩ := takenP_s hh HV.out; clear hh; have B3 := Below.trans (b := _) (by go_split_ands; assumption : Below w.heap.size w _) (hb3.mono (by go_split_ands; exact Below.size (by assumption))); (first | (have hx : w3.heap[wr.heap.size]? = some (.cells #[.bool false, .int .u64 0, .string ⟨#[]⟩] 122) := (hb3.block wr.heap.size (by simp)).trans (heap_alloc_new wr.drew _); have e0 := cell_of_row w3 wr.heap.size 0 _ _ (0, 0) hx; have e1 := cell_of_row w3 wr.heap.size 1 _ _ (0, 0) hx; have e2 := cell_of_row w3 wr.heap.size 2 _ _ (0, 0) hx; have k0 := frozen_of_row w3 wr.heap.size 0 _ _ hx; have k1 := frozen_of_row w3 wr.heap.size 1 _ _ hx; have k2 := frozen_of_row w3 wr.heap.size 2 _ _ hx; have HXX := Lib.hid hx; clear hx) | skip)))
            all_goals
              have hz3 := B3.size
              have hbz := HB.out.size
              have ho3 : OwnP w3 w.heap.size A2 c2 out := by first | exact (ownP_drew HO.out).below hb3 | exact ((ownP_drew HO.out).alloc _).below hb3
              go_wp2_with (first
                | (have _ := HXX; at_builtin; refine wpList_append_p _ rfl (.tmp 30) (.tmp 32) rfl w.heap.size A2 c2 out rfl ((ownP_sets ho3 (fun e => absurd (HO.out.blk_ge _ e).2 (by omega))).alloc _) _ (some ⟨w3.heap.size, 0, none⟩) 1 1 [p] rfl rfl (rdP_one _ p _ (by simp)) (by simp; omega) (by simp; omega) ?_; intro A4 c4 L4 w4 hL4 ho4 hg4 hat4; have HL4 := Lib.hid hL4; clear hL4 hat4; have hb4 : Below w.heap.size w w4 := below_grow ((below_sets B3 hbz).alloc (by simp; omega) _) hg4 (fun g hg => (ho3.blk_ge g hg).1) (by simp; omega))
                | (at_builtin; refine wpList_append_p _ rfl (.tmp 30) (.tmp 32) rfl w.heap.size A2 c2 out rfl ((ho3.alloc _).alloc _) _ (some ⟨w3.heap.size + 1, 0, none⟩) 1 1 [p] rfl rfl (rdP_one _ p _ (by simp)) (by simp; omega) (by simp; omega) ?_; intro A4 c4 L4 w4 hL4 ho4 hg4 hat4; have HL4 := Lib.hid hL4; clear hL4 hat4; have hb4 : Below w.heap.size w w4 := below_grow ((B3.alloc hz3 _).alloc (by simp; omega) _) hg4 (fun g hg => (ho3.blk_ge g hg).1) (by simp; omega)))
              go_roundw
              case rel =>
                refine ⟨A3, c3, y, A4, c4, L4, rfl, rfl, rdB_over r3 B3 hb4 (Nat.le_refl _), ho4, hb4, hc3, hcc3, Lib.hid ?_⟩
                rw [HL4.out]
                exact parts_step HT.out.1 HT.out.2 HN.out
              case measure => have := one_short HN.out; have := HRN.out; simp at *; omega
end Go.Proofs.YtgafionfojnieaaDoor
