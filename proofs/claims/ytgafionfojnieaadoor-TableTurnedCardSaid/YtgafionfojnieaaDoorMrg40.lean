/- Parts of the proof, one behind the other: The walk of the reference's Parts. -/
import Derived.Test.YtgafionfojnieaaDoorMrg30
import Derived.Test.YtgafionfojnieaaDoorMrg20
import Derived.Deep.RegionHeld
namespace Go.Proofs.YtgafionfojnieaaDoor
open Go.RowKit

theorem ownP_kept {w w' : World} {row : Option Nat} {base : Nat} {A : Option Addr} {c : Nat} {l : List Pt} (h : OwnP w base A c l) (hg : w.grownBy w' row) (hne : blk A = none ∨ blk A ≠ row) : OwnP w' base A c l :=
  World.ownsRow.kept h hg (by rw [ownBlock_slice]; exact hne)
theorem ne_next {w : World} {o : Obj} {B c : Nat} {A A3 A4 : Option Addr} {l : List Pt} (h : OwnP w B A c l) (hne : blk A = none ∨ blk A ≠ blk A3) (hat : blk A4 = blk A3 ∨ blk A4 = some (w.alloc o).heap.size) : blk A = none ∨ blk A ≠ blk A4 := by
  rcases hat with e | e
  · rw [e]; exact hne
  · rw [e]
    refine .inr fun e2 => ?_
    have := (h.blk_ge _ e2).2
    simp at this
    omega
theorem strB_at {w : World} {B : Nat} {A : Option Addr} {c : Nat} {l : List UInt8} {X : ByteArray} (h : RdB w B A l) (hX : (⟨l.toArray⟩ : ByteArray) = X) : (convert 25 9 (.slice A l.length c)).run Tryd.prog w = .ok (.string X) w := by
  subst hX; exact strB_of h
theorem str_ne {l m : List UInt8} {X Y : ByteArray} (hX : (⟨l.toArray⟩ : ByteArray) = X) (hY : (⟨m.toArray⟩ : ByteArray) = Y) (h : l ≠ m) : (X.toList == Y.toList) = false := by
  subst hX hY
  rw [ByteArray.toList_eq, ByteArray.toList_eq]
  simpa using h
theorem keep_r {w w' : World} {A B : Option Addr} {c : Nat} {k : List UInt8} {l : List Pt} {X : ByteArray} (hk : RdB w w.heap.size A k) (hl : RdP w w.heap.size B l) (hb : Below w.heap.size w w') (hX : (⟨k.toArray⟩ : ByteArray) = X) :
    (convert 25 9 (.slice A k.length c)).run Tryd.prog w' = .ok (.string X) w' ∧ RdP w' w'.heap.size B l ∧ Below w.heap.size w w' :=
  ⟨strB_at (hk.below hb (Nat.le_refl _)) hX, (hl.below hb (Nat.le_refl _)).more hb.size, hb⟩
set_option maxHeartbeats 4000000 in
set_option maxRecDepth 100000 in
theorem rparts_any (A : Option Addr) (c : Nat) (b : List UInt8) (w : World) (h : RdB w w.heap.size A b) (hl : b.length ≤ 70000) :
    Calls Tryd.prog 59 #[.slice A b.length c] w (Parted w b) := by
  go_enter Tryd.func59, Tryd.ntmps59
  go_wp2
  go_loopw [4, 5, 6, 7, 8, 9] (fun v i _ _ _ _ wr => ∃ (A2 : Option Addr) (c2 : Nat) (out : List Pt) (k : Nat), v = .slice A2 out.length c2 ∧ i = .int .i64 (k : Int) ∧ OwnP wr w.heap.size A2 c2 out ∧ Below w.heap.size w wr ∧ out.length ≤ k ∧ k ≤ b.length + 240 ∧ Hid (Knows b out k)) (fun _ i _ _ _ _ _ => b.length + 240 - (intOf i).toNat)
  case atStart => exact ⟨none, 0, [], 0, rfl, rfl, OwnP.nil _ _, Below.refl _ _, by simp, by omega, Lib.hid (knows_start b)⟩
  case round =>
    obtain ⟨A2, c2, out, k, rfl, rfl, ho, hb, hok, hk, HK⟩ := hrel
    by_cases hlt : k < b.length
    · obtain ⟨g, off, rfl, hab, hcellw⟩ := h.at_ hlt
      have hcell := (hb.cell (p := ⟨g, off + k, none⟩) (by exact hab)).trans hcellw
      by_cases h32 : b[k] = 32
      · rw [h32] at hcell
        have hcell3 : wr.cell? ⟨g, off + k, none⟩ = some (.int .u8 32) := hcell
        have H32 := Lib.hid h32
        clear hcell hcellw h32
        go_wp2
        have HOK := Lib.hid hok
        go_loopw [5, 6] (fun iv sv wi => ∃ (A3 : Option Addr) (c3 : Nat) (S : List UInt8) (i : Nat), iv = .int .i64 (i : Int) ∧ sv = .slice A3 S.length c3 ∧ Own wi w.heap.size 5 A3 c3 S ∧ OwnP wi w.heap.size A2 c2 out ∧ Below w.heap.size w wi ∧ k + 1 ≤ i ∧ i ≤ b.length ∧ S.length + (k + 1) ≤ i ∧
          Hid (blk A2 = none ∨ blk A2 ≠ blk A3) ∧ Hid (KnowsT b k S i)) (fun iv _ _ => b.length + 1 - (intOf iv).toNat)
        case atStart => exact ⟨none, 0, [], k + 1, by go_num, rfl, Own.nil _ _ _, ho, hb, by omega, by omega, by simp, Lib.hid (by cases A2 <;> simp [blk]), Lib.hid (knowsT_start b k)⟩
        case round =>
          clear ho hb hcell3 hok
          obtain ⟨A3, c3, S, i, rfl, rfl, ho3, ho2, hb3, hi1, hi2, hS, HNE, HT⟩ := hrel
          have hbz3 := hb3.size
          by_cases hi : i + 1 < b.length
          · obtain ⟨g1, off1, e1, _, hq0⟩ := h.at_ (k := i) (by omega)
            obtain ⟨g2, off2, e2, _, hq1⟩ := h.at_ (k := i + 1) hi
            injection e1 with e1
            injection e1 with e3 e4
            subst e3 e4
            injection e2 with e2
            injection e2 with e5 e6
            subst e5 e6
            by_cases hz : b[i]'(by omega) = 0 ∧ b[i + 1] = 0
            · skip
              have hc0 := (hb3.cell (p := ⟨g, off + i, none⟩) (by exact hab)).trans hq0
              have hc1 := (hb3.cell (p := ⟨g, off + (i + 1), none⟩) (by exact hab)).trans hq1
              rw [hz.1] at hc0
              rw [hz.2] at hc1
              have hc0' : wr.cell? ⟨g, off + i, none⟩ = some (.int .u8 0) := hc0
              have hc1' : wr.cell? ⟨g, off + (i + 1), none⟩ = some (.int .u8 0) := hc1
              have hkn := knows_text (i := i) HK.out hlt H32.out (by omega) (knowsT_end HT.out (.inr ⟨hi, hz⟩))
              have HKN := Lib.hid hkn
              have hstr := run_string_b wr bt Tryd.underlying9 _ A3 S.length c3 S rfl ho3.rd
              have hol : out.length ≤ 70000 := by have := HOK.out; omega
              clear hkn HT hz hc0 hc1 hq0 hq1
              go_wp2_with (at_builtin; refine wpList_append_p _ rfl (.tmp 60) (.tmp 64) rfl w.heap.size A2 c2 out rfl (ho2.alloc _) _ (some ⟨wr.heap.size, 0, none⟩) 1 1 [⟨true, 0, ⟨S.toArray⟩⟩] rfl rfl (by first | exact rdP_one wr ⟨true, 0, ⟨S.toArray⟩⟩ _ rfl | fail) (by simp; omega) (by simp; omega) ?_; intro A4 c4 L4 w4 hL4 ho4 hg4 hat4; have HL4 := Lib.hid hL4; clear hL4; have hb4 : Below w.heap.size w w4 := below_grow (hb3.alloc hbz3 _) hg4 (fun g hg => (ho2.blk_ge g hg).1) (by simp; omega))
              go_roundw
              case rel => exact ⟨A4, c4, L4, i + 2, rfl, by go_num, ho4, hb4, by have := HOK.out; rw [HL4.out]; simp; omega, by omega, Lib.hid (by rw [HL4.out]; exact HKN.out)⟩
              case measure => simp [intOf]; omega
            · have hstep := knowsT_step HT.out hi hz
              obtain ⟨xb, hxb⟩ : ∃ xb, xb = b[i]'(by omega) := ⟨_, rfl⟩
              obtain ⟨yb, hyb⟩ : ∃ yb, yb = b[i + 1] := ⟨_, rfl⟩
              rw [← hxb] at hstep hz hq0
              rw [← hyb] at hz hq1
              clear hxb hyb
              have hc0 := (hb3.cell (p := ⟨g, off + i, none⟩) (by exact hab)).trans hq0
              have hc1 := (hb3.cell (p := ⟨g, off + (i + 1), none⟩) (by exact hab)).trans hq1
              by_cases hx0 : xb = 0
              · subst hx0
                rw [if_pos rfl] at hstep
                have HS := Lib.hid hstep
                have hy0 : ((yb.toNat : Int) == 0) = false := by
                  have : yb.toNat ≠ 0 := fun e => hz ⟨rfl, UInt8.toNat_inj.1 (by rw [e]; rfl)⟩
                  simp; omega
                obtain ⟨y, hy⟩ : ∃ y, y = yb.toNat := ⟨_, rfl⟩
                rw [← hy] at hy0 hc1
                have hc0' : wr.cell? ⟨g, off + i, none⟩ = some (.int .u8 0) := hc0
                have HC0 : Hid (w.cell? ⟨g, off + i, none⟩ = some (.int .u8 0)) := Lib.hid hq0
                have HX : Hid ((((0 : UInt8).toNat : Nat) : Int) = 0) := Lib.hid rfl
                clear hc0 hq0 hq1 hstep hz hy HT
                go_wp2_with (at_builtin; refine wpList_append_b _ rfl (.tmp 42) (.tmp 47) bt rfl w.heap.size A3 c3 S rfl (ho3.alloc _) _ (some ⟨wr.heap.size, 0, none⟩) 1 1 [0] rfl rfl (rdB_one (x := 0) (by simp) HX.out (by simp)) (by simp; omega) (by simp; omega) ?_; intro A4 c4 L4 w4 hL4 ho4 hg4 hat4; have HL4 := Lib.hid hL4; clear hL4; have hb4 : Below w.heap.size w w4 := below_grow (hb3.alloc hbz3 _) hg4 (fun g hg => (ho3.blk_ge g hg).1) (by simp; omega); have ho24 : OwnP w4 w.heap.size A2 c2 out := ownP_kept (ho2.alloc _) hg4 HNE.out; have hc4 := (hb4.cell (p := ⟨g, off + i, none⟩) (by exact hab)).trans HC0.out; have hne4 : blk A2 = none ∨ blk A2 ≠ blk A4 := ne_next ho2 HNE.out hat4)
                go_roundw
                case rel => exact ⟨A4, c4, L4, i + 2, by go_num, rfl, ho4, ho24, hb4, by omega, by omega, by rw [HL4.out]; simp; omega, Lib.hid hne4, Lib.hid (by rw [HL4.out]; exact HS.out)⟩
                case measure => simp [intOf]; omega
              · rw [if_neg hx0] at hstep
                have HS := Lib.hid hstep
                have hx1 : xb.toNat ≠ 0 := fun e => hx0 (UInt8.toNat_inj.1 (by rw [e]; rfl))
                obtain ⟨x, hx⟩ : ∃ x, x = xb.toNat := ⟨_, rfl⟩
                rw [← hx] at hx1 hc0 hq0
                have hx2 : ((x : Int) == 0) = false := by simp; omega
                have HC0 := Lib.hid hq0
                have hxx : ((xb.toNat : Nat) : Int) = (x : Int) := by rw [hx]
                have HX := Lib.hid hxx
                clear hq0 hq1 hstep hz hx HT hc1 hxx hx0 hx1
                go_wp2_with (at_builtin; refine wpList_append_b _ rfl (.tmp 42) (.tmp 47) bt rfl w.heap.size A3 c3 S rfl (ho3.alloc _) _ (some ⟨wr.heap.size, 0, none⟩) 1 1 [xb] rfl rfl (rdB_one (x := (x : Int)) (by simp) HX.out (by simp)) (by simp; omega) (by simp; omega) ?_; intro A4 c4 L4 w4 hL4 ho4 hg4 hat4; have HL4 := Lib.hid hL4; clear hL4; have hb4 : Below w.heap.size w w4 := below_grow (hb3.alloc hbz3 _) hg4 (fun g hg => (ho3.blk_ge g hg).1) (by simp; omega); have ho24 : OwnP w4 w.heap.size A2 c2 out := ownP_kept (ho2.alloc _) hg4 HNE.out; have hc4 := (hb4.cell (p := ⟨g, off + i, none⟩) (by exact hab)).trans HC0.out; have hne4 : blk A2 = none ∨ blk A2 ≠ blk A4 := ne_next ho2 HNE.out hat4)
                go_roundw
                case rel => exact ⟨A4, c4, L4, i + 1, by go_num, rfl, ho4, ho24, hb4, by omega, by omega, by rw [HL4.out]; simp; omega, Lib.hid hne4, Lib.hid (by rw [HL4.out]; exact HS.out)⟩
                case measure => simp [intOf]; omega
          · skip
            have hkn := knows_text (i := i) HK.out hlt H32.out (by omega) (knowsT_end HT.out (.inl (by omega)))
            have HKN := Lib.hid hkn
            have hstr := run_string_b wr bt Tryd.underlying9 _ A3 S.length c3 S rfl ho3.rd
            have hol : out.length ≤ 70000 := by have := HOK.out; omega
            clear hkn HT
            go_wp2_with (at_builtin; refine wpList_append_p _ rfl (.tmp 60) (.tmp 64) rfl w.heap.size A2 c2 out rfl (ho2.alloc _) _ (some ⟨wr.heap.size, 0, none⟩) 1 1 [⟨true, 0, ⟨S.toArray⟩⟩] rfl rfl (by first | exact rdP_one wr ⟨true, 0, ⟨S.toArray⟩⟩ _ rfl | fail) (by simp; omega) (by simp; omega) ?_; intro A4 c4 L4 w4 hL4 ho4 hg4 hat4; have HL4 := Lib.hid hL4; clear hL4; have hb4 : Below w.heap.size w w4 := below_grow (hb3.alloc hbz3 _) hg4 (fun g hg => (ho2.blk_ge g hg).1) (by simp; omega))
            go_roundw
            case rel => exact ⟨A4, c4, L4, i + 2, rfl, by go_num, ho4, hb4, by have := HOK.out; rw [HL4.out]; simp; omega, by omega, Lib.hid (by rw [HL4.out]; exact HKN.out)⟩
            case measure => simp [intOf]; omega
      · have hx := b[k].toNat_lt
        obtain ⟨x, hxx⟩ : ∃ x, x = b[k].toNat := ⟨_, rfl⟩
        have hx32 : x ≠ 32 := fun e => h32 (UInt8.toNat_inj.1 (by rw [← hxx, e]; rfl))
        rw [← hxx] at hcell hx
        have hx3 : ((x : Int) == 32) = false := by simp; omega
        have hx2 : (x : Int) < 256 := by omega
        have H32 := Lib.hid h32
        have HXX := Lib.hid hxx
        have HOK := Lib.hid hok
        clear h32 hxx hx32 hcellw hok hx
        go_wp2
        go_loop [8, 9] (fun v u => ∃ n j : Nat, v = .int .u64 (n : Int) ∧ u = .int .i64 (j : Int) ∧ 1 ≤ j ∧ j ≤ x - 16 + 1 ∧ j ≤ 9 ∧ n < 18446744073709551616 ∧ Hid (n = Cod.val 0 ((b.drop (k + 1)).take (j - 1)))) (fun _ u => 10 - (intOf u).toNat)
        case atStart => exact ⟨0, 1, rfl, rfl, by omega, by omega, by omega, by omega, Lib.hid rfl⟩
        case round =>
          obtain ⟨n, j, rfl, rfl, hj1, hj2, hj3, hn, HN⟩ := hrel
          have hex : ¬ (j ≤ x - 16 ∧ j ≤ 8 ∧ k + j < b.length) → Hid (Knows b (out ++ [⟨false, n, .empty⟩]) (k + 1 + (x - 16))) := fun hx => Lib.hid (by
            have := knows_num (n := n) (j := j) HK.out hlt H32.out hj1 (by rw [← HXX.out]; omega) hj3 HN.out (by rw [← HXX.out]; exact hx)
            rw [← HXX.out] at this
            exact this)
          by_cases t1 : (j : Int) ≤ (x : Int) - 16
          · by_cases t2 : (j : Int) ≤ 8
            · by_cases t3 : k + j < b.length
              · obtain ⟨g1, off1, e1, _, hq0⟩ := h.at_ (k := k + j) t3
                injection e1 with e1
                injection e1 with e3 e4
                subst e3 e4
                have hq := (hb.cell (p := ⟨g, off + (k + j), none⟩) (by exact hab)).trans hq0
                have hN := HN.out
                have hnb : n < 72057594037927936 := by
                  have h1 := Cod.val_bound ((b.drop (k + 1)).take (j - 1)) 0
                  have h2 : ((b.drop (k + 1)).take (j - 1)).length ≤ 7 := by rw [List.length_take]; omega
                  have h3 : (256 : Nat) ^ ((b.drop (k + 1)).take (j - 1)).length ≤ 256 ^ 7 := Nat.pow_le_pow_right (by omega) h2
                  have h256 : (256 : Nat) ^ 7 = 72057594037927936 := by decide
                  rw [hN]; omega
                have hvv := b[k + j].toNat_lt
                obtain ⟨v, hv⟩ : ∃ v, v = b[k + j].toNat := ⟨_, rfl⟩
                rw [← hv] at hq hvv
                have hnext : Hid (n * 256 + v = Cod.val 0 ((b.drop (k + 1)).take (j + 1 - 1))) := Lib.hid (by
                  obtain ⟨m, rfl⟩ : ∃ m, j = m + 1 := ⟨j - 1, by omega⟩
                  rw [Nat.add_sub_cancel, List.take_succ_eq_append_getElem (by rw [List.length_drop]; omega), Cod.val_snoc]
                  rw [Nat.add_sub_cancel] at hN
                  rw [← hN, hv, List.getElem_drop]
                  have e : k + 1 + m = k + (m + 1) := by omega
                  simp only [e])
                have hv2 : (v : Int) < 256 := by omega
                have hn2 : (n : Int) < 72057594037927936 := by omega
                have t2' : j ≤ 8 := by omega
                have t3' : (k : Int) + (j : Int) < (b.length : Int) := by omega
                clear hN hnb hv hvv HN hq0 hn hcell hex
                go_wp2
                go_round
                case rel => exact ⟨n * 256 + v, j + 1, by go_num, by go_num, by omega, by omega, by omega, by omega, hnext⟩
                case measure => simp [intOf]; omega
              · have HKN := hex (by omega); clear hex hcell
                have hbz := hb.size
                have hol : out.length ≤ 70000 := by have := HOK.out; omega
                have h16 : ¬ (x : Int) < 16 := by omega
                have HX := Lib.hid (show ((k + 1 + (x - 16) : Nat) : Int) = (k : Int) + 1 + max ((x : Int) - 16) 0 from by omega)
                go_wp2_with (at_builtin; refine wpList_append_p _ rfl (.tmp 104) (.tmp 107) rfl w.heap.size A2 c2 out rfl (ho.alloc _) _ (some ⟨wr.heap.size, 0, none⟩) 1 1 [⟨false, n, .empty⟩] rfl rfl (by first | exact rdP_one wr ⟨false, n, .empty⟩ _ rfl | fail) (by simp; omega) (by simp; omega) ?_; intro A4 c4 L4 w4 hL4 ho4 hg4 hat4; have HL4 := Lib.hid hL4; clear hL4; have hb4 : Below w.heap.size w w4 := below_grow (hb.alloc hbz _) hg4 (fun g hg => (ho.blk_ge g hg).1) (by simp; omega))
                go_roundw
                case rel => exact ⟨A4, c4, L4, k + 1 + (x - 16), rfl, by rw [HX.out], ho4, hb4, by have := HOK.out; rw [HL4.out]; simp; omega, by omega, Lib.hid (by rw [HL4.out]; exact HKN.out)⟩
                case measure => simp [intOf]; omega
            · have HKN := hex (by omega); clear hex hcell
              have hbz := hb.size
              have hol : out.length ≤ 70000 := by have := HOK.out; omega
              have h16 : ¬ (x : Int) < 16 := by omega
              have HX := Lib.hid (show ((k + 1 + (x - 16) : Nat) : Int) = (k : Int) + 1 + max ((x : Int) - 16) 0 from by omega)
              go_wp2_with (at_builtin; refine wpList_append_p _ rfl (.tmp 104) (.tmp 107) rfl w.heap.size A2 c2 out rfl (ho.alloc _) _ (some ⟨wr.heap.size, 0, none⟩) 1 1 [⟨false, n, .empty⟩] rfl rfl (by first | exact rdP_one wr ⟨false, n, .empty⟩ _ rfl | fail) (by simp; omega) (by simp; omega) ?_; intro A4 c4 L4 w4 hL4 ho4 hg4 hat4; have HL4 := Lib.hid hL4; clear hL4; have hb4 : Below w.heap.size w w4 := below_grow (hb.alloc hbz _) hg4 (fun g hg => (ho.blk_ge g hg).1) (by simp; omega))
              go_roundw
              case rel => exact ⟨A4, c4, L4, k + 1 + (x - 16), rfl, by rw [HX.out], ho4, hb4, by have := HOK.out; rw [HL4.out]; simp; omega, by omega, Lib.hid (by rw [HL4.out]; exact HKN.out)⟩
              case measure => simp [intOf]; omega
          · have HKN := hex (by omega); clear hex hcell
            have hbz := hb.size
            have hol : out.length ≤ 70000 := by have := HOK.out; omega
            by_cases h16 : (x : Int) < 16
            · have e0 : x - 16 = 0 := by omega
              rw [e0] at HKN
              clear e0
              go_wp2_with (at_builtin; refine wpList_append_p _ rfl (.tmp 104) (.tmp 107) rfl w.heap.size A2 c2 out rfl (ho.alloc _) _ (some ⟨wr.heap.size, 0, none⟩) 1 1 [⟨false, n, .empty⟩] rfl rfl (by first | exact rdP_one wr ⟨false, n, .empty⟩ _ rfl | fail) (by simp; omega) (by simp; omega) ?_; intro A4 c4 L4 w4 hL4 ho4 hg4 hat4; have HL4 := Lib.hid hL4; clear hL4; have hb4 : Below w.heap.size w w4 := below_grow (hb.alloc hbz _) hg4 (fun g hg => (ho.blk_ge g hg).1) (by simp; omega))
              go_roundw
              case rel => exact ⟨A4, c4, L4, k + 1, rfl, by go_num, ho4, hb4, by have := HOK.out; rw [HL4.out]; simp; omega, by omega, Lib.hid (by rw [HL4.out]; exact HKN.out)⟩
              case measure => simp [intOf]; omega
            · have HX := Lib.hid (show ((k + 1 + (x - 16) : Nat) : Int) = (k : Int) + 1 + max ((x : Int) - 16) 0 from by omega)
              go_wp2_with (at_builtin; refine wpList_append_p _ rfl (.tmp 104) (.tmp 107) rfl w.heap.size A2 c2 out rfl (ho.alloc _) _ (some ⟨wr.heap.size, 0, none⟩) 1 1 [⟨false, n, .empty⟩] rfl rfl (by first | exact rdP_one wr ⟨false, n, .empty⟩ _ rfl | fail) (by simp; omega) (by simp; omega) ?_; intro A4 c4 L4 w4 hL4 ho4 hg4 hat4; have HL4 := Lib.hid hL4; clear hL4; have hb4 : Below w.heap.size w w4 := below_grow (hb.alloc hbz _) hg4 (fun g hg => (ho.blk_ge g hg).1) (by simp; omega))
              go_roundw
              case rel => exact ⟨A4, c4, L4, k + 1 + (x - 16), rfl, by rw [HX.out], ho4, hb4, by have := HOK.out; rw [HL4.out]; simp; omega, by omega, Lib.hid (by rw [HL4.out]; exact HKN.out)⟩
              case measure => simp [intOf]; omega
    · skip
      have hkl : b.length ≤ k := by omega
      obtain ⟨hA, hS, _⟩ := HK.out
      have hpo : ∀ p ∈ out, PartOk p := fun p hp => ⟨(hA p hp).1, by have := hS p hp; omega⟩
      have hkey : (Cod.key out).length ≤ 70368744177664 := by
        have h1 := key_few out b.length hS (fun p hp => (hA p hp).1)
        have h2 : out.length * (2 * b.length + 12) ≤ 70240 * (2 * 70000 + 12) := Nat.mul_le_mul (by omega) (by omega)
        omega
      have HPO := Lib.hid hpo
      have rb : RdB wr wr.heap.size (some ⟨0, 0, none⟩) [] := RdB.nil
      have hr : RdB wr wr.heap.size A b := (h.below hb (Nat.le_refl _)).more hb.size
      have hp : RdP wr wr.heap.size A2 out := ho.rd
      have HA := Lib.hid hA
      clear hpo hA hS rb h
      obtain ⟨Y, hY⟩ : ∃ Y : ByteArray, (⟨b.toArray⟩ : ByteArray) = Y := ⟨_, rfl⟩
      have HY := Lib.hid hY
      have keep0 := keep_r (c := c) hr hp ((Below.refl _ _).drew) hY
      clear hY
      by_cases hq : Cod.key out = b
      · have HQ := Lib.hid hq; clear hq
        go_wp2_with fail
        go_region_held (fun w' => (convert 25 9 (.slice A b.length c)).run Tryd.prog w' = .ok (.string Y) w' ∧ RdP w' w'.heap.size A2 out ∧ Below wr.heap.size wr w')
          (first | exact keep0 | exact keep_r hr hp B3 HY.out)
          (first
            | (go_at_call 73; refine (rkey_any A2 c2 out _ (by go_split_ands; assumption) HPO.out (by omega) hkey).mono ?_; rintro e w3 ⟨A3, c3, rfl, ho3, hb3⟩; have q3 := strB_at (c := c3) ho3.rd (X := Y) (by rw [HQ.out]; exact HY.out); have B3 := Below.trans (b := _) (by go_split_ands; assumption : Below wr.heap.size wr _) (hb3.mono (by go_split_ands; exact Below.size (by assumption)))))
        go_wp2_with fail
        go_ret2
        have hz := hb.size
        exact ⟨hb.trans (B3.mono hz), .inl ⟨out, HA.out, HQ.out, A2, c2, rfl, (hp.below B3 (Nat.le_refl _)).more B3.size⟩⟩
      · have HE := Lib.hid (knows_end HK.out hkl hq)
        obtain ⟨X, hX⟩ : ∃ X : ByteArray, (⟨(Cod.key out).toArray⟩ : ByteArray) = X := ⟨_, rfl⟩
        have hne : (X.toList == Y.toList) = false := str_ne hX HY.out hq
        have HX := Lib.hid hX; clear hX hq hkl
        go_wp2_with fail
        go_region_held (fun w' => (convert 25 9 (.slice A b.length c)).run Tryd.prog w' = .ok (.string Y) w' ∧ RdP w' w'.heap.size A2 out ∧ Below wr.heap.size wr w')
          (first | exact keep0 | exact keep_r hr hp B3 HY.out)
          (first
            | (go_at_call 73; refine (rkey_any A2 c2 out _ (by go_split_ands; assumption) HPO.out (by omega) hkey).mono ?_; rintro e w3 ⟨A3, c3, rfl, ho3, hb3⟩; have q3 := strB_at (c := c3) ho3.rd (X := X) HX.out; have B3 := Below.trans (b := _) (by go_split_ands; assumption : Below wr.heap.size wr _) (hb3.mono (by go_split_ands; exact Below.size (by assumption)))))
        go_wp2_with fail
        go_ret2
        have hz := hb.size
        exact ⟨hb.trans (B3.mono hz), .inr ⟨HE.out, rfl⟩⟩
end Go.Proofs.YtgafionfojnieaaDoor
