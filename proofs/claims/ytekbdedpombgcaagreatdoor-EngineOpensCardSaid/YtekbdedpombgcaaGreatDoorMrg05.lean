/- Parts of the proof, one behind the other: Contracts of Number, both.; Contracts of Int and Text, both.; Contracts of frames that are made: the program's and the reference's Put.; slices.Clone at bytes; the contracts of TakeNumber, both.; The contract of the reference's TakeNumber.; TakeNumber, the program's and the reference's, with more told of the rest: its capacity and its block.; The contracts of TakeInt, both.; The reference's frame, the way known. -/
import Derived.Test.YtekbdedpombgcaaGreatDoorMrg02
import Derived.Test.YtekbdedpombgcaaGreatDoorMrg04
namespace Go.Proofs.YtekbdedpombgcaaGreatDoor
open Go.RowKit

theorem u8_or_128 {x : Int} (h0 : 0 ≤ x) (h1 : x < 128) : bits .or .u8 x 128 = x + 128 := by
  obtain ⟨n, rfl⟩ := Int.eq_ofNat_of_zero_le h0
  have := u8_or_nat n 128 (by omega) (by omega)
  rw [show ((128 : Nat) : Int) = 128 from rfl] at this
  rw [this, Nat.or_comm, nat_join 7 128 n (by decide) (by omega)]
  omega


set_option maxHeartbeats 1000000 in
theorem number_any (n : Nat) (hn : n < 18446744073709551616) (w : World) :
    Calls Tryz.prog 112 #[.int .u64 (n : Int)] w (GivesB w (Cod.number n)) := by
  have hb := byte_of (x := (n : Int) % 128) (by omega) (by omega)
  have HB := Lib.hid hb; clear hb
  go_enter Tryz.func112, Tryz.ntmps112
  go_wp2
  go_loopw [0, 3] (fun m v wr => ∃ (k : Nat) (A : Option Addr) (c : Nat) (L : List UInt8), k < 18446744073709551616 ∧ m = .int .u64 (k : Int) ∧ v = .slice A L.length c ∧ Own wr w.heap.size 5 A c L ∧ Below w.heap.size w wr ∧ Hid (Cod.number n = Cod.hi k ++ L.reverse)) (fun m _ _ => (intOf m).toNat)
  case atStart =>
    refine ⟨n / 128, some ⟨w.heap.size, 0, none⟩, 1, [UInt8.ofNat ((n : Int) % 128).toNat], by omega, by go_num, rfl, own_one HB.out, (Below.refl _ _).alloc (Nat.le_refl _) _, Lib.hid ?_⟩
    have : ((n : Int) % 128).toNat = n % 128 := by omega
    rw [this]; rfl
  case round =>
    obtain ⟨k, A, c, L, hk, rfl, rfl, ho, hbl, HE⟩ := hrel
    have hlen : L.length ≤ 10 := by
      have h := Cod.number_len hn
      rw [HE.out, List.length_append, List.length_reverse] at h
      omega
    by_cases h0 : k = 0
    · subst h0
      have hE : Cod.number n = L.reverse := by rw [HE.out, Cod.hi_zero]; rfl
      have H2 := Lib.hid hE; clear hE
      go_wp2_with fail
      refine (reverse_any _ _ _ _ _ ho (by omega)).mono ?_
      rintro e w1 ⟨rfl, ho1, hg1⟩
      have hbl1 := below_grow hbl hg1 (fun g hg => (ho.blk_ge g hg).1) hbl.size
      go_wp2_with fail
      go_ret
      refine ⟨A, c, ?_, ?_, hbl1⟩
      · exact ret_slice (by rw [H2.out, List.length_reverse])
      · rw [H2.out]; exact ho1
    · have hor := u8_or_128 (x := (k : Int) % 128) (by omega) (by omega)
      have hb := byte_of (x := (k : Int) % 128 + 128) (by omega) (by omega)
      have HB2 := Lib.hid hb; clear hb
      have hk0 : 0 < (k : Int) := by omega
      go_wp2_with (at_builtin; refine wpList_append_b _ rfl _ _ bt rfl w.heap.size A c L rfl (ho.alloc _) _ (some ⟨wr.heap.size, 0, none⟩) 1 1 [UInt8.ofNat ((k : Int) % 128 + 128).toNat] rfl rfl (rdB_one (by simp) HB2.out (by simp)) (by simp; omega) (by have := hbl.size; simp; omega) ?_; intro A' c' L' w1 hL ho1 hg1 _; have HL := Lib.hid hL; clear hL)
      have hbl1 : Below w.heap.size w w1 := below_grow (hbl.alloc hbl.size _) hg1 (fun g hg => (ho.blk_ge g hg).1) (by have := hbl.size; simp; omega)
      go_roundw
      case rel =>
        refine ⟨k / 128, A', c', L', by omega, by go_num, rfl, ho1, hbl1, Lib.hid ?_⟩
        have e1 : ((k : Int) % 128 + 128).toNat = k % 128 + 128 := by omega
        rw [HE.out, HL.out, Cod.hi_pos h0, e1]
        simp
      case measure => simp [intOf]; omega

end Go.Proofs.YtekbdedpombgcaaGreatDoor

namespace Go.Proofs.YtekbdedpombgcaaGreatDoor
open Go.RowKit

theorem number_z (x : Int) (n : Nat) (h : x = (n : Int)) (h1 : x < 18446744073709551616) (w : World) : Calls Tryz.prog 112 #[.int .u64 x] w (GivesB w (Cod.number n)) := by
  subst h
  exact number_any n (by omega) w
theorem text_any (A : Option Addr) (c : Nat) (l : List UInt8) (w : World) (h : RdB w w.heap.size A l) (hl : l.length ≤ 70368744177664) :
    Calls Tryz.prog 114 #[.slice A l.length c] w (GivesB w (Cod.text l)) := by
  have hn := Cod.number_len (n := l.length) (by omega)
  go_enter Tryz.func114, Tryz.ntmps114
  go_wp2_with fail
  refine (number_any l.length (by omega) _).mono ?_
  rintro e w1 ⟨A1, c1, rfl, ho, hb⟩
  have hr := h.below hb (Nat.le_refl _)
  go_wp2_with (at_builtin; refine wpList_append_b _ rfl _ _ bt rfl w.heap.size A1 c1 (Cod.number l.length) rfl ho _ A l.length c l rfl rfl hr (by omega) hb.size ?_; intro A' c' L' w2 hL ho1 hg1 _; have HL := Lib.hid hL; clear hL)
  have hb2 := below_grow hb hg1 (fun g hg => (ho.blk_ge g hg).1) hb.size
  go_ret
  have e : L' = Cod.text l := HL.out
  refine ⟨A', c', ret_slice (by rw [e]), by rw [← e]; exact ho1, hb2⟩
end Go.Proofs.YtekbdedpombgcaaGreatDoor

namespace Go.Proofs.YtekbdedpombgcaaGreatDoor
open Go.RowKit

namespace Frm
/-- Four bytes of a number, the highest first. -/
def be4 (n : Nat) : List UInt8 := [UInt8.ofNat (n / 16777216 % 256), UInt8.ofNat (n / 65536 % 256), UInt8.ofNat (n / 256 % 256), UInt8.ofNat (n % 256)]
def head (k : UInt8) (b : List UInt8) : List UInt8 := k :: Cod.text b
/-- A frame. -/
def put (k : UInt8) (b : List UInt8) : List UInt8 := head k b ++ be4 (Chk.sum (head k b))
end Frm
theorem byteMod (n : Nat) (x : Int) (e : x = ((n % 256 : Nat) : Int)) : ((UInt8.ofNat (n % 256)).toNat : Int) = x := by
  rw [e, UInt8.toNat_ofNat', Nat.mod_eq_of_lt (Nat.mod_lt _ (by decide))]
theorem rd_byte (w : World) (x : Int) (b : UInt8) (hb : (b.toNat : Int) = x) (H : Nat) (hH : H = w.heap.size) : RdB (w.alloc (.cells #[.int .u8 x] 5)) (H + 1) (some ⟨H, 0, none⟩) [b] := by
  subst hH
  have := rdB_one (w := w.alloc (.cells #[.int .u8 x] 5)) (g := w.heap.size) (x := x) (b := b) (by simp) hb (by simp)
  simpa using this
/-- Bytes of its own, and OK; or none, and that the argument is none. -/
def GivesP (w : World) (ok : Bool) (l : List UInt8) (e : Ending) (w' : World) : Prop := Below w.heap.size w w' ∧
  ((ok = false ∧ e = .returned (.tuple #[.slice none 0 0, .int .i64 1])) ∨ (ok = true ∧ ∃ A c, e = .returned (.tuple #[.slice A l.length c, .int .i64 0]) ∧ Own w' w.heap.size 5 A c l))
set_option maxHeartbeats 2000000 in
theorem fput_any (k : UInt8) (A : Option Addr) (c : Nat) (b : List UInt8) (w : World) (h : RdB w w.heap.size A b) (hl : b.length ≤ 70368744177664) :
    Calls Tryz.prog 115 #[.int .u8 (k.toNat : Int), .slice A b.length c] w (GivesP w (decide (b.length ≤ 65536)) (Frm.put k b)) := by
  by_cases hbig : 65536 < b.length
  · have d0 : decide (b.length ≤ 65536) = false := by rw [decide_eq_false_iff_not]; omega
    rw [d0]
    go_enter Tryz.func115, Tryz.ntmps115
    go_wp2_with fail
    go_ret2
    exact ⟨Below.refl _ _, .inl ⟨rfl, rfl⟩⟩
  · have d0 : decide (b.length ≤ 65536) = true := by rw [decide_eq_true_eq]; omega
    rw [d0]
    have hb6 : b.length ≤ 65536 := by omega
    clear hbig d0 hl
    obtain ⟨K, hK⟩ : ∃ K : Nat, K = k.toNat := ⟨_, rfl⟩
    rw [← hK]
    have HK := Lib.hid hK; clear hK
    have HT := Lib.hid (fun o => text_any A c b (w.alloc o) ((h.alloc (Nat.le_refl _) o).more (by simp)) (by omega))
    have hnl := Cod.number_len (n := b.length) (by omega)
    have hT : (Frm.head k b).length ≤ 65600 := by unfold Frm.head Cod.text; simp; omega
    clear h hnl
    go_enter Tryz.func115, Tryz.ntmps115
    go_wp2_with fail
    have HN := Lib.hid (own_one (w := w) (x := (K : Int)) (b := k) (by rw [HK.out]))
    refine (HT.out _).mono ?_
    rintro e w1 ⟨A1, c1, rfl, ho, hb⟩
    have HO := Lib.hid ho; have HB := Lib.hid hb
    have hz1 : w.heap.size + 1 ≤ w1.heap.size := by have := hb.size; simpa using this
    clear ho hb
    go_wp2_with (at_builtin; refine wpList_append_b _ rfl _ _ bt rfl w.heap.size (some ⟨w.heap.size, 0, none⟩) 1 [k] rfl (HN.out.below HB.out) _ A1 (Cod.text b).length c1 (Cod.text b) rfl rfl HO.out.rd (by simp [Frm.head] at hT ⊢; omega) (by omega) ?_)
    intro A2 c2 L w2 hL ho2 hg2 _
    have hL' : L = Frm.head k b := hL
    subst hL'
    have HO2 := Lib.hid ho2
    have HB2 : Hid (Below w.heap.size w w2) := Lib.hid (below_grow (((Below.refl _ _).alloc (Nat.le_refl _) _).trans (HB.out.mono (by simp))) hg2 (fun g hg => by simp [blk] at hg; omega) (by omega))
    have hz2 : w.heap.size ≤ w2.heap.size := HB2.out.size
    have KS := Lib.hid (chksum_any A2 c2 (Frm.head k b) w2 HO2.out.rd (by omega))
    have hS := Chk.sum_lt (Frm.head k b)
    obtain ⟨S, hSS⟩ : ∃ S, S = Chk.sum (Frm.head k b) := ⟨_, rfl⟩
    obtain ⟨F, hF⟩ : ∃ F, F = Frm.head k b := ⟨_, rfl⟩
    have HP : Hid (Frm.put k b = F ++ Frm.be4 S) := Lib.hid (by rw [hSS, hF]; rfl)
    rw [← hSS] at KS hS
    rw [← hF] at KS HO2 hT ⊢
    clear hSS hF ho2 hg2 HT
    go_wp2_with fail
    refine KS.out.mono ?_
    rintro e w3 ⟨rfl, hb3⟩
    have HO3 : Hid (Own w3 w.heap.size 5 A2 c2 F) := Lib.hid (HO2.out.below hb3)
    have HB3 : Hid (Below w.heap.size w w3) := Lib.hid (HB2.out.trans (hb3.mono hz2))
    have hz3 : w.heap.size ≤ w3.heap.size := HB3.out.size
    clear hb3
    go_wp2_with fail
    go_loopw [6, 19] (fun v i wr => ∃ (j : Nat) (A3 : Option Addr) (c3 : Nat) (L : List UInt8), j ≤ 4 ∧ i = .int .i64 (j : Int) ∧ v = .slice A3 L.length c3 ∧ Hid (L = F ++ (Frm.be4 S).take j) ∧ Hid (Own wr w.heap.size 5 A3 c3 L) ∧ Hid (Below w.heap.size w wr)) (fun _ i _ => 4 - (intOf i).toNat)
    case atStart => exact ⟨0, A2, c2, F, by omega, rfl, rfl, Lib.hid (by simp), HO3, HB3⟩
    case round =>
      obtain ⟨j, A3, c3, L, hj, rfl, rfl, HL, HO4, HB4⟩ := hrel
      have hlen : L.length ≤ 65700 := by rw [HL.out]; simp [Frm.be4]; omega
      have hzr : w.heap.size ≤ wr.heap.size := HB4.out.size
      have hcase : j = 0 ∨ j = 1 ∨ j = 2 ∨ j = 3 ∨ j = 4 := by omega
      clear hj
      rcases hcase with rfl | rfl | rfl | rfl | rfl
      · go_wp2_with (at_builtin; refine wpList_append_b _ rfl _ _ bt rfl w.heap.size A3 c3 L rfl (HO4.out.alloc _) (wr.heap.size + 1) (some ⟨wr.heap.size, 0, none⟩) 1 1 [UInt8.ofNat (S / 16777216 % 256)] rfl rfl (by exact rd_byte _ _ _ (byteMod _ _ (by first | omega | (rw [IntKind.wrap_u8]; omega))) _ rfl) (by simp; omega) (by simp; omega) ?_)
        intro A5 c5 L5 w5 hL5 ho5 hg5 _
        have HL5 : Hid (L5 = F ++ (Frm.be4 S).take 1) := Lib.hid (by rw [hL5, HL.out, List.append_assoc]; rfl)
        have HO5 := Lib.hid ho5
        have HB5 : Hid (Below w.heap.size w w5) := Lib.hid (below_grow (HB4.out.alloc hzr _) hg5 (fun g hg => (HO4.out.blk_ge g hg).1) (by simp; omega))
        clear hL5 ho5 hg5
        go_wp2_with fail
        go_round
        case rel => exact ⟨1, A5, c5, L5, by omega, by go_num, rfl, HL5, HO5, HB5⟩
        case measure => simp [intOf]
      · go_wp2_with (at_builtin; refine wpList_append_b _ rfl _ _ bt rfl w.heap.size A3 c3 L rfl (HO4.out.alloc _) (wr.heap.size + 1) (some ⟨wr.heap.size, 0, none⟩) 1 1 [UInt8.ofNat (S / 65536 % 256)] rfl rfl (by exact rd_byte _ _ _ (byteMod _ _ (by first | omega | (rw [IntKind.wrap_u8]; omega))) _ rfl) (by simp; omega) (by simp; omega) ?_)
        intro A5 c5 L5 w5 hL5 ho5 hg5 _
        have HL5 : Hid (L5 = F ++ (Frm.be4 S).take 2) := Lib.hid (by rw [hL5, HL.out, List.append_assoc]; rfl)
        have HO5 := Lib.hid ho5
        have HB5 : Hid (Below w.heap.size w w5) := Lib.hid (below_grow (HB4.out.alloc hzr _) hg5 (fun g hg => (HO4.out.blk_ge g hg).1) (by simp; omega))
        clear hL5 ho5 hg5
        go_wp2_with fail
        go_round
        case rel => exact ⟨2, A5, c5, L5, by omega, by go_num, rfl, HL5, HO5, HB5⟩
        case measure => simp [intOf]
      · go_wp2_with (at_builtin; refine wpList_append_b _ rfl _ _ bt rfl w.heap.size A3 c3 L rfl (HO4.out.alloc _) (wr.heap.size + 1) (some ⟨wr.heap.size, 0, none⟩) 1 1 [UInt8.ofNat (S / 256 % 256)] rfl rfl (by exact rd_byte _ _ _ (byteMod _ _ (by first | omega | (rw [IntKind.wrap_u8]; omega))) _ rfl) (by simp; omega) (by simp; omega) ?_)
        intro A5 c5 L5 w5 hL5 ho5 hg5 _
        have HL5 : Hid (L5 = F ++ (Frm.be4 S).take 3) := Lib.hid (by rw [hL5, HL.out, List.append_assoc]; rfl)
        have HO5 := Lib.hid ho5
        have HB5 : Hid (Below w.heap.size w w5) := Lib.hid (below_grow (HB4.out.alloc hzr _) hg5 (fun g hg => (HO4.out.blk_ge g hg).1) (by simp; omega))
        clear hL5 ho5 hg5
        go_wp2_with fail
        go_round
        case rel => exact ⟨3, A5, c5, L5, by omega, by go_num, rfl, HL5, HO5, HB5⟩
        case measure => simp [intOf]
      · go_wp2_with (at_builtin; refine wpList_append_b _ rfl _ _ bt rfl w.heap.size A3 c3 L rfl (HO4.out.alloc _) (wr.heap.size + 1) (some ⟨wr.heap.size, 0, none⟩) 1 1 [UInt8.ofNat (S % 256)] rfl rfl (by exact rd_byte _ _ _ (byteMod _ _ (by first | omega | (rw [IntKind.wrap_u8]; omega))) _ rfl) (by simp; omega) (by simp; omega) ?_)
        intro A5 c5 L5 w5 hL5 ho5 hg5 _
        have HL5 : Hid (L5 = F ++ (Frm.be4 S).take 4) := Lib.hid (by rw [hL5, HL.out, List.append_assoc]; rfl)
        have HO5 := Lib.hid ho5
        have HB5 : Hid (Below w.heap.size w w5) := Lib.hid (below_grow (HB4.out.alloc hzr _) hg5 (fun g hg => (HO4.out.blk_ge g hg).1) (by simp; omega))
        clear hL5 ho5 hg5
        go_wp2_with fail
        go_round
        case rel => exact ⟨4, A5, c5, L5, by omega, by go_num, rfl, HL5, HO5, HB5⟩
        case measure => simp [intOf]
      · go_wp2_with fail
        go_ret2
        refine ⟨HB4.out, .inr ⟨rfl, A3, c3, ?_, ?_⟩⟩
        · rw [HP.out, show F ++ Frm.be4 S = L from HL.out.symm]; rfl
        · rw [HP.out, show F ++ Frm.be4 S = L from HL.out.symm]; exact HO4.out
end Go.Proofs.YtekbdedpombgcaaGreatDoor

namespace Go.Proofs.YtekbdedpombgcaaGreatDoor
open Go.RowKit

theorem own_empty (w : World) : Own (w.alloc (.cells #[] 5)) w.heap.size 5 (some ⟨w.heap.size, 0, none⟩) 0 [] :=
  World.ownsRow_lit (e := 5) (size := 1) w #[] 0 (Nat.le_refl _) (by unfold maxLen; omega) rfl

set_option maxHeartbeats 400000 in
theorem clone_any (A : Option Addr) (c : Nat) (l : List UInt8) (w : World) (h : RdB w w.heap.size A l) (hl : l.length ≤ 140737488355328) :
    Calls Tryz.prog 35 #[.slice A l.length c] w fun e w' => ∃ A' c', e = .returned (.slice A' l.length c') ∧ Own w' w.heap.size 5 A' c' l ∧ Below w.heap.size w w' := by
  cases A with
  | none =>
    have hl0 : l = [] := by
      cases l with
      | nil => rfl
      | cons b l => obtain ⟨ad, h, _⟩ := h.2 (by simp); cases h
    subst hl0
    have hq : (binOp .eql 34 (.slice none 0 c) (.slice none 0 0)).run Tryz.prog w = .ok (.bool true) w := Lib.run_eql_slice_nil w _ _ none 0 c 0 0 bt.sl
    go_enter Tryz.func35, Tryz.ntmps35
    go_wp2_with fail
    go_ret
    exact ⟨none, 0, rfl, Own.nil _ _ _, Below.refl _ _⟩
  | some ad =>
    have hq : (binOp .eql 34 (.slice (some ad) l.length c) (.slice none 0 0)).run Tryz.prog w = .ok (.bool false) w := Lib.run_eql_slice_nil w _ _ (some ad) l.length c 0 0 bt.sl
    go_enter Tryz.func35, Tryz.ntmps35
    go_wp2_with (at_builtin; refine wpList_append_b _ rfl (.tmp 5) (.tmp 6) bt rfl w.heap.size (some ⟨w.heap.size, 0, none⟩) 0 [] rfl (own_empty w) _ (some ad) l.length c l rfl rfl (RdB.alloc h (Nat.le_refl _) _) (by simpa using hl) (by simp) ?_; intro A' c' L' w2 hL ho1 hg1 _; have HL := Lib.hid hL; clear hL)
    go_ret
    have e : L' = l := by rw [HL.out]; rfl
    subst e
    exact ⟨A', c', rfl, ho1, ((Below.refl _ _).alloc (Nat.le_refl _) _).grown hg1 (by simp) (fun k hk => by simp [blk] at hk; omega)⟩

theorem low7 {x : Nat} (h : x < 256) : bits .andNot .u8 (x : Int) 128 = (x : Int) % 128 := by
  rw [show (128 : Int) = ((128 : Nat) : Int) from rfl, u8_andNot_nat x 128 (by omega) (by omega)]
  have : x &&& 127 = x % 128 := Nat.and_two_pow_sub_one_eq_mod x 7
  have e : (2 ^ 8 - 1 - 128 : Nat) = 127 := rfl
  simp [this]
theorem join7 {n x : Nat} (hn : n < 144115188075855872) : bits .or .u64 ((n : Int) * 128) ((x : Int) % 128) = ((n * 128 + x % 128 : Nat) : Int) := by
  have e1 : ((n : Int) * 128) = ((n * 128 : Nat) : Int) := by omega
  have e2 : ((x : Int) % 128) = ((x % 128 : Nat) : Int) := by omega
  rw [e1, e2, u64_or_nat _ _ (by omega) (by omega), nat_join7 (n * 128) (x % 128) (by omega) (by omega)]

/-- Where byte k lies. -/
theorem RdB.at_ {w : World} {B : Nat} {A : Option Addr} {l : List UInt8} (h : RdB w B A l) {k : Nat} (hk : k < l.length) : ∃ g off, A = some ⟨g, off, none⟩ ∧ g < B ∧ w.cell? ⟨g, off + k, none⟩ = some (.int .u8 (l[k].toNat : Int)) := by
  obtain ⟨ad, hA, hb, hc⟩ := h.cell hk
  obtain ⟨g, off, spot⟩ := ad
  have hsp : spot = none := by
    cases spot with
    | none => rfl
    | some s =>
      exfalso
      obtain ⟨ad2, hA2, _, hc2⟩ := h.cell (k := 0) (by omega)
      rw [hA] at hA2
      injection hA2 with hA2
      subst hA2
      simp only [Addr.add, if_pos] at hc2
      unfold World.cell? at hc2
      simp only [Option.isSome_some, if_true] at hc2
      split at hc2 <;> cases hc2
  subst hsp
  have hadd : (⟨g, off, none⟩ : Addr).add k = ⟨g, off + k, none⟩ := by unfold Addr.add; split <;> simp_all
  rw [hadd] at hc
  exact ⟨g, off, hA, hb, hc⟩
theorem RdB.cut {w : World} {B g off : Nat} {l : List UInt8} (h : RdB w B (some ⟨g, off, none⟩) l) {k c : Nat} (hk : k ≤ l.length) (hc : l.length ≤ c) : RdB w B (if c = k then some ⟨g, off, none⟩ else some ⟨g, off + k, none⟩) (l.drop k) := by
  have := h.drop hk hc
  have hadd : (⟨g, off, none⟩ : Addr).add k = ⟨g, off + k, none⟩ := by unfold Addr.add; split <;> simp_all
  simp only [Option.map_some, hadd] at this
  exact this
theorem clone_cut (A : Option Addr) (n c : Nat) (l : List UInt8) (w : World) (hn : n = l.length) (h : RdB w w.heap.size A l) (hl : l.length ≤ 140737488355328) :
    Calls Tryz.prog 35 #[.slice A n c] w fun e w' => ∃ A' c', e = .returned (.slice A' l.length c') ∧ Own w' w.heap.size 5 A' c' l ∧ Below w.heap.size w w' := by
  subst hn; exact clone_any A c l w h hl
theorem own_cap {w : World} {B : Nat} {A : Option Addr} {c : Nat} {l : List UInt8} (h : Own w B 5 A c l) : c ≤ 9223372036854775807 := by
  rcases h.2 with ⟨hv, _⟩ | ⟨g, cap, cur, hv, _, _, _, hc, _⟩
  · injection hv with _ _ h3; omega
  · injection hv with _ _ h3; unfold maxLen at hc; omega

end Go.Proofs.YtekbdedpombgcaaGreatDoor

namespace Go.Proofs.YtekbdedpombgcaaGreatDoor
open Go.RowKit

end Go.Proofs.YtekbdedpombgcaaGreatDoor

namespace Go.Proofs.YtekbdedpombgcaaGreatDoor
open Go.RowKit

/-- B's block is A's, or one of bytes, from n on. -/
def Frs (w : World) (n : Nat) (A B : Option Addr) : Prop := ∀ g, blk B = some g → blk A = some g ∨ (n ≤ g ∧ ∃ cs fr, w.heap[g]? = some (.cells cs 5 fr))
theorem Frs.self (w : World) (n : Nat) (A : Option Addr) : Frs w n A A := fun _ h => .inl h
theorem Frs.nil (w : World) (n : Nat) (A : Option Addr) : Frs w n A none := fun g h => by cases h
theorem own_tag {w : World} {base c g : Nat} {e : TypeId} {A : Option Addr} {l : List UInt8} (h : Own w base e A c l) (hg : blk A = some g) : base ≤ g ∧ ∃ cs fr, w.heap[g]? = some (.cells cs e fr) := by
  refine ⟨(h.blk_ge g hg).1, ?_⟩
  rcases h.2 with ⟨hv, _⟩ | ⟨g', cap, cur, hv, _, hh, _⟩
  · injection hv with hv; subst hv; cases hg
  · injection hv with hv
    subst hv
    injection hg with hg
    subst hg
    exact ⟨_, _, hh⟩
theorem Own.frs {w : World} {base c : Nat} {A0 A : Option Addr} {l : List UInt8} (h : Own w base 5 A c l) : Frs w base A0 A := fun _ hg => .inr (own_tag h hg)
theorem Frs.below {w w' : World} {n : Nat} {A B : Option Addr} (h : Frs w n A B) (hb : Below w.heap.size w w') : Frs w' n A B := fun g hg => by
  rcases h g hg with h1 | ⟨h1, cs, fr, h2⟩
  · exact .inl h1
  · exact .inr ⟨h1, cs, fr, (hb.block g (Array.getElem?_eq_some_iff.1 h2).1).trans h2⟩
theorem Frs.trans {w w' : World} {n m : Nat} {A B C : Option Addr} (h : Frs w n A B) (h2 : Frs w' m B C) (hb : Below w.heap.size w w') (hm : n ≤ m) : Frs w' n A C := fun g hg => by
  rcases h2 g hg with h3 | ⟨h3, h4⟩
  · exact h.below hb g h3
  · exact .inr ⟨by omega, h4⟩
theorem Frs.add {w : World} {n k : Nat} {A : Option Addr} {ad : Addr} (h : Frs w n A (some ad)) : Frs w n A (some (ad.add k)) := fun g hg => h g (by rw [← hg]; simp [blk, block_of_add])
def TakenF (w : World) (A0 : Option Addr) (v : Option (Nat × List UInt8)) (e : Ending) (w' : World) : Prop :=
  Below w.heap.size w w' ∧ match v with
  | none => e = .returned (.tuple #[.int .u64 0, .slice none 0 0, .int .i64 3])
  | some (n, r) => ∃ A c, e = .returned (.tuple #[.int .u64 (n : Int), .slice A r.length c, .int .i64 0]) ∧ r.length ≤ c ∧ c ≤ 9223372036854775807 ∧ RdB w' w'.heap.size A r ∧ Frs w' w.heap.size A0 A
theorem takenF_none {w w' : World} {A0 : Option Addr} {e : Ending} (h : TakenF w A0 none e w') : Below w.heap.size w w' ∧ e = .returned (.tuple #[.int .u64 0, .slice none 0 0, .int .i64 3]) := h
theorem takenF_some {w w' : World} {A0 : Option Addr} {e : Ending} {n : Nat} {r : List UInt8} (h : TakenF w A0 (some (n, r)) e w') : Below w.heap.size w w' ∧ ∃ A c, e = .returned (.tuple #[.int .u64 (n : Int), .slice A r.length c, .int .i64 0]) ∧ r.length ≤ c ∧ c ≤ 9223372036854775807 ∧ RdB w' w'.heap.size A r ∧ Frs w' w.heap.size A0 A := h
set_option maxHeartbeats 1000000 in
set_option maxRecDepth 100000 in
theorem takeF_any (A : Option Addr) (c : Nat) (b : List UInt8) (w : World) (h : RdB w w.heap.size A b) (hl : b.length ≤ 140737488355328) (hc : b.length ≤ c) (hcc : c ≤ 9223372036854775807) :
    Calls Tryz.prog 39 #[.slice A b.length c] w (TakenF w A (Cod.take b)) := by
  go_enter Tryz.func39, Tryz.ntmps39
  go_wp2
  go_loop [5, 10] (fun v i => ∃ k n : Nat, k ≤ b.length ∧ i = .int .i64 (k : Int) ∧ v = .int .u64 (n : Int) ∧ n < 18446744073709551616 ∧ Hid (Cod.take b = Cod.tgo (Cod.z0 b) k n (b.drop k))) (fun _ i => b.length - (intOf i).toNat)
  case atStart => exact ⟨0, 0, by omega, rfl, rfl, by omega, Lib.hid rfl⟩
  case round =>
    obtain ⟨k, n, hk, rfl, rfl, hn, HT⟩ := hrel
    by_cases hlt : k < b.length
    · obtain ⟨g, off, rfl, hab, hcell⟩ := h.at_ hlt
      obtain ⟨g', off', e0, _, hcell0⟩ := h.at_ (k := 0) (by omega)
      injection e0 with e0
      injection e0 with e1 e2
      subst e1 e2
      rw [Nat.add_zero] at hcell0
      by_cases h57 : (144115188075855872 : Int) ≤ (n : Int)
      · have e := HT.out
        rw [Cod.tgo_big (by omega)] at e
        have HE := Lib.hid e; clear e
        go_wp2
        refine bodyPost_ret (results_tmp3 rfl _ _ _) rfl ?_
        refine ⟨Below.refl _ _, ?_⟩
        rw [HE.out]; rfl
      · have hx := b[k].toNat_lt
        have hz := Cod.z0_int (b := b) (by omega)
        obtain ⟨y, hy⟩ : ∃ y, y = (b[0]'(by omega)).toNat := ⟨_, rfl⟩
        rw [← hy] at hcell0 hz
        clear hy
        by_cases hzk : Cod.z0 b = true ∧ 0 < k
        · obtain ⟨hz1, hk0⟩ := hzk
          have e := HT.out
          rw [hz1, Cod.tgo_z hk0] at e
          have HE := Lib.hid e; clear e
          rw [hz1] at hz
          go_wp2
          refine bodyPost_ret (results_tmp3 rfl _ _ _) rfl ?_
          refine ⟨Below.refl _ _, ?_⟩
          rw [HE.out]; rfl
        · have hzk' : Cod.z0 b = false ∨ k = 0 := by
            cases hz1 : Cod.z0 b with
            | false => exact .inl rfl
            | true => exact .inr (by simp [hz1] at hzk; omega)
          have hlow := low7 hx
          have hjoin := join7 (n := n) (x := b[k].toNat) (by omega)
          obtain ⟨m, hm⟩ : ∃ m, m = n * 128 + b[k].toNat % 128 := ⟨_, rfl⟩
          rw [← hm] at hjoin
          have hm2 : m < 18446744073709551616 := by omega
          have e := HT.out
          rw [Cod.drop_at b k hlt] at e
          by_cases hend : (b[k].toNat : Int) < 128
          · rw [Cod.tgo_end (by omega) hzk' (by omega), ← hm] at e
            have HE := Lib.hid e; clear e
            obtain ⟨x, hxx⟩ : ∃ x, x = b[k].toNat := ⟨_, rfl⟩
            rw [← hxx] at hlow hjoin hend hcell hx
            have hx2 : (x : Int) < 256 := by omega
            clear hm hxx hx
            have hn' : (n : Int) < 144115188075855872 := by omega
            have hm' : (m : Int) < 18446744073709551616 := by omega
            clear hn hm2
            by_cases hk0 : 0 < k
            · have hz1 : Cod.z0 b = false := hzk'.resolve_right (by omega)
              rw [hz1] at hz
              clear hzk hzk'
              have hr := h.cut (k := k + 1) (c := c) (by omega) hc
              have hq : b.length - (k + 1) = (b.drop (k + 1)).length := by simp
              have hs : (b.drop (k + 1)).length ≤ 140737488355328 := by simp; omega
              obtain ⟨r, hrr⟩ : ∃ r, r = b.drop (k + 1) := ⟨_, rfl⟩
              rw [← hrr] at hr hq hs HE
              have HR := Lib.hid hr
              have HQ := Lib.hid hq
              have HS := Lib.hid hs
              have HH := Lib.hid h
              clear hr hq hs hrr HT h
              go_wp2_with (go_at_call 35; refine (clone_cut (if c = k + 1 then some ⟨g, off, none⟩ else some ⟨g, off + (k + 1), none⟩) (b.length - (k + 1)) (c - (k + 1)) r w HQ.out HR.out HS.out).mono ?_; rintro e w1 ⟨A1, c1, rfl, ho1, hb1⟩; have HO := Lib.hid ho1; have HB := Lib.hid hb1; clear hn' hm' h57 hl hcc hjoin hlow hcell hcell0 ho1 hb1 hc hx2 hend hk hlt hab hz hk0)
              all_goals refine bodyPost_ret (results_tmp3 rfl _ _ _) rfl ?_
              all_goals refine ⟨HB.out, ?_⟩
              all_goals rw [HE.out]
              all_goals exact ⟨A1, c1, rfl, HO.out.cap, own_cap HO.out, HO.out.rd, HO.out.frs⟩
            · clear hz hzk hzk'
              have hr := h.cut (k := k + 1) (c := c) (by omega) hc
              have hq : b.length - (k + 1) = (b.drop (k + 1)).length := by simp
              have hs : (b.drop (k + 1)).length ≤ 140737488355328 := by simp; omega
              obtain ⟨r, hrr⟩ : ∃ r, r = b.drop (k + 1) := ⟨_, rfl⟩
              rw [← hrr] at hr hq hs HE
              have HR := Lib.hid hr
              have HQ := Lib.hid hq
              have HS := Lib.hid hs
              have HH := Lib.hid h
              clear hr hq hs hrr HT h
              go_wp2_with (go_at_call 35; refine (clone_cut (if c = k + 1 then some ⟨g, off, none⟩ else some ⟨g, off + (k + 1), none⟩) (b.length - (k + 1)) (c - (k + 1)) r w HQ.out HR.out HS.out).mono ?_; rintro e w1 ⟨A1, c1, rfl, ho1, hb1⟩; have HO := Lib.hid ho1; have HB := Lib.hid hb1; clear hn' hm' h57 hl hcc hjoin hlow hcell hcell0 ho1 hb1 hc hx2 hend hk hlt hab)
              all_goals refine bodyPost_ret (results_tmp3 rfl _ _ _) rfl ?_
              all_goals refine ⟨HB.out, ?_⟩
              all_goals rw [HE.out]
              all_goals exact ⟨A1, c1, rfl, HO.out.cap, own_cap HO.out, HO.out.rd, HO.out.frs⟩
          · rw [Cod.tgo_on (by omega) hzk' (by omega), ← hm] at e
            have HE := Lib.hid e; clear e
            obtain ⟨x, hxx⟩ : ∃ x, x = b[k].toNat := ⟨_, rfl⟩
            rw [← hxx] at hlow hjoin hend hcell hx
            have hx2 : (x : Int) < 256 := by omega
            clear hm hxx hx
            have hn' : (n : Int) < 144115188075855872 := by omega
            have hm' : (m : Int) < 18446744073709551616 := by omega
            clear hn
            by_cases hk0 : 0 < k
            · have hz1 : Cod.z0 b = false := hzk'.resolve_right (by omega)
              rw [hz1] at hz
              clear hzk hzk'
              go_wp2
              go_round
              case rel => exact ⟨k + 1, m, by omega, by go_num, rfl, by omega, HE⟩
              case measure => simp [intOf]; omega
            · clear hz hzk hzk'
              go_wp2
              go_round
              case rel => exact ⟨k + 1, m, by omega, by go_num, rfl, by omega, HE⟩
              case measure => simp [intOf]; omega
    · have e := HT.out
      rw [List.drop_eq_nil_of_le (by omega), Cod.tgo_nil] at e
      have HE := Lib.hid e; clear e
      go_wp2
      refine bodyPost_ret (results_tmp3 rfl _ _ _) rfl ?_
      refine ⟨Below.refl _ _, ?_⟩
      rw [HE.out]; rfl
end Go.Proofs.YtekbdedpombgcaaGreatDoor

namespace Go.Proofs.YtekbdedpombgcaaGreatDoor
open Go.RowKit

end Go.Proofs.YtekbdedpombgcaaGreatDoor

namespace Go.Proofs.YtekbdedpombgcaaGreatDoor
open Go.RowKit

end Go.Proofs.YtekbdedpombgcaaGreatDoor
