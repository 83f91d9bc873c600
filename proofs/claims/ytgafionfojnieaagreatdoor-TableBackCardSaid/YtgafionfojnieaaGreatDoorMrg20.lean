/- Parts of the proof, one behind the other: The contract of the program's Key.; The contract of the reference's Key.; 'awake', 'few', and the walk of the law CodeKeys. -/
import Derived.Test.YtgafionfojnieaaGreatDoorMrg15
import Derived.Test.YtgafionfojnieaaGreatDoorMrg14
import Derived.Test.YtgafionfojnieaaGreatDoorMrg19
import Derived.Deep.RegionHeld
namespace Go.Proofs.YtgafionfojnieaaGreatDoor
open Go.RowKit
open Lib (hid)
def PartOk (p : Pt) : Prop := p.n < 18446744073709551616 ∧ p.s.size ≤ 35184372088832
theorem below_two {B : Nat} {w w2 w3 w4 : World} {o1 o2 : Obj} (h2 : Below B w w2) (h3 : Below w2.heap.size w2 w3) (hs : B ≤ w2.heap.size) (h4 : Below ((w3.alloc o1).alloc o2).heap.size ((w3.alloc o1).alloc o2) w4) : Below B w w4 := by
 have k := h2.trans (h3.mono hs)
 have hz := Nat.le_trans hs h3.size
 exact ((k.alloc hz o1).alloc (by simp; omega) o2).trans (h4.mono (by simp; omega))
theorem own_two {B : Nat} {e : TypeId} {A : Option Addr} {c : Nat} {l : List UInt8} {w2 w3 w4 : World} {o1 o2 : Obj} (h : Own w2 B e A c l) (h3 : Below w2.heap.size w2 w3) (h4 : Below ((w3.alloc o1).alloc o2).heap.size ((w3.alloc o1).alloc o2) w4) : Own w4 B e A c l :=
 (((h.below h3).alloc o1).alloc o2).below h4
theorem rd_two {A : Option Addr} {l : List UInt8} {w3 : World} (o1 o2 : Obj) (h : RdB w3 w3.heap.size A l) : RdB ((w3.alloc o1).alloc o2) ((w3.alloc o1).alloc o2).heap.size A l :=
 ((h.alloc (Nat.le_refl _) o1).alloc (by simp) o2).more (by simp; omega)
theorem rd_0_255 (w : World) (H : Nat) (hH : w.heap.size = H) : RdB (w.alloc (.cells #[.int .u8 0, .int .u8 255] 5)) (w.alloc (.cells #[.int .u8 0, .int .u8 255] 5)).heap.size (some ⟨H, 0, none⟩) [0, 255] := by
 subst hH
 exact BlkB.rd (l := [0, 255]) (heap_alloc_new _ _)
theorem rd_0_0 (w : World) : RdB (w.alloc (.cells #[.int .u8 0, .int .u8 0] 5)) (w.alloc (.cells #[.int .u8 0, .int .u8 0] 5)).heap.size (some ⟨w.heap.size, 0, none⟩) [0, 0] :=
 BlkB.rd (l := [0, 0]) (heap_alloc_new _ _)
set_option maxHeartbeats 400000 in
set_option maxRecDepth 100000 in
theorem key_any (A : Option Addr) (c : Nat) (l : List Pt) (w : World) (h : RdP w w.heap.size A l) (hok : ∀ p ∈ l, PartOk p) (hll : l.length ≤ 9223372036854775807) (hlen : (Cod.key l).length ≤ 70368744177664) :
   Calls Tryz.prog 109 #[.slice A l.length c] w fun e w' => ∃ A' c', e = .returned (.slice A' (Cod.key l).length c') ∧ Own w' w.heap.size 5 A' c' (Cod.key l) ∧ Below w.heap.size w w' := by
 have HOK := hid hok; clear hok
 go_enter Tryz.func109, Tryz.ntmps109
 go_wp2
 go_loopw [3, 9] (fun v i wr => ∃ (k : Nat) (A1 : Option Addr) (c1 : Nat) (L : List UInt8), k ≤ l.length ∧ i = .int .i64 (k : Int) ∧ v = .slice A1 L.length c1 ∧ Hid (L = Cod.key (l.take k)) ∧ Own wr w.heap.size 5 A1 c1 L ∧ Below w.heap.size w wr) (fun _ i _ => l.length - (intOf i).toNat)
 case atStart => exact ⟨0, none, 0, [], by omega, rfl, rfl, hid rfl, Own.nil _ _ _, Below.refl _ _⟩
 case round =>
   obtain ⟨k, A1, c1, L, hk, rfl, rfl, HL, ho, hb⟩ := hrel
   by_cases hlt : k < l.length
   · obtain ⟨b, off, rfl, hbb, q0, q1, q2⟩ := (h.below hb (Nat.le_refl _)).at_ hlt
     have hle := Cod.key_take_le l k hlt
     rw [← HL.out] at hle
     obtain ⟨p, hp⟩ : ∃ p, p = l[k] := ⟨_, rfl⟩
     rw [← hp] at q0 q1 q2 hle
     have hpk := HOK.out p (by rw [hp]; exact List.getElem_mem _)
     have HP := hid hp; clear hp
     obtain ⟨t, n, s⟩ := p
     simp only at q0 q1 q2
     cases t with
     | true =>
       have e1 : Cod.partKey ⟨true, n, s⟩ = 32 :: (Esc.esc 0 [0, 255] s.data.toList ++ [0, 0]) := rfl
       rw [e1] at hle
       simp only [List.length_cons, List.length_append, List.length_nil] at hle
       have hlb : ∀ g, blk A1 = some g → g < wr.heap.size := fun g hg => (ho.blk_ge g hg).2
       have hgb : ∀ g, blk A1 = some g → w.heap.size ≤ g := fun g hg => (ho.blk_ge g hg).1
       have HLB := hid hlb; clear hlb
       have HGB := hid hgb; clear hgb
       have hs1 : s.size ≤ 35184372088832 := hpk.2
       have hbs := hb.size
       go_wp2_with (first
         | (at_builtin; refine wpList_append_b _ rfl (.tmp 15) (.tmp 16) bt rfl w.heap.size A1 c1 L rfl ((ho.alloc _).alloc _) _ (some ⟨wr.heap.size + 1, 0, none⟩) 1 1 [32] rfl rfl (rdB_one (x := 32) (by simp) rfl (by simp)) (by simp; omega) (by simp; omega) ?_; intro A2 c2 L2 w2 hL2 ho2 hg2 hat2; have HL2 := hid hL2; clear hL2; have hb2 : Below w.heap.size w w2 := below_grow ((hb.alloc hbs _).alloc (by simp; omega) _) hg2 HGB.out (by simp; omega); have x2 : w2.cell? ⟨wr.heap.size, 2, none⟩ = some (.string s) := hg2.cell (by simp) (fun e => absurd (HLB.out _ e.symm) (by simp)); have hz2 : wr.heap.size + 2 ≤ w2.heap.size := by have := hg2.size; simpa using this)
         | (with_reducible refine at_conv ?_; refine wpList_conv_b _ rfl (.tmp 20) bt Tryz.underlying9 rfl s rfl (by omega) ?_; intro cp w3 hcp1 hcp2 hr3 hb3 hz3)
         | (go_at_call 122; refine (replaceAll_n _ _ _ _ _ _ _ s.data.toList [0, 255] 0 _ (by simp) (by first | exact rd_two _ _ hr3 | fail) hcp1 hcp2 (by simp) (by first | exact rd_0_255 _ _ (by simp) | fail) rfl (by omega)).mono ?_; rintro e w4 ⟨A4, c4, rfl, ho4, hb4⟩; have ho24 := own_two ho2 hb3 hb4; have hb34 := below_two hb2 hb3 hb2.size hb4)
         | (at_builtin; refine wpList_append_b _ rfl (.tmp 18) (.tmp 24) bt rfl w.heap.size A2 c2 L2 rfl ho24 _ A4 _ c4 (Esc.esc 0 [0, 255] s.data.toList) rfl rfl ho4.rd (by rw [HL2.out]; simp; omega) hb34.size ?_; intro A5 c5 L5 w5 hL5 ho5 hg5 hat5; have HL5 := hid hL5; clear hL5; have hb5 : Below w.heap.size w w5 := below_grow hb34 hg5 (fun g hg => (ho24.blk_ge g hg).1) hb34.size)
         | (at_builtin; refine wpList_append_b _ rfl (.tmp 26) (.tmp 27) bt rfl w.heap.size A5 c5 L5 rfl (ho5.alloc _) _ (some ⟨w5.heap.size, 0, none⟩) 2 2 [0, 0] rfl rfl (by first | exact rd_0_0 _ | fail) (by rw [HL5.out, HL2.out]; simp; omega) (Nat.le_trans hb5.size (by simp)) ?_; intro A6 c6 L6 w6 hL6 ho6 hg6 hat6; have HL6 := hid hL6; clear hL6; have hb6 : Below w.heap.size w w6 := below_grow (hb5.alloc hb5.size _) hg6 (fun g hg => (ho5.blk_ge g hg).1) (Nat.le_trans hb5.size (by simp))))
       go_roundw
       case rel =>
         refine ⟨k + 1, A6, c6, L6, by omega, by go_num, rfl, hid ?_, ho6, hb6⟩
         rw [HL6.out, HL5.out, HL2.out, HL.out, Cod.key_take_succ l k hlt, ← HP.out, e1]
         simp
       case measure => simp [intOf]; omega
     | false =>
       have hn : n < 18446744073709551616 := hpk.1
       have e1 : Cod.partKey ⟨false, n, s⟩ = UInt8.ofNat (16 + (Cod.be n).length) :: Cod.be n := rfl
       rw [e1] at hle
       simp only [List.length_cons] at hle
       have hW := Cod.be_bits n hn
       have hW8 := Cod.be_len hn
       obtain ⟨W, hWW⟩ : ∃ W, W = (Cod.be n).length := ⟨_, rfl⟩
       rw [← hWW] at hW hW8 hle
       obtain ⟨T, hT⟩ : ∃ T, T = Lib.bitLen n := ⟨_, rfl⟩
       rw [← hT] at hW
       have hT1 : T ≤ 64 := by omega
       have hTW : ((T : Int) + 7) / 8 = (W : Int) := by omega
       have HT := hid hT; clear hT
       clear hW
       have HWW := hid hWW; clear hWW
       have hlb : ∀ g, blk A1 = some g → g < wr.heap.size := fun g hg => (ho.blk_ge g hg).2
       have hgb : ∀ g, blk A1 = some g → w.heap.size ≤ g := fun g hg => (ho.blk_ge g hg).1
       have HLB := hid hlb; clear hlb
       have HGB := hid hgb; clear hgb
       have hbs := hb.size
       have hbt : ((UInt8.ofNat (16 + W)).toNat : Int) = 16 + ((T : Int) + 7) / 8 := by rw [UInt8.toNat_ofNat']; omega
       have HBT := hid hbt; clear hbt
       have HTW := hid hTW; clear hTW
       have hT2 : ((T : Int) + 7) / 8 ≤ 8 := by omega
       go_wp2_with (first
         | (go_at_call 123; refine (Tryz.bits_Len64 _ _ (by omega) (by omega)).mono ?_; rintro e w1 ⟨rfl, hw1⟩; have hw2 := hw1.symm; subst hw2; rw [Int.toNat_natCast, ← HT.out])
         | (at_builtin; refine wpList_append_b _ rfl (.tmp 34) (.tmp 38) bt rfl w.heap.size A1 c1 L rfl ((ho.alloc _).alloc _) _ (some ⟨wr.heap.size + 1, 0, none⟩) 1 1 [UInt8.ofNat (16 + W)] rfl rfl (rdB_one (x := 16 + ((T : Int) + 7) / 8) (by simp) HBT.out (by simp)) (by simp; omega) (by simp; omega) ?_; intro A2 c2 L2 w2 hL2 ho2 hg2 hat2; have HL2 := hid hL2; clear hL2; have hb2 : Below w.heap.size w w2 := below_grow ((hb.alloc hbs _).alloc (by simp; omega) _) hg2 HGB.out (by simp; omega); have x2 : w2.cell? ⟨wr.heap.size, 1, none⟩ = some (.int .u64 (n : Int)) := hg2.cell (by simp) (fun e => absurd (HLB.out _ e.symm) (by simp)); have hz2 : wr.heap.size + 2 ≤ w2.heap.size := by have := hg2.size; simpa using this))
       have hna2 : ∀ g, blk A2 = some g → g ≠ wr.heap.size := by
         intro g hg
         rcases hat2 with e | e
         · rw [e] at hg; have := HLB.out g hg; omega
         · rw [e] at hg; simp at hg; omega
       have HNA2 := hid hna2; clear hna2 hat2 hg2
       obtain ⟨g0, hg0⟩ : ∃ g0, g0 = wr.heap.size := ⟨_, rfl⟩
       rw [← hg0] at x2 hz2 HNA2 ⊢
       have HG0 := hid hg0; clear hg0
       go_loopw [3, 6] (fun v u wi => ∃ (j : Nat) (A3 : Option Addr) (c3 : Nat) (L3 : List UInt8), j ≤ W ∧ u = .int .i64 ((j : Int) - 1) ∧ v = .slice A3 L3.length c3 ∧ Hid (L3 = L2 ++ Cod.beW (W - j) (n / 256 ^ j)) ∧ Own wi w.heap.size 5 A3 c3 L3 ∧ Below w.heap.size w wi ∧
         wi.cell? ⟨g0, 1, none⟩ = some (.int .u64 (n : Int)) ∧ g0 < wi.heap.size ∧ Hid (∀ g, blk A3 = some g → g ≠ g0)) (fun _ u _ => (intOf u + 1).toNat)
       case atStart =>
         refine ⟨W, A2, c2, L2, by omega, by rw [HTW.out], rfl, hid (by rw [Nat.sub_self]; simp [Cod.beW]), ho2, hb2, x2, by omega, HNA2⟩
       case round =>
         clear ho2 hb2 x2 hz2 HNA2
         obtain ⟨j, A3, c3, L3, hj, rfl, rfl, HL3, ho3, hb3, x3, hz3, HNA3⟩ := hrel
         by_cases hj0 : j = 0
         · subst hj0
           go_wp2
           go_roundw
           case rel =>
             refine ⟨k + 1, A3, c3, L3, by omega, by go_num, rfl, hid ?_, ho3, hb3⟩
             have e2 : n / 256 ^ 0 = n := by simp
             rw [HL3.out, HL2.out, HL.out, Cod.key_take_succ l k hlt, ← HP.out, e1, e2, Nat.sub_zero, HWW.out, ← Cod.be_self]
             simp
           case measure => simp [intOf]; omega
         · obtain ⟨i, rfl⟩ : ∃ i, j = i + 1 := ⟨j - 1, by omega⟩
           have e0 : ((i + 1 : Nat) : Int) - 1 = (i : Int) := by omega
           rw [e0]
           have hbb : ((UInt8.ofNat (n / 256 ^ i % 256)).toNat : Int) = (n : Int) / 2 ^ (8 * i) % 256 := by
             have e2 : (2 : Nat) ^ (8 * i) = 256 ^ i := by rw [Nat.pow_mul]
             have e3 : ((2 : Int) ^ (8 * i)) = ((2 ^ (8 * i) : Nat) : Int) := by simp
             rw [e3, e2, UInt8.toNat_ofNat', ← Int.natCast_ediv]
             omega
           have HBB := hid hbb; clear hbb
           have hL3 : L3.length = L.length + 1 + (W - (i + 1)) := by rw [HL3.out, HL2.out]; simp [Cod.beW_length]; omega
           have hL3a : L3.length + 1 ≤ L.length + 1 + W := by omega
           clear hL3
           have hnb3 : w.heap.size ≤ wr.heap.size := hb3.size
           go_wp2_with (at_builtin; refine wpList_append_b _ rfl (.tmp 46) (.tmp 53) bt rfl w.heap.size A3 c3 L3 rfl (ho3.alloc _) _ (some ⟨wr.heap.size, 0, none⟩) 1 1 [UInt8.ofNat (n / 256 ^ i % 256)] rfl rfl (rdB_one (x := (n : Int) / 2 ^ (8 * i) % 256) (by simp) HBB.out (by simp)) (by simp; omega) (by simp; omega) ?_; intro A4 c4 L4 w4 hL4 ho4 hg4 hat4; have HL4 := hid hL4; clear hL4; have hb4 : Below w.heap.size w w4 := below_grow (hb3.alloc hnb3 _) hg4 (fun g hg => (ho3.blk_ge g hg).1) (by simp; omega); have x4 : w4.cell? ⟨g0, 1, none⟩ = some (.int .u64 (n : Int)) := hg4.cell (by rw [World.cell?_alloc_lt _ _ _ hz3]; exact x3) (fun e => HNA3.out _ e.symm rfl); have hz4 : wr.heap.size + 1 ≤ w4.heap.size := by have := hg4.size; simpa using this)
           go_roundw
           case rel =>
             refine ⟨i, A4, c4, L4, by omega, rfl, rfl, hid ?_, ho4, hb4, x4, by omega, hid ?_⟩
             · have e4 : W - i = (W - (i + 1)) + 1 := by omega
               rw [HL4.out, HL3.out, e4, Cod.beW, Nat.div_div_eq_div_mul, ← Nat.pow_succ]
               simp
             · intro g hg
               rcases hat4 with e | e
               · rw [e] at hg; exact HNA3.out g hg
               · rw [e] at hg; simp at hg; omega
           case measure => simp [intOf]
   · obtain rfl : k = l.length := by omega
     go_wp2
     go_ret
     have e : L = Cod.key l := by rw [HL.out, List.take_length]
     exact ⟨A1, c1, ret_slice (by rw [e]), by rw [← e]; exact ho, hb⟩
def StrB (w : World) (A : Option Addr) (n c : Nat) (l : List UInt8) : Prop := (convert 22 9 (.slice A n c)).run Tryz.prog w = .ok (.string ⟨l.toArray⟩) w
theorem strB_of {w : World} {B : Nat} {A : Option Addr} {c : Nat} {l : List UInt8} (h : RdB w B A l) : StrB w A l.length c l := run_string_b w bt Tryz.underlying9 B A _ c l rfl h
theorem esc_le (l : List UInt8) : (Esc.esc 0 [0, 255] l).length ≤ 2 * l.length := by
 rw [Esc.esc_len 0 [0, 255] (by simp)]
 have := List.count_le_length (a := (0 : UInt8)) (l := l)
 simp; omega
theorem key_few (l : List Pt) (m : Nat) (hs : ∀ p ∈ l, p.s.size ≤ m) (hn : ∀ p ∈ l, p.n < 18446744073709551616) : (Cod.key l).length ≤ l.length * (2 * m + 12) := by
 induction l with
 | nil => simp [Cod.key]
 | cons p l ih =>
   have h1 := ih (fun q hq => hs q (List.mem_cons_of_mem _ hq)) (fun q hq => hn q (List.mem_cons_of_mem _ hq))
   have h2 : (Cod.partKey p).length ≤ 2 * m + 12 := by
     have h3 := hs p (List.mem_cons_self)
     have h4 := Cod.be_len (hn p (List.mem_cons_self))
     have h5 := esc_le p.s.data.toList
     have h6 : p.s.data.toList.length = p.s.size := by simp
     unfold Cod.partKey
     split
     · simp only [List.length_cons, List.length_append, List.length_nil]; omega
     · simp only [List.length_cons]; omega
   have e : Cod.key (p :: l) = Cod.partKey p ++ Cod.key l := rfl
   rw [e, List.length_append, List.length_cons, Nat.add_mul]
   omega
end Go.Proofs.YtgafionfojnieaaGreatDoor
