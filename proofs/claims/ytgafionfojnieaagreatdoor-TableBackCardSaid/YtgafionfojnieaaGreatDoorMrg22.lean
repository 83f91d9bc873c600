/- Parts of the proof, one behind the other: Records as they lie in memory; the plain words of a table; contracts: right, cmp.Compare, cmp.Or, order, the reference's Right and Ahead.; Contracts: the reference's Ahead, the rows of numbers, the inner keys.; Contracts: the reference's numbers, the inner key, the reference's Inner.; Contracts: the reference's Inner, the program's inner. -/
import Derived.Test.YtgafionfojnieaaGreatDoorMrg18
import Derived.Test.YtgafionfojnieaaGreatDoorMrg20
import Derived.Test.YtgafionfojnieaaGreatDoorMrg21
import Derived.StillTailTactics
import Derived.RegionCalls
import Derived.Laws.Rows
namespace Go.Proofs.YtgafionfojnieaaGreatDoor
open Go.RowKit
open Lib (hid)
structure Rv where
 kA : Option Addr
 kc : Nat
 k : List UInt8
 seq : Int
 del : Bool
 vA : Option Addr
 vc : Nat
 v : List UInt8
def Rv.cells (r : Rv) : List Value := [.slice r.kA r.k.length r.kc, .int .i64 r.seq, .bool r.del, .slice r.vA r.v.length r.vc]
def Rv.val (r : Rv) : Value := .agg #[.slice r.kA r.k.length r.kc, .int .i64 r.seq, .bool r.del, .slice r.vA r.v.length r.vc]
structure Rv.Ok (w : World) (B : Nat) (r : Rv) : Prop where
 key : RdB w B r.kA r.k
 val : RdB w B r.vA r.v
 kc : r.k.length ≤ r.kc
 vc : r.v.length ≤ r.vc
theorem Rv.Ok.below {w w' : World} {B D : Nat} {r : Rv} (h : Rv.Ok w B r) (hb : Below D w w') (hD : B ≤ D) : Rv.Ok w' B r := ⟨h.key.below hb hD, h.val.below hb hD, h.kc, h.vc⟩
theorem Rv.Ok.more {w : World} {B B' : Nat} {r : Rv} (h : Rv.Ok w B r) (hB : B ≤ B') : Rv.Ok w B' r := ⟨h.key.more hB, h.val.more hB, h.kc, h.vc⟩
structure RdRv (w : World) (B : Nat) (A : Option Addr) (l : List Rv) : Prop where
 row : RdS Rv.cells 4 w B A l
 ok : ∀ r ∈ l, Rv.Ok w B r
theorem RdRv.below {w w' : World} {B D : Nat} {A : Option Addr} {l : List Rv} (h : RdRv w B A l) (hb : Below D w w') (hD : B ≤ D) : RdRv w' B A l := ⟨h.row.below hb hD, fun p hp => (h.ok p hp).below hb hD⟩
theorem RdRv.more {w : World} {B B' : Nat} {A : Option Addr} {l : List Rv} (h : RdRv w B A l) (hB : B ≤ B') : RdRv w B' A l := ⟨h.row.more hB, fun p hp => (h.ok p hp).more hB⟩
theorem RdRv.row4 {w : World} {B : Nat} {A : Option Addr} {l : List Rv} (h : RdRv w B A l) (hl : 0 < l.length) : ∃ b off, A = some ⟨b, off, none⟩ ∧ b < B ∧ ∀ k (hk : k < l.length), w.cell? ⟨b, off + k * 4, none⟩ = some (.slice l[k].kA l[k].k.length l[k].kc) ∧
   w.cell? ⟨b, off + k * 4 + 1, none⟩ = some (.int .i64 l[k].seq) ∧ w.cell? ⟨b, off + k * 4 + 2, none⟩ = some (.bool l[k].del) ∧ w.cell? ⟨b, off + k * 4 + 3, none⟩ = some (.slice l[k].vA l[k].v.length l[k].vc) := by
 obtain ⟨b, off, hA, hb, hc⟩ := RdS.row (f := Rv.cells) (n := 4) (fun _ => rfl) (by omega) h.row hl
 refine ⟨b, off, hA, hb, fun k hk => ⟨?_, ?_, ?_, ?_⟩⟩
 · have := hc k hk 0 _ rfl; simpa using this
 · exact hc k hk 1 _ rfl
 · exact hc k hk 2 _ rfl
 · exact hc k hk 3 _ rfl
namespace Tb
def right (r : Rv) : Bool := decide (1 ≤ r.k.length ∧ r.k.length ≤ 512 ∧ 1 ≤ r.seq ∧ r.seq ≤ 1099511627776 ∧ r.v.length ≤ 4096 ∧ (r.del = true → r.v.length = 0))
def ahead (a b : Rv) : Bool := Op.bytesLess a.k b.k || (a.k == b.k) && decide (b.seq < a.seq)
def cmpI (x y : Int) : Int := if x < y then -1 else if y < x then 1 else 0
def orI : List Int → Int
 | [] => 0
 | x :: l => if x = 0 then orI l else x
def ordI (a b : Rv) : Int := orI [Lib.compareBytes a.k b.k, cmpI b.seq a.seq]
theorem ordI_neg (a b : Rv) : ordI a b < 0 ↔ ahead a b = true := by
 have h0 := compareBytes_zero a.k b.k
 have h1 := compareBytes_lt a.k b.k
 unfold ordI ahead orI orI
 by_cases e : Lib.compareBytes a.k b.k = 0
 · rw [if_pos e]
   have e2 := h0.1 e
   have hl : Op.bytesLess a.k b.k = false := by
     cases hb : Op.bytesLess a.k b.k with
     | false => rfl
     | true => have := h1.2 hb; omega
   rw [hl, e2]
   unfold cmpI orI
   by_cases c1 : b.seq < a.seq
   · simp [c1]
   · by_cases c2 : a.seq < b.seq
     · simp [c1, c2]
     · simp [c1, c2]
 · rw [if_neg e]
   have hne : (a.k == b.k) = false := by rw [beq_eq_false_iff_ne]; exact fun h => e (h0.2 h)
   rw [hne, h1]; simp
end Tb
theorem ret_bb {a b : Bool} (h : a = b) : Ending.returned (.bool a) = .returned (.bool b) := by rw [h]
theorem cmpT_any (x y : Int) (w : World) : Calls Tryz.prog 76 #[.int .i64 x, .int .i64 y] w fun e w' => e = .returned (.int .i64 (Tb.cmpI x y)) ∧ w = w' := by
 have hx : (x != x) = false := by simp
 have hy : (y != y) = false := by simp
 by_cases h1 : x < y
 · have E : Hid (Tb.cmpI x y = -1) := hid (by unfold Tb.cmpI; rw [if_pos h1])
   go_enter Tryz.func76, Tryz.ntmps76
   go_wp2
   go_ret
   exact ⟨by rw [E.out]; rfl, rfl⟩
 · by_cases h2 : y < x
   · have E : Hid (Tb.cmpI x y = 1) := hid (by unfold Tb.cmpI; rw [if_neg h1, if_pos h2])
     go_enter Tryz.func76, Tryz.ntmps76
     go_wp2
     go_ret
     exact ⟨by rw [E.out]; rfl, rfl⟩
   · have E : Hid (Tb.cmpI x y = 0) := hid (by unfold Tb.cmpI; rw [if_neg h1, if_neg h2])
     go_enter Tryz.func76, Tryz.ntmps76
     go_wp2
     go_ret
     exact ⟨by rw [E.out]; rfl, rfl⟩
theorem orT_any (g c : Nat) (l : List Int) (hl : l.length ≤ 1000) (w : World) (h : ∀ k (hk : k < l.length), w.cell? ⟨g, k, none⟩ = some (.int .i64 l[k])) :
   Calls Tryz.prog 75 #[.slice (some ⟨g, 0, none⟩) l.length c] w fun e w' => e = .returned (.int .i64 (Tb.orI l)) ∧ w = w' := by
 have HH := hid h; clear h
 go_enter Tryz.func75, Tryz.ntmps75
 go_wp2
 go_loop [8] (fun i => ∃ k : Nat, k ≤ l.length ∧ i = .int .i64 (k : Int) ∧ Hid (Tb.orI (l.drop k) = Tb.orI l)) (fun i => l.length - (intOf i).toNat)
 case atStart => exact ⟨0, by omega, rfl, hid rfl⟩
 case round =>
   obtain ⟨k, hk, rfl, HI⟩ := hrel
   by_cases hlt : k < l.length
   · have hc := HH.out k hlt
     have hd : l.drop k = l[k] :: l.drop (k + 1) := List.drop_eq_getElem_cons hlt
     obtain ⟨x, hx⟩ : ∃ x, x = l[k] := ⟨_, rfl⟩
     rw [← hx] at hc hd
     clear hx
     by_cases hx0 : x = 0
     · have HJ : Hid (Tb.orI (l.drop (k + 1)) = Tb.orI l) := hid (by rw [← HI.out, hd]; show _ = if x = 0 then _ else _; rw [if_pos hx0])
       clear hd
       subst hx0
       go_wp2
       go_round
       case rel => exact ⟨k + 1, by omega, by go_num, HJ⟩
       case measure => simp [intOf]; omega
     · have HJ : Hid (Tb.orI l = x) := hid (by rw [← HI.out, hd]; show (if x = 0 then _ else _) = _; rw [if_neg hx0])
       clear hd
       have d1 : (x == 0) = false := by simpa using hx0
       have d2 : (x != 0) = true := by simpa using hx0
       clear hx0
       go_wp2
       go_ret
       exact ⟨by rw [HJ.out]; rfl, rfl⟩
   · have HJ : Hid (Tb.orI l = 0) := hid (by rw [← HI.out, List.drop_eq_nil_of_le (by omega)]; rfl)
     go_wp2
     go_ret
     exact ⟨by rw [HJ.out]; rfl, rfl⟩
set_option maxHeartbeats 1000000 in
set_option maxRecDepth 100000 in
theorem orderT_any (a b : Rv) (w : World) (ha : Rv.Ok w w.heap.size a) (hb : Rv.Ok w w.heap.size b) : Calls Tryz.prog 40 #[a.val, b.val] w fun e w' => e = .returned (.int .i64 (Tb.ordI a b)) ∧ Below w.heap.size w w' := by
 obtain ⟨x, hx⟩ : ∃ x, x = Lib.compareBytes a.k b.k := ⟨_, rfl⟩
 obtain ⟨y, hy⟩ : ∃ y, y = Tb.cmpI b.seq a.seq := ⟨_, rfl⟩
 have E : Hid (Tb.ordI a b = Tb.orI [x, y]) := hid (by rw [hx, hy]; rfl)
 have C1 : Hid (∀ wx, Below w.heap.size w wx → Calls Tryz.prog 59 #[.slice a.kA a.k.length a.kc, .slice b.kA b.k.length b.kc] wx fun e w' => e = .returned (.int .i64 (Lib.compareBytes a.k b.k)) ∧ w' = wx) := hid (fun wx hbx => (bcmp_any w.heap.size a.kA a.kc a.k w.heap.size b.kA b.kc b.k wx (ha.key.below hbx (Nat.le_refl _)) (hb.key.below hbx (Nat.le_refl _))).mono (fun _ _ h => ⟨h.1, h.2.symm⟩))
 have C2 : Hid (∀ w, Calls Tryz.prog 76 #[.int .i64 b.seq, .int .i64 a.seq] w fun e w' => e = .returned (.int .i64 (Tb.cmpI b.seq a.seq)) ∧ w' = w) := hid (fun w => (cmpT_any b.seq a.seq w).mono (fun _ _ h => ⟨h.1, h.2.symm⟩))
 rw [← hx] at C1; rw [← hy] at C2
 clear hx hy ha hb
 obtain ⟨kA, kc, k, seq, del, vA, vc, v⟩ := a
 obtain ⟨kB, kd, m, seq2, del2, vB, vd, v2⟩ := b
 simp only at C1 C2 ⊢
 unfold Rv.val
 simp only
 go_enter Tryz.func40, Tryz.ntmps40
 go_wp2_with fail
 obtain ⟨W, hW, f0, f1, g0, g1, hs, HBW⟩ : ∃ W : World, ((w.alloc (.cells #[.slice kA k.length kc, .int .i64 seq, .bool del, .slice vA v.length vc] 35)).alloc (.cells #[.slice kB m.length kd, .int .i64 seq2, .bool del2, .slice vB v2.length vd] 35)).drew = W ∧
     W.cell? ⟨w.heap.size, 0, none⟩ = some (.slice kA k.length kc) ∧ W.cell? ⟨w.heap.size, 1, none⟩ = some (.int .i64 seq) ∧
     W.cell? ⟨w.heap.size + 1, 0, none⟩ = some (.slice kB m.length kd) ∧ W.cell? ⟨w.heap.size + 1, 1, none⟩ = some (.int .i64 seq2) ∧ W.heap.size = w.heap.size + 1 + 1 ∧ Hid (Below w.heap.size w W) := by
   refine ⟨_, rfl, ?_, ?_, ?_, ?_, ?_, hid ?_⟩
   · simp [World.cell?_drew]
   · simp [World.cell?_drew]
   · simp [World.cell?_drew]
   · simp [World.cell?_drew]
   · simp
   · exact (((Below.refl _ _).alloc (Nat.le_refl _) _).alloc (by simp) _).drew
 refine region_still_tail 10 (by kernel_rfl) (by kernel_rfl) hW ?_
 simp only [List.take_succ_cons, List.take_zero, List.drop_succ_cons, List.drop_zero]
 have HW := hid hW
 have HS := hid hs
 clear hW hs
 repeat still_step
 still_call (C1.out _ HBW.out)
 repeat still_step
 still_call (C2.out _)
 repeat still_step
 refine wpStill_nil ?_
 go_wp2_with fail
 have HO := hid (orT_any W.heap.size 2 [x, y] (by simp) (W.alloc (.cells #[.int .i64 x, .int .i64 y] 3)) (fun k hk => by
   match k, hk with
   | 0, _ => simp
   | 1, _ => simp))
 refine HO.out.mono ?_
 rintro e w' ⟨rfl, rfl⟩
 go_wp2_with fail
 go_ret
 exact ⟨by rw [E.out]; rfl, HBW.out.alloc HBW.out.size _⟩
namespace Tb
def nums (l : List Nat) : List UInt8 := l.flatMap Cod.number
theorem nums_succ (l : List Nat) (k : Nat) (h : k < l.length) : nums (l.take (k + 1)) = nums (l.take k) ++ Cod.number l[k] := by
 unfold nums; rw [List.take_succ_eq_append_getElem h, List.flatMap_append]; simp
theorem nums_len (l : List Nat) (h : ∀ n ∈ l, n < 18446744073709551616) (k : Nat) (hk : k ≤ l.length) : (nums (l.take k)).length ≤ k * 10 := by
 induction k with
 | zero => exact Nat.le_refl _
 | succ k ih =>
   rw [nums_succ l k (by omega), List.length_append]
   have h1 := ih (by omega)
   have h2 := Cod.number_len (h _ (List.getElem_mem (by omega : k < l.length)))
   omega
end Tb
theorem u64_nat (n : Nat) (h : n < 9223372036854775808) : IntKind.u64.wrap (n : Int) = (n : Int) := by rw [IntKind.wrap_u64]; omega
set_option maxHeartbeats 1000000 in
theorem numsT_any (g c : Nat) (l : List Nat) (hl : l.length ≤ 1000) (hn : ∀ n ∈ l, n < 9223372036854775808) (w : World) (h : ∀ k (hk : k < l.length), w.cell? ⟨g, k, none⟩ = some (.int .i64 (l[k] : Int))) (hg : g < w.heap.size) :
   Calls Tryz.prog 46 #[.slice (some ⟨g, 0, none⟩) l.length c] w (GivesB w (Tb.nums l)) := by
 have HH := hid h; have HN := hid hn
 have HLN := hid (Tb.nums_len l (fun n hm => by have := hn n hm; omega))
 clear h hn
 go_enter Tryz.func46, Tryz.ntmps46
 go_wp2_with fail
 go_loopw [3, 8] (fun v i wr => ∃ (k : Nat) (A1 : Option Addr) (c1 : Nat) (L : List UInt8), k ≤ l.length ∧ i = .int .i64 (k : Int) ∧ v = .slice A1 L.length c1 ∧ Hid (L = Tb.nums (l.take k)) ∧ Hid (Own wr w.heap.size 5 A1 c1 L) ∧ Hid (Below w.heap.size w wr)) (fun _ i _ => l.length - (intOf i).toNat)
 case atStart => exact ⟨0, none, 0, [], by omega, rfl, rfl, hid rfl, hid (Own.nil _ _ _), hid (Below.refl _ _)⟩
 case round =>
   obtain ⟨k, A1, c1, L, hk, rfl, rfl, HL, HO, HW⟩ := hrel
   have hzr : w.heap.size ≤ wr.heap.size := HW.out.size
   by_cases hlt : k < l.length
   · have hc := (HW.out.cell (p := ⟨g, k, none⟩) hg).trans (HH.out k hlt)
     have hnk := HN.out _ (List.getElem_mem hlt)
     have HS := hid (Tb.nums_succ l k hlt)
     have hll : L.length ≤ 10000 := by have := HLN.out k hk; rw [← HL.out] at this; omega
     obtain ⟨x, hx⟩ : ∃ x, x = l[k] := ⟨_, rfl⟩
     rw [← hx] at hc HS hnk
     clear hx
     have KN := hid (number_any x (by omega) wr)
     have hnl := Cod.number_len (n := x) (by omega)
     have eu := u64_nat x hnk
     go_wp2_with fail
     refine KN.out.mono ?_
     rintro e w1 ⟨Ax, cx, rfl, hox, hbx⟩
     have HOX := hid hox.rd
     have HO1 : Hid (Own w1 w.heap.size 5 A1 c1 L) := hid (HO.out.below hbx)
     have HB1 : Hid (Below w.heap.size w w1) := hid (HW.out.trans (hbx.mono hzr))
     have hz1 : w.heap.size ≤ w1.heap.size := HB1.out.size
     clear hox hbx hc
     go_wp2_with (at_builtin; refine wpList_append_b _ rfl _ _ bt rfl w.heap.size A1 c1 L rfl HO1.out _ Ax (Cod.number x).length cx (Cod.number x) rfl rfl HOX.out (by omega) hz1 ?_)
     intro A5 c5 L5 w5 hL5 ho5 hg5 _
     have HL5 : Hid (L5 = Tb.nums (l.take (k + 1))) := hid (by rw [hL5, HL.out, HS.out])
     have HO5 := hid ho5
     have HB5 : Hid (Below w.heap.size w w5) := hid (below_grow HB1.out hg5 (fun g hg => (HO1.out.blk_ge g hg).1) hz1)
     clear hL5 ho5 hg5
     go_wp2_with fail
     go_round
     case rel => exact ⟨k + 1, A5, c5, L5, by omega, by go_num, rfl, HL5, HO5, HB5⟩
     case measure => simp [intOf]; omega
   · have hk3 : k = l.length := by omega
     subst hk3
     have HE : Hid (L = Tb.nums l) := hid (by rw [HL.out, List.take_of_length_le (Nat.le_refl _)])
     obtain ⟨n, hn⟩ : ∃ n, n = L.length := ⟨_, rfl⟩
     rw [← hn]
     have HN := hid hn; clear hn
     go_wp2_with fail
     go_ret
     refine ⟨A1, c1, ?_, ?_, HW.out⟩
     · rw [HN.out, HE.out]; rfl
     · rw [← HE.out]; exact HO.out
namespace Tb
def iparts (k : List UInt8) (n : Nat) : List Pt := [⟨true, 0, ⟨k.toArray⟩⟩, ⟨false, n, ⟨#[]⟩⟩]
def ikey (k : List UInt8) (seq : Int) : List UInt8 := Cod.key (iparts k (1099511627776 - seq).toNat)
def inner (r : Rv) : Pr := ⟨ikey r.k r.seq, (if r.del then 1 else 0) :: r.v⟩
theorem iparts_ok (k : List UInt8) (n : Nat) (hk : k.length ≤ 100000) (hn : n < 18446744073709551616) : (∀ p ∈ iparts k n, PartOk p) ∧ (Cod.key (iparts k n)).length ≤ 2 * (2 * k.length + 12) := by
 have hsz : (⟨k.toArray⟩ : ByteArray).size = k.length := by show k.toArray.size = _; simp
 have h0 : (⟨#[]⟩ : ByteArray).size = 0 := rfl
 refine ⟨fun p hp => ?_, ?_⟩
 · simp only [iparts, List.mem_cons, List.not_mem_nil, or_false] at hp
   rcases hp with rfl | rfl
   · exact ⟨by show 0 < _; omega, by show ByteArray.size _ ≤ _; rw [hsz]; omega⟩
   · exact ⟨hn, by show ByteArray.size _ ≤ _; rw [h0]; omega⟩
 · refine key_few (iparts k n) k.length (fun p hp => ?_) (fun p hp => ?_)
   · simp only [iparts, List.mem_cons, List.not_mem_nil, or_false] at hp
     rcases hp with rfl | rfl
     · rw [hsz]; omega
     · rw [h0]; omega
   · simp only [iparts, List.mem_cons, List.not_mem_nil, or_false] at hp
     rcases hp with rfl | rfl
     · show 0 < _; omega
     · exact hn
theorem ikey_len (k : List UInt8) (seq : Int) (hk : k.length ≤ 100000) (h1 : 1 ≤ seq) (h2 : seq ≤ 1099511627776) : (ikey k seq).length ≤ 4 * k.length + 24 := by
 have := (iparts_ok k (1099511627776 - seq).toNat hk (by omega)).2
 unfold ikey; omega
end Tb
theorem rdp_two (w : World) (s t : ByteArray) (n : Nat) : RdP (w.alloc (.cells #[.bool true, .int .u64 0, .string s, .bool false, .int .u64 (n : Int), .string t] 142)) (w.heap.size + 1) (some ⟨w.heap.size, 0, none⟩) [⟨true, 0, s⟩, ⟨false, n, t⟩] := by
 refine ⟨by rfl, fun _ => ⟨_, rfl, by simp, fun j u hu => ?_⟩⟩
 have hadd : (⟨w.heap.size, 0, none⟩ : Addr).add j = ⟨w.heap.size, j, none⟩ := by unfold Addr.add; split <;> simp_all
 rw [hadd, cell_of_row _ w.heap.size j _ _ (0, 0) (heap_alloc_new w _)]
 show (pv [⟨true, 0, s⟩, ⟨false, n, t⟩]).toArray[j]? = some u
 simpa using hu
set_option maxHeartbeats 1000000 in
theorem ikeyT_any (A : Option Addr) (c : Nat) (k : List UInt8) (seq : Int) (w : World) (h : RdB w w.heap.size A k) (hk : k.length ≤ 100000) (h1 : 1 ≤ seq) (h2 : seq ≤ 1099511627776) :
   Calls Tryz.prog 77 #[.slice A k.length c, .int .i64 seq] w (GivesB w (Tb.ikey k seq)) := by
 have s1 := strB_of (c := c) h
 unfold StrB at s1
 obtain ⟨n, hn⟩ : ∃ n, n = (1099511627776 - seq).toNat := ⟨_, rfl⟩
 have hok := Tb.iparts_ok k n hk (by omega)
 have E : Hid (Tb.ikey k seq = Cod.key (Tb.iparts k n)) := hid (by rw [hn]; rfl)
 have e1 : IntKind.u64.wrap (1099511627776 - seq) = (n : Int) := by rw [IntKind.wrap_u64, hn]; omega
 have HP : Hid (Tb.iparts k n = [⟨true, 0, ⟨k.toArray⟩⟩, ⟨false, n, ⟨#[]⟩⟩]) := hid rfl
 obtain ⟨S, hS⟩ : ∃ S : ByteArray, S = ⟨k.toArray⟩ := ⟨_, rfl⟩
 rw [← hS] at s1 HP
 have KK := hid (key_any (some ⟨w.heap.size, 0, none⟩) 2 (Tb.iparts k n) (w.alloc (.cells #[.bool true, .int .u64 0, .string S, .bool false, .int .u64 (n : Int), .string ⟨#[]⟩] 142)) (by rw [HP.out]; simpa using rdp_two w S ⟨#[]⟩ n) hok.1 (by rw [HP.out]; simp) (by omega))
 rw [show (Tb.iparts k n).length = 2 by rw [HP.out]; rfl] at KK
 clear hS hn hok
 go_enter Tryz.func77, Tryz.ntmps77
 go_wp2_with fail
 refine KK.out.mono ?_
 rintro e w1 ⟨A1, c1, rfl, ho, hb⟩
 have HO := hid ho; have HB := hid hb
 clear ho hb
 obtain ⟨N, hN⟩ : ∃ N, N = (Cod.key (Tb.iparts k n)).length := ⟨_, rfl⟩
 rw [← hN]
 have HN := hid hN
 clear hN
 go_wp2_with fail
 go_ret
 refine ⟨A1, c1, by rw [E.out, HN.out]; rfl, ?_, ?_⟩
 · rw [E.out]; exact HO.out.mono (by simp)
 · exact ((Below.refl _ _).alloc (Nat.le_refl _) _).trans (HB.out.mono (by simp))
theorem pair_size : (Tryz.prog.info? 77).map (fun x => x.size) = some 2 := by kernel_rfl
theorem heap_set2 {w : World} {g : Nat} {x y a b : Value} {T : TypeId} (h : w.heap[g]? = some (.cells #[x, y] T)) : ((w.setCell ⟨g, 0, none⟩ a).setCell ⟨g, 1, none⟩ b).heap[g]? = some (.cells #[a, b] T) := by
 have h1 := heap_setCell_same w g 0 _ T a h
 have h2 := heap_setCell_same _ g 1 _ T b h1
 simpa using h2
theorem Own.block {w : World} {base : Nat} {e : TypeId} {A : Option Addr} {c : Nat} {l : List UInt8} (h : Own w base e A c l) (hl : 0 < l.length) : ∃ g cur, A = some ⟨g, 0, none⟩ ∧ base ≤ g ∧ g < w.heap.size ∧ w.heap[g]? = some (.cells cur e) := by
 rcases h.2 with ⟨_, hn⟩ | ⟨g, cap, cur, hv, hg, hh, _⟩
 · omega
 · injection hv with hv
   subst hv
   exact ⟨g, cur, rfl, hg, (Array.getElem?_eq_some_iff.1 hh).1, hh⟩
theorem Own.put {w : World} {base : Nat} {e : TypeId} {g : Nat} {c : Nat} {b : UInt8} {l : List UInt8} (h : Own w base e (some ⟨g, 0, none⟩) c (b :: l)) (x : Int) (d : UInt8) (hx : (d.toNat : Int) = x) : Own (w.setCell ⟨g, 0, none⟩ (.int .u8 x)) base e (some ⟨g, 0, none⟩) c (d :: l) := by
 subst hx
 have := (World.ownsRow.stored h 0 (.int .u8 (d.toNat : Int))).1
 simpa [Own, bv] using this
theorem Own.cap_le {w : World} {base : Nat} {e : TypeId} {A : Option Addr} {c : Nat} {l : List UInt8} (h : Own w base e A c l) : c ≤ 9223372036854775807 := by
 rcases h.2 with ⟨hv, hn⟩ | ⟨g, cap, cur, hv, _, _, _, hm, _⟩
 · injection hv with _ _ h3; omega
 · injection hv with _ _ h3; unfold maxLen at hm; omega
theorem Own.cellput {w : World} {base : Nat} {e : TypeId} {A : Option Addr} {c : Nat} {l : List UInt8} (h : Own w base e A c l) (p : Addr) (v : Value) (hp : blk A ≠ some p.block) : Own (w.setCell p v) base e A c l :=
 World.ownsRow.kept h (grownBy_set w p v) (.inr (by rw [ownBlock_slice]; exact hp))
def InnerP (w : World) (p : Pr) (e : Ending) (w' : World) : Prop := ∃ A1 c1 A2 c2, e = .returned (.agg #[.slice A1 p.k.length c1, .slice A2 p.v.length c2]) ∧ Own w' w.heap.size 5 A1 c1 p.k ∧ Own w' w.heap.size 5 A2 c2 p.v ∧ Below w.heap.size w w'
end Go.Proofs.YtgafionfojnieaaGreatDoor
