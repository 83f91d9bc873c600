/- Parts of the proof, one behind the other: Records as they lie in memory; the plain words of a table; contracts: right, cmp.Compare, cmp.Or, order, the reference's Right and Ahead.; Contracts: the reference's Ahead, the rows of numbers, the inner keys.; Contracts: the reference's numbers, the inner key, the reference's Inner.; Contracts: the reference's Inner, the program's inner.; sync.Once, one goroutine: Do, done already; Do, not yet done, by the contract of the function that it is handed. -/
import Derived.Test.YtgafionfojnieaaGreatDoorMrg18
import Derived.Test.YtgafionfojnieaaGreatDoorMrg20
import Derived.Test.YtgafionfojnieaaGreatDoorMrg21
import Derived.StillTailTactics
import Derived.RegionCalls
import Derived.Laws.Rows
import Derived.Laws.Pointers
import Derived.Laws.LoneSync
import Derived.Defers
import Derived.RegionTactic
import Derived.ChangeAlike
namespace Go.Proofs.YtgafionfojnieaaGreatDoor
open Go.RowKit
open Lib (hid)
structure Rv where
 kA : Option Addr
 kc : Nat
 k : List UInt8
 seq : Int
 del : Bool
 vA : Option Addr
 vc : Nat
 v : List UInt8
def Rv.cells (r : Rv) : List Value := [.slice r.kA r.k.length r.kc, .int .i64 r.seq, .bool r.del, .slice r.vA r.v.length r.vc]
def Rv.val (r : Rv) : Value := .agg #[.slice r.kA r.k.length r.kc, .int .i64 r.seq, .bool r.del, .slice r.vA r.v.length r.vc]
structure Rv.Ok (w : World) (B : Nat) (r : Rv) : Prop where
 key : RdB w B r.kA r.k
 val : RdB w B r.vA r.v
 kc : r.k.length ≤ r.kc
 vc : r.v.length ≤ r.vc
theorem Rv.Ok.below {w w' : World} {B D : Nat} {r : Rv} (h : Rv.Ok w B r) (hb : Below D w w') (hD : B ≤ D) : Rv.Ok w' B r := ⟨h.key.below hb hD, h.val.below hb hD, h.kc, h.vc⟩
theorem Rv.Ok.more {w : World} {B B' : Nat} {r : Rv} (h : Rv.Ok w B r) (hB : B ≤ B') : Rv.Ok w B' r := ⟨h.key.more hB, h.val.more hB, h.kc, h.vc⟩
structure RdRv (w : World) (B : Nat) (A : Option Addr) (l : List Rv) : Prop where
 row : RdS Rv.cells 4 w B A l
 ok : ∀ r ∈ l, Rv.Ok w B r
theorem RdRv.below {w w' : World} {B D : Nat} {A : Option Addr} {l : List Rv} (h : RdRv w B A l) (hb : Below D w w') (hD : B ≤ D) : RdRv w' B A l := ⟨h.row.below hb hD, fun p hp => (h.ok p hp).below hb hD⟩
theorem RdRv.more {w : World} {B B' : Nat} {A : Option Addr} {l : List Rv} (h : RdRv w B A l) (hB : B ≤ B') : RdRv w B' A l := ⟨h.row.more hB, fun p hp => (h.ok p hp).more hB⟩
theorem RdRv.row4 {w : World} {B : Nat} {A : Option Addr} {l : List Rv} (h : RdRv w B A l) (hl : 0 < l.length) : ∃ b off, A = some ⟨b, off, none⟩ ∧ b < B ∧ ∀ k (hk : k < l.length), w.cell? ⟨b, off + k * 4, none⟩ = some (.slice l[k].kA l[k].k.length l[k].kc) ∧
   w.cell? ⟨b, off + k * 4 + 1, none⟩ = some (.int .i64 l[k].seq) ∧ w.cell? ⟨b, off + k * 4 + 2, none⟩ = some (.bool l[k].del) ∧ w.cell? ⟨b, off + k * 4 + 3, none⟩ = some (.slice l[k].vA l[k].v.length l[k].vc) := by
 obtain ⟨b, off, hA, hb, hc⟩ := RdS.row (f := Rv.cells) (n := 4) (fun _ => rfl) (by omega) h.row hl
 refine ⟨b, off, hA, hb, fun k hk => ⟨?_, ?_, ?_, ?_⟩⟩
 · have := hc k hk 0 _ rfl; simpa using this
 · exact hc k hk 1 _ rfl
 · exact hc k hk 2 _ rfl
 · exact hc k hk 3 _ rfl
namespace Tb
def right (r : Rv) : Bool := decide (1 ≤ r.k.length ∧ r.k.length ≤ 512 ∧ 1 ≤ r.seq ∧ r.seq ≤ 1099511627776 ∧ r.v.length ≤ 4096 ∧ (r.del = true → r.v.length = 0))
def ahead (a b : Rv) : Bool := Op.bytesLess a.k b.k || (a.k == b.k) && decide (b.seq < a.seq)
def cmpI (x y : Int) : Int := if x < y then -1 else if y < x then 1 else 0
def orI : List Int → Int
 | [] => 0
 | x :: l => if x = 0 then orI l else x
def ordI (a b : Rv) : Int := orI [Lib.compareBytes a.k b.k, cmpI b.seq a.seq]
theorem ordI_neg (a b : Rv) : ordI a b < 0 ↔ ahead a b = true := by
 have h0 := compareBytes_zero a.k b.k
 have h1 := compareBytes_lt a.k b.k
 unfold ordI ahead orI orI
 by_cases e : Lib.compareBytes a.k b.k = 0
 · rw [if_pos e]
   have e2 := h0.1 e
   have hl : Op.bytesLess a.k b.k = false := by
     cases hb : Op.bytesLess a.k b.k with
     | false => rfl
     | true => have := h1.2 hb; omega
   rw [hl, e2]
   unfold cmpI orI
   by_cases c1 : b.seq < a.seq
   · simp [c1]
   · by_cases c2 : a.seq < b.seq
     · simp [c1, c2]
     · simp [c1, c2]
 · rw [if_neg e]
   have hne : (a.k == b.k) = false := by rw [beq_eq_false_iff_ne]; exact fun h => e (h0.2 h)
   rw [hne, h1]; simp
end Tb
theorem ret_bb {a b : Bool} (h : a = b) : Ending.returned (.bool a) = .returned (.bool b) := by rw [h]
theorem cmpT_any (x y : Int) (w : World) : Calls Tryz.prog 76 #[.int .i64 x, .int .i64 y] w fun e w' => e = .returned (.int .i64 (Tb.cmpI x y)) ∧ w = w' := by
 have hx : (x != x) = false := by simp
 have hy : (y != y) = false := by simp
 by_cases h1 : x < y
 · have E : Hid (Tb.cmpI x y = -1) := hid (by unfold Tb.cmpI; rw [if_pos h1])
   go_enter Tryz.func76, Tryz.ntmps76
   go_wp2
   go_ret
   exact ⟨by rw [E.out]; rfl, rfl⟩
 · by_cases h2 : y < x
   · have E : Hid (Tb.cmpI x y = 1) := hid (by unfold Tb.cmpI; rw [if_neg h1, if_pos h2])
     go_enter Tryz.func76, Tryz.ntmps76
     go_wp2
     go_ret
     exact ⟨by rw [E.out]; rfl, rfl⟩
   · have E : Hid (Tb.cmpI x y = 0) := hid (by unfold Tb.cmpI; rw [if_neg h1, if_neg h2])
     go_enter Tryz.func76, Tryz.ntmps76
     go_wp2
     go_ret
     exact ⟨by rw [E.out]; rfl, rfl⟩
theorem orT_any (g c : Nat) (l : List Int) (hl : l.length ≤ 1000) (w : World) (h : ∀ k (hk : k < l.length), w.cell? ⟨g, k, none⟩ = some (.int .i64 l[k])) :
   Calls Tryz.prog 75 #[.slice (some ⟨g, 0, none⟩) l.length c] w fun e w' => e = .returned (.int .i64 (Tb.orI l)) ∧ w = w' := by
 have HH := hid h; clear h
 go_enter Tryz.func75, Tryz.ntmps75
 go_wp2
 go_loop [8] (fun i => ∃ k : Nat, k ≤ l.length ∧ i = .int .i64 (k : Int) ∧ Hid (Tb.orI (l.drop k) = Tb.orI l)) (fun i => l.length - (intOf i).toNat)
 case atStart => exact ⟨0, by omega, rfl, hid rfl⟩
 case round =>
   obtain ⟨k, hk, rfl, HI⟩ := hrel
   by_cases hlt : k < l.length
   · have hc := HH.out k hlt
     have hd : l.drop k = l[k] :: l.drop (k + 1) := List.drop_eq_getElem_cons hlt
     obtain ⟨x, hx⟩ : ∃ x, x = l[k] := ⟨_, rfl⟩
     rw [← hx] at hc hd
     clear hx
     by_cases hx0 : x = 0
     · have HJ : Hid (Tb.orI (l.drop (k + 1)) = Tb.orI l) := hid (by rw [← HI.out, hd]; show _ = if x = 0 then _ else _; rw [if_pos hx0])
       clear hd
       subst hx0
       go_wp2
       go_round
       case rel => exact ⟨k + 1, by omega, by go_num, HJ⟩
       case measure => simp [intOf]; omega
     · have HJ : Hid (Tb.orI l = x) := hid (by rw [← HI.out, hd]; show (if x = 0 then _ else _) = _; rw [if_neg hx0])
       clear hd
       have d1 : (x == 0) = false := by simpa using hx0
       have d2 : (x != 0) = true := by simpa using hx0
       clear hx0
       go_wp2
       go_ret
       exact ⟨by rw [HJ.out]; rfl, rfl⟩
   · have HJ : Hid (Tb.orI l = 0) := hid (by rw [← HI.out, List.drop_eq_nil_of_le (by omega)]; rfl)
     go_wp2
     go_ret
     exact ⟨by rw [HJ.out]; rfl, rfl⟩
set_option maxHeartbeats 2000000 in
set_option maxRecDepth 100000 in
theorem rightT_any (r : Rv) (hk : r.k.length ≤ 1000000) (hv : r.v.length ≤ 1000000) (w : World) : Calls Tryz.prog 38 #[r.val] w fun e w' => e = .returned (.bool (Tb.right r)) ∧ Below w.heap.size w w' := by
 obtain ⟨kA, kc, k, seq, del, vA, vc, v⟩ := r
 simp only at hk hv
 unfold Rv.val
 simp only
 obtain ⟨K, hK⟩ : ∃ K, K = k.length := ⟨_, rfl⟩
 obtain ⟨V, hV⟩ : ∃ V, V = v.length := ⟨_, rfl⟩
 have E : Hid (Tb.right ⟨kA, kc, k, seq, del, vA, vc, v⟩ = decide (1 ≤ K ∧ K ≤ 512 ∧ 1 ≤ seq ∧ seq ≤ 1099511627776 ∧ V ≤ 4096 ∧ (del = true → V = 0))) := hid (by rw [hK, hV]; rfl)
 rw [← hK] at hk ⊢
 rw [← hV] at hv ⊢
 clear hK hV
 cases del with
 | true =>
   go_enter Tryz.func38, Tryz.ntmps38
   go_wp2_with fail
   all_goals (go_ret; refine ⟨?_, (Below.refl _ _).alloc (Nat.le_refl _) _⟩; rw [E.out]; refine ret_bb ?_; rw [Bool.eq_iff_iff]; simp; omega)
 | false =>
   go_enter Tryz.func38, Tryz.ntmps38
   go_wp2_with fail
   all_goals (go_ret; refine ⟨?_, (Below.refl _ _).alloc (Nat.le_refl _) _⟩; rw [E.out]; refine ret_bb ?_; rw [Bool.eq_iff_iff]; simp; omega)
set_option maxHeartbeats 2000000 in
set_option maxRecDepth 100000 in
theorem rrightT_any (r : Rv) (hk : r.k.length ≤ 1000000) (hv : r.v.length ≤ 1000000) (w : World) : Calls Tryz.prog 66 #[r.val] w fun e w' => e = .returned (.bool (Tb.right r)) ∧ Below w.heap.size w w' := by
 obtain ⟨kA, kc, k, seq, del, vA, vc, v⟩ := r
 simp only at hk hv
 unfold Rv.val
 simp only
 obtain ⟨K, hK⟩ : ∃ K, K = k.length := ⟨_, rfl⟩
 obtain ⟨V, hV⟩ : ∃ V, V = v.length := ⟨_, rfl⟩
 have E : Hid (Tb.right ⟨kA, kc, k, seq, del, vA, vc, v⟩ = decide (1 ≤ K ∧ K ≤ 512 ∧ 1 ≤ seq ∧ seq ≤ 1099511627776 ∧ V ≤ 4096 ∧ (del = true → V = 0))) := hid (by rw [hK, hV]; rfl)
 rw [← hK] at hk ⊢
 rw [← hV] at hv ⊢
 clear hK hV
 cases del with
 | true =>
   go_enter Tryz.func66, Tryz.ntmps66
   go_wp2_with fail
   all_goals (go_ret; refine ⟨?_, (Below.refl _ _).alloc (Nat.le_refl _) _⟩; rw [E.out]; refine ret_bb ?_; rw [Bool.eq_iff_iff]; simp; omega)
 | false =>
   go_enter Tryz.func66, Tryz.ntmps66
   go_wp2_with fail
   all_goals (go_ret; refine ⟨?_, (Below.refl _ _).alloc (Nat.le_refl _) _⟩; rw [E.out]; refine ret_bb ?_; rw [Bool.eq_iff_iff]; simp; omega)
set_option maxHeartbeats 1000000 in
set_option maxRecDepth 100000 in
theorem orderT_any (a b : Rv) (w : World) (ha : Rv.Ok w w.heap.size a) (hb : Rv.Ok w w.heap.size b) : Calls Tryz.prog 40 #[a.val, b.val] w fun e w' => e = .returned (.int .i64 (Tb.ordI a b)) ∧ Below w.heap.size w w' := by
 obtain ⟨x, hx⟩ : ∃ x, x = Lib.compareBytes a.k b.k := ⟨_, rfl⟩
 obtain ⟨y, hy⟩ : ∃ y, y = Tb.cmpI b.seq a.seq := ⟨_, rfl⟩
 have E : Hid (Tb.ordI a b = Tb.orI [x, y]) := hid (by rw [hx, hy]; rfl)
 have C1 : Hid (∀ wx, Below w.heap.size w wx → Calls Tryz.prog 59 #[.slice a.kA a.k.length a.kc, .slice b.kA b.k.length b.kc] wx fun e w' => e = .returned (.int .i64 (Lib.compareBytes a.k b.k)) ∧ w' = wx) := hid (fun wx hbx => (bcmp_any w.heap.size a.kA a.kc a.k w.heap.size b.kA b.kc b.k wx (ha.key.below hbx (Nat.le_refl _)) (hb.key.below hbx (Nat.le_refl _))).mono (fun _ _ h => ⟨h.1, h.2.symm⟩))
 have C2 : Hid (∀ w, Calls Tryz.prog 76 #[.int .i64 b.seq, .int .i64 a.seq] w fun e w' => e = .returned (.int .i64 (Tb.cmpI b.seq a.seq)) ∧ w' = w) := hid (fun w => (cmpT_any b.seq a.seq w).mono (fun _ _ h => ⟨h.1, h.2.symm⟩))
 rw [← hx] at C1; rw [← hy] at C2
 clear hx hy ha hb
 obtain ⟨kA, kc, k, seq, del, vA, vc, v⟩ := a
 obtain ⟨kB, kd, m, seq2, del2, vB, vd, v2⟩ := b
 simp only at C1 C2 ⊢
 unfold Rv.val
 simp only
 go_enter Tryz.func40, Tryz.ntmps40
 go_wp2_with fail
 obtain ⟨W, hW, f0, f1, g0, g1, hs, HBW⟩ : ∃ W : World, ((w.alloc (.cells #[.slice kA k.length kc, .int .i64 seq, .bool del, .slice vA v.length vc] 35)).alloc (.cells #[.slice kB m.length kd, .int .i64 seq2, .bool del2, .slice vB v2.length vd] 35)).drew = W ∧
     W.cell? ⟨w.heap.size, 0, none⟩ = some (.slice kA k.length kc) ∧ W.cell? ⟨w.heap.size, 1, none⟩ = some (.int .i64 seq) ∧
     W.cell? ⟨w.heap.size + 1, 0, none⟩ = some (.slice kB m.length kd) ∧ W.cell? ⟨w.heap.size + 1, 1, none⟩ = some (.int .i64 seq2) ∧ W.heap.size = w.heap.size + 1 + 1 ∧ Hid (Below w.heap.size w W) := by
   refine ⟨_, rfl, ?_, ?_, ?_, ?_, ?_, hid ?_⟩
   · simp [World.cell?_drew]
   · simp [World.cell?_drew]
   · simp [World.cell?_drew]
   · simp [World.cell?_drew]
   · simp
   · exact (((Below.refl _ _).alloc (Nat.le_refl _) _).alloc (by simp) _).drew
 refine region_still_tail 10 (by kernel_rfl) (by kernel_rfl) hW ?_
 simp only [List.take_succ_cons, List.take_zero, List.drop_succ_cons, List.drop_zero]
 have HW := hid hW
 have HS := hid hs
 clear hW hs
 repeat still_step
 still_call (C1.out _ HBW.out)
 repeat still_step
 still_call (C2.out _)
 repeat still_step
 refine wpStill_nil ?_
 go_wp2_with fail
 have HO := hid (orT_any W.heap.size 2 [x, y] (by simp) (W.alloc (.cells #[.int .i64 x, .int .i64 y] 3)) (fun k hk => by
   match k, hk with
   | 0, _ => simp
   | 1, _ => simp))
 refine HO.out.mono ?_
 rintro e w' ⟨rfl, rfl⟩
 go_wp2_with fail
 go_ret
 exact ⟨by rw [E.out]; rfl, HBW.out.alloc HBW.out.size _⟩
set_option maxHeartbeats 2000000 in
set_option maxRecDepth 100000 in
theorem aheadT_any (a b : Rv) (w : World) (ha : Rv.Ok w w.heap.size a) (hb : Rv.Ok w w.heap.size b) : Calls Tryz.prog 67 #[a.val, b.val] w fun e w' => e = .returned (.bool (Tb.ahead a b)) ∧ Below w.heap.size w w' := by
 obtain ⟨W, hW⟩ : ∃ W : World, (w.alloc (.cells a.cells.toArray 35)).alloc (.cells b.cells.toArray 35) = W := ⟨_, rfl⟩
 have HB : Hid (Below w.heap.size w W) := hid (by rw [← hW]; exact ((Below.refl _ _).alloc (Nat.le_refl _) _).alloc (by simp) _)
 have s1 := strB_of (c := a.kc) (ha.key.below HB.out (Nat.le_refl _))
 have s2 := strB_of (c := b.kc) (hb.key.below HB.out (Nat.le_refl _))
 rw [← hW] at s1 s2
 unfold StrB at s1 s2
 obtain ⟨kA, kc, k, seq, del, vA, vc, v⟩ := a
 obtain ⟨kB, kd, m, seq2, del2, vB, vd, v2⟩ := b
 simp only [Rv.cells, Rv.val] at s1 s2 hW ⊢
 have E : Hid (Tb.ahead ⟨kA, kc, k, seq, del, vA, vc, v⟩ ⟨kB, kd, m, seq2, del2, vB, vd, v2⟩ = (Op.bytesLess k m || (k == m) && decide (seq2 < seq))) := hid rfl
 obtain ⟨SA, hSA⟩ : ∃ SA : ByteArray, SA = ⟨k.toArray⟩ := ⟨_, rfl⟩
 obtain ⟨SB, hSB⟩ : ∃ SB : ByteArray, SB = ⟨m.toArray⟩ := ⟨_, rfl⟩
 rw [← hSA] at s1
 rw [← hSB] at s2
 have hta : SA.toList = k := by rw [hSA, ByteArray.toList_eq]
 have htb : SB.toList = m := by rw [hSB, ByteArray.toList_eq]
 clear hSA hSB ha hb
 have HW := hid hW
 clear hW
 rcases hl1 : Op.bytesLess k m with _ | _ <;> rcases hl2 : (k == m) with _ | _ <;> by_cases hl3 : seq2 < seq
 all_goals
   rw [hl1, hl2] at E
   go_enter Tryz.func67, Tryz.ntmps67
   go_wp2_with fail
   go_ret
   refine ⟨?_, by have := HB.out; rw [← HW.out] at this; exact this⟩
   rw [E.out]
   simp [hl3]
namespace Tb
def nums (l : List Nat) : List UInt8 := l.flatMap Cod.number
theorem nums_succ (l : List Nat) (k : Nat) (h : k < l.length) : nums (l.take (k + 1)) = nums (l.take k) ++ Cod.number l[k] := by
 unfold nums; rw [List.take_succ_eq_append_getElem h, List.flatMap_append]; simp
theorem nums_len (l : List Nat) (h : ∀ n ∈ l, n < 18446744073709551616) (k : Nat) (hk : k ≤ l.length) : (nums (l.take k)).length ≤ k * 10 := by
 induction k with
 | zero => exact Nat.le_refl _
 | succ k ih =>
   rw [nums_succ l k (by omega), List.length_append]
   have h1 := ih (by omega)
   have h2 := Cod.number_len (h _ (List.getElem_mem (by omega : k < l.length)))
   omega
end Tb
theorem u64_nat (n : Nat) (h : n < 9223372036854775808) : IntKind.u64.wrap (n : Int) = (n : Int) := by rw [IntKind.wrap_u64]; omega
set_option maxHeartbeats 1000000 in
theorem numsT_any (g c : Nat) (l : List Nat) (hl : l.length ≤ 1000) (hn : ∀ n ∈ l, n < 9223372036854775808) (w : World) (h : ∀ k (hk : k < l.length), w.cell? ⟨g, k, none⟩ = some (.int .i64 (l[k] : Int))) (hg : g < w.heap.size) :
   Calls Tryz.prog 46 #[.slice (some ⟨g, 0, none⟩) l.length c] w (GivesB w (Tb.nums l)) := by
 have HH := hid h; have HN := hid hn
 have HLN := hid (Tb.nums_len l (fun n hm => by have := hn n hm; omega))
 clear h hn
 go_enter Tryz.func46, Tryz.ntmps46
 go_wp2_with fail
 go_loopw [3, 8] (fun v i wr => ∃ (k : Nat) (A1 : Option Addr) (c1 : Nat) (L : List UInt8), k ≤ l.length ∧ i = .int .i64 (k : Int) ∧ v = .slice A1 L.length c1 ∧ Hid (L = Tb.nums (l.take k)) ∧ Hid (Own wr w.heap.size 5 A1 c1 L) ∧ Hid (Below w.heap.size w wr)) (fun _ i _ => l.length - (intOf i).toNat)
 case atStart => exact ⟨0, none, 0, [], by omega, rfl, rfl, hid rfl, hid (Own.nil _ _ _), hid (Below.refl _ _)⟩
 case round =>
   obtain ⟨k, A1, c1, L, hk, rfl, rfl, HL, HO, HW⟩ := hrel
   have hzr : w.heap.size ≤ wr.heap.size := HW.out.size
   by_cases hlt : k < l.length
   · have hc := (HW.out.cell (p := ⟨g, k, none⟩) hg).trans (HH.out k hlt)
     have hnk := HN.out _ (List.getElem_mem hlt)
     have HS := hid (Tb.nums_succ l k hlt)
     have hll : L.length ≤ 10000 := by have := HLN.out k hk; rw [← HL.out] at this; omega
     obtain ⟨x, hx⟩ : ∃ x, x = l[k] := ⟨_, rfl⟩
     rw [← hx] at hc HS hnk
     clear hx
     have KN := hid (number_any x (by omega) wr)
     have hnl := Cod.number_len (n := x) (by omega)
     have eu := u64_nat x hnk
     go_wp2_with fail
     refine KN.out.mono ?_
     rintro e w1 ⟨Ax, cx, rfl, hox, hbx⟩
     have HOX := hid hox.rd
     have HO1 : Hid (Own w1 w.heap.size 5 A1 c1 L) := hid (HO.out.below hbx)
     have HB1 : Hid (Below w.heap.size w w1) := hid (HW.out.trans (hbx.mono hzr))
     have hz1 : w.heap.size ≤ w1.heap.size := HB1.out.size
     clear hox hbx hc
     go_wp2_with (at_builtin; refine wpList_append_b _ rfl _ _ bt rfl w.heap.size A1 c1 L rfl HO1.out _ Ax (Cod.number x).length cx (Cod.number x) rfl rfl HOX.out (by omega) hz1 ?_)
     intro A5 c5 L5 w5 hL5 ho5 hg5 _
     have HL5 : Hid (L5 = Tb.nums (l.take (k + 1))) := hid (by rw [hL5, HL.out, HS.out])
     have HO5 := hid ho5
     have HB5 : Hid (Below w.heap.size w w5) := hid (below_grow HB1.out hg5 (fun g hg => (HO1.out.blk_ge g hg).1) hz1)
     clear hL5 ho5 hg5
     go_wp2_with fail
     go_round
     case rel => exact ⟨k + 1, A5, c5, L5, by omega, by go_num, rfl, HL5, HO5, HB5⟩
     case measure => simp [intOf]; omega
   · have hk3 : k = l.length := by omega
     subst hk3
     have HE : Hid (L = Tb.nums l) := hid (by rw [HL.out, List.take_of_length_le (Nat.le_refl _)])
     obtain ⟨n, hn⟩ : ∃ n, n = L.length := ⟨_, rfl⟩
     rw [← hn]
     have HN := hid hn; clear hn
     go_wp2_with fail
     go_ret
     refine ⟨A1, c1, ?_, ?_, HW.out⟩
     · rw [HN.out, HE.out]; rfl
     · rw [← HE.out]; exact HO.out
set_option maxHeartbeats 1000000 in
theorem rnumsT_any (g c : Nat) (l : List Nat) (hl : l.length ≤ 1000) (hn : ∀ n ∈ l, n < 9223372036854775808) (w : World) (h : ∀ k (hk : k < l.length), w.cell? ⟨g, k, none⟩ = some (.int .i64 (l[k] : Int))) (hg : g < w.heap.size) :
   Calls Tryz.prog 70 #[.slice (some ⟨g, 0, none⟩) l.length c] w (GivesB w (Tb.nums l)) := by
 have HH := hid h; have HN := hid hn
 have HLN := hid (Tb.nums_len l (fun n hm => by have := hn n hm; omega))
 clear h hn
 go_enter Tryz.func70, Tryz.ntmps70
 go_wp2_with fail
 go_loopw [3, 4] (fun v i wr => ∃ (k : Nat) (A1 : Option Addr) (c1 : Nat) (L : List UInt8), k ≤ l.length ∧ i = .int .i64 (k : Int) ∧ v = .slice A1 L.length c1 ∧ Hid (L = Tb.nums (l.take k)) ∧ Hid (Own wr w.heap.size 5 A1 c1 L) ∧ Hid (Below w.heap.size w wr)) (fun _ i _ => l.length - (intOf i).toNat)
 case atStart => exact ⟨0, none, 0, [], by omega, rfl, rfl, hid rfl, hid (Own.nil _ _ _), hid (Below.refl _ _)⟩
 case round =>
   obtain ⟨k, A1, c1, L, hk, rfl, rfl, HL, HO, HW⟩ := hrel
   have hzr : w.heap.size ≤ wr.heap.size := HW.out.size
   by_cases hlt : k < l.length
   · have hc := (HW.out.cell (p := ⟨g, k, none⟩) hg).trans (HH.out k hlt)
     have hnk := HN.out _ (List.getElem_mem hlt)
     have HS := hid (Tb.nums_succ l k hlt)
     have hll : L.length ≤ 10000 := by have := HLN.out k hk; rw [← HL.out] at this; omega
     obtain ⟨x, hx⟩ : ∃ x, x = l[k] := ⟨_, rfl⟩
     rw [← hx] at hc HS hnk
     clear hx
     have KN := hid (rnumber_any x (by omega) wr)
     have hnl := Cod.number_len (n := x) (by omega)
     have eu := u64_nat x hnk
     go_wp2_with fail
     refine KN.out.mono ?_
     rintro e w1 ⟨Ax, cx, rfl, hox, hbx⟩
     have HOX := hid hox.rd
     have HO1 : Hid (Own w1 w.heap.size 5 A1 c1 L) := hid (HO.out.below hbx)
     have HB1 : Hid (Below w.heap.size w w1) := hid (HW.out.trans (hbx.mono hzr))
     have hz1 : w.heap.size ≤ w1.heap.size := HB1.out.size
     clear hox hbx hc
     go_wp2_with (at_builtin; refine wpList_append_b _ rfl _ _ bt rfl w.heap.size A1 c1 L rfl HO1.out _ Ax (Cod.number x).length cx (Cod.number x) rfl rfl HOX.out (by omega) hz1 ?_)
     intro A5 c5 L5 w5 hL5 ho5 hg5 _
     have HL5 : Hid (L5 = Tb.nums (l.take (k + 1))) := hid (by rw [hL5, HL.out, HS.out])
     have HO5 := hid ho5
     have HB5 : Hid (Below w.heap.size w w5) := hid (below_grow HB1.out hg5 (fun g hg => (HO1.out.blk_ge g hg).1) hz1)
     clear hL5 ho5 hg5
     go_wp2_with fail
     go_round
     case rel => exact ⟨k + 1, A5, c5, L5, by omega, by go_num, rfl, HL5, HO5, HB5⟩
     case measure => simp [intOf]; omega
   · have hk3 : k = l.length := by omega
     subst hk3
     have HE : Hid (L = Tb.nums l) := hid (by rw [HL.out, List.take_of_length_le (Nat.le_refl _)])
     obtain ⟨n, hn⟩ : ∃ n, n = L.length := ⟨_, rfl⟩
     rw [← hn]
     have HN := hid hn; clear hn
     go_wp2_with fail
     go_ret
     refine ⟨A1, c1, ?_, ?_, HW.out⟩
     · rw [HN.out, HE.out]; rfl
     · rw [← HE.out]; exact HO.out
namespace Tb
def iparts (k : List UInt8) (n : Nat) : List Pt := [⟨true, 0, ⟨k.toArray⟩⟩, ⟨false, n, ⟨#[]⟩⟩]
def ikey (k : List UInt8) (seq : Int) : List UInt8 := Cod.key (iparts k (1099511627776 - seq).toNat)
def inner (r : Rv) : Pr := ⟨ikey r.k r.seq, (if r.del then 1 else 0) :: r.v⟩
theorem iparts_ok (k : List UInt8) (n : Nat) (hk : k.length ≤ 100000) (hn : n < 18446744073709551616) : (∀ p ∈ iparts k n, PartOk p) ∧ (Cod.key (iparts k n)).length ≤ 2 * (2 * k.length + 12) := by
 have hsz : (⟨k.toArray⟩ : ByteArray).size = k.length := by show k.toArray.size = _; simp
 have h0 : (⟨#[]⟩ : ByteArray).size = 0 := rfl
 refine ⟨fun p hp => ?_, ?_⟩
 · simp only [iparts, List.mem_cons, List.not_mem_nil, or_false] at hp
   rcases hp with rfl | rfl
   · exact ⟨by show 0 < _; omega, by show ByteArray.size _ ≤ _; rw [hsz]; omega⟩
   · exact ⟨hn, by show ByteArray.size _ ≤ _; rw [h0]; omega⟩
 · refine key_few (iparts k n) k.length (fun p hp => ?_) (fun p hp => ?_)
   · simp only [iparts, List.mem_cons, List.not_mem_nil, or_false] at hp
     rcases hp with rfl | rfl
     · rw [hsz]; omega
     · rw [h0]; omega
   · simp only [iparts, List.mem_cons, List.not_mem_nil, or_false] at hp
     rcases hp with rfl | rfl
     · show 0 < _; omega
     · exact hn
theorem ikey_len (k : List UInt8) (seq : Int) (hk : k.length ≤ 100000) (h1 : 1 ≤ seq) (h2 : seq ≤ 1099511627776) : (ikey k seq).length ≤ 4 * k.length + 24 := by
 have := (iparts_ok k (1099511627776 - seq).toNat hk (by omega)).2
 unfold ikey; omega
end Tb
theorem rdp_two (w : World) (s t : ByteArray) (n : Nat) : RdP (w.alloc (.cells #[.bool true, .int .u64 0, .string s, .bool false, .int .u64 (n : Int), .string t] 142)) (w.heap.size + 1) (some ⟨w.heap.size, 0, none⟩) [⟨true, 0, s⟩, ⟨false, n, t⟩] := by
 refine ⟨by rfl, fun _ => ⟨_, rfl, by simp, fun j u hu => ?_⟩⟩
 have hadd : (⟨w.heap.size, 0, none⟩ : Addr).add j = ⟨w.heap.size, j, none⟩ := by unfold Addr.add; split <;> simp_all
 rw [hadd, cell_of_row _ w.heap.size j _ _ (0, 0) (heap_alloc_new w _)]
 show (pv [⟨true, 0, s⟩, ⟨false, n, t⟩]).toArray[j]? = some u
 simpa using hu
set_option maxHeartbeats 1000000 in
theorem ikeyT_any (A : Option Addr) (c : Nat) (k : List UInt8) (seq : Int) (w : World) (h : RdB w w.heap.size A k) (hk : k.length ≤ 100000) (h1 : 1 ≤ seq) (h2 : seq ≤ 1099511627776) :
   Calls Tryz.prog 77 #[.slice A k.length c, .int .i64 seq] w (GivesB w (Tb.ikey k seq)) := by
 have s1 := strB_of (c := c) h
 unfold StrB at s1
 obtain ⟨n, hn⟩ : ∃ n, n = (1099511627776 - seq).toNat := ⟨_, rfl⟩
 have hok := Tb.iparts_ok k n hk (by omega)
 have E : Hid (Tb.ikey k seq = Cod.key (Tb.iparts k n)) := hid (by rw [hn]; rfl)
 have e1 : IntKind.u64.wrap (1099511627776 - seq) = (n : Int) := by rw [IntKind.wrap_u64, hn]; omega
 have HP : Hid (Tb.iparts k n = [⟨true, 0, ⟨k.toArray⟩⟩, ⟨false, n, ⟨#[]⟩⟩]) := hid rfl
 obtain ⟨S, hS⟩ : ∃ S : ByteArray, S = ⟨k.toArray⟩ := ⟨_, rfl⟩
 rw [← hS] at s1 HP
 have KK := hid (key_any (some ⟨w.heap.size, 0, none⟩) 2 (Tb.iparts k n) (w.alloc (.cells #[.bool true, .int .u64 0, .string S, .bool false, .int .u64 (n : Int), .string ⟨#[]⟩] 142)) (by rw [HP.out]; simpa using rdp_two w S ⟨#[]⟩ n) hok.1 (by rw [HP.out]; simp) (by omega))
 rw [show (Tb.iparts k n).length = 2 by rw [HP.out]; rfl] at KK
 clear hS hn hok
 go_enter Tryz.func77, Tryz.ntmps77
 go_wp2_with fail
 refine KK.out.mono ?_
 rintro e w1 ⟨A1, c1, rfl, ho, hb⟩
 have HO := hid ho; have HB := hid hb
 clear ho hb
 obtain ⟨N, hN⟩ : ∃ N, N = (Cod.key (Tb.iparts k n)).length := ⟨_, rfl⟩
 rw [← hN]
 have HN := hid hN
 clear hN
 go_wp2_with fail
 go_ret
 refine ⟨A1, c1, by rw [E.out, HN.out]; rfl, ?_, ?_⟩
 · rw [E.out]; exact HO.out.mono (by simp)
 · exact ((Below.refl _ _).alloc (Nat.le_refl _) _).trans (HB.out.mono (by simp))
theorem pair_size : (Tryz.prog.info? 77).map (fun x => x.size) = some 2 := by kernel_rfl
theorem heap_set2 {w : World} {g : Nat} {x y a b : Value} {T : TypeId} (h : w.heap[g]? = some (.cells #[x, y] T)) : ((w.setCell ⟨g, 0, none⟩ a).setCell ⟨g, 1, none⟩ b).heap[g]? = some (.cells #[a, b] T) := by
 have h1 := heap_setCell_same w g 0 _ T a h
 have h2 := heap_setCell_same _ g 1 _ T b h1
 simpa using h2
theorem Own.block {w : World} {base : Nat} {e : TypeId} {A : Option Addr} {c : Nat} {l : List UInt8} (h : Own w base e A c l) (hl : 0 < l.length) : ∃ g cur, A = some ⟨g, 0, none⟩ ∧ base ≤ g ∧ g < w.heap.size ∧ w.heap[g]? = some (.cells cur e) := by
 rcases h.2 with ⟨_, hn⟩ | ⟨g, cap, cur, hv, hg, hh, _⟩
 · omega
 · injection hv with hv
   subst hv
   exact ⟨g, cur, rfl, hg, (Array.getElem?_eq_some_iff.1 hh).1, hh⟩
theorem Own.put {w : World} {base : Nat} {e : TypeId} {g : Nat} {c : Nat} {b : UInt8} {l : List UInt8} (h : Own w base e (some ⟨g, 0, none⟩) c (b :: l)) (x : Int) (d : UInt8) (hx : (d.toNat : Int) = x) : Own (w.setCell ⟨g, 0, none⟩ (.int .u8 x)) base e (some ⟨g, 0, none⟩) c (d :: l) := by
 subst hx
 have := (World.ownsRow.stored h 0 (.int .u8 (d.toNat : Int))).1
 simpa [Own, bv] using this
theorem Own.cap_le {w : World} {base : Nat} {e : TypeId} {A : Option Addr} {c : Nat} {l : List UInt8} (h : Own w base e A c l) : c ≤ 9223372036854775807 := by
 rcases h.2 with ⟨hv, hn⟩ | ⟨g, cap, cur, hv, _, _, _, hm, _⟩
 · injection hv with _ _ h3; omega
 · injection hv with _ _ h3; unfold maxLen at hm; omega
theorem Own.cellput {w : World} {base : Nat} {e : TypeId} {A : Option Addr} {c : Nat} {l : List UInt8} (h : Own w base e A c l) (p : Addr) (v : Value) (hp : blk A ≠ some p.block) : Own (w.setCell p v) base e A c l :=
 World.ownsRow.kept h (grownBy_set w p v) (.inr (by rw [ownBlock_slice]; exact hp))
def InnerP (w : World) (p : Pr) (e : Ending) (w' : World) : Prop := ∃ A1 c1 A2 c2, e = .returned (.agg #[.slice A1 p.k.length c1, .slice A2 p.v.length c2]) ∧ Own w' w.heap.size 5 A1 c1 p.k ∧ Own w' w.heap.size 5 A2 c2 p.v ∧ Below w.heap.size w w'
set_option maxHeartbeats 2000000 in
set_option maxRecDepth 100000 in
theorem rinner_any (r : Rv) (w : World) (h : Rv.Ok w w.heap.size r) (hk : r.k.length ≤ 100000) (hv : r.v.length ≤ 100000) (h1 : 1 ≤ r.seq) (h2 : r.seq ≤ 1099511627776) :
   Calls Tryz.prog 103 #[r.val] w (InnerP w (Tb.inner r)) := by
 have HB0 : Hid (Below w.heap.size w ((w.alloc (.cells r.cells.toArray 35)).alloc (.cells #[.slice none 0 0, .slice none 0 0] 77))) := hid (((Below.refl _ _).alloc (Nat.le_refl _) _).alloc (by simp) _)
 have s1 := strB_of (c := r.kc) (h.key.below HB0.out (Nat.le_refl _))
 unfold StrB at s1
 have HV := hid h.val
 obtain ⟨kA, kc, k, seq, del, vA, vc, v⟩ := r
 simp only [Rv.cells, Rv.val] at s1 hk hv h1 h2 HV HB0 ⊢
 obtain ⟨n, hn⟩ : ∃ n, n = (1099511627776 - seq).toNat := ⟨_, rfl⟩
 have hok := Tb.iparts_ok k n hk (by omega)
 have E1 : Hid ((Tb.inner ⟨kA, kc, k, seq, del, vA, vc, v⟩).k = Cod.key (Tb.iparts k n)) := hid (by rw [hn]; rfl)
 have E2 : Hid ((Tb.inner ⟨kA, kc, k, seq, del, vA, vc, v⟩).v = (if del then 1 else 0) :: v) := hid rfl
 have e1 : IntKind.u64.wrap (1099511627776 - seq) = (n : Int) := by rw [IntKind.wrap_u64, hn]; omega
 have HP : Hid (Tb.iparts k n = [⟨true, 0, ⟨k.toArray⟩⟩, ⟨false, n, ⟨#[]⟩⟩]) := hid rfl
 obtain ⟨S, hS⟩ : ∃ S : ByteArray, S = ⟨k.toArray⟩ := ⟨_, rfl⟩
 rw [← hS] at s1 HP
 have KK : Hid (∀ W : World, Calls Tryz.prog 102 #[.slice (some ⟨W.heap.size, 0, none⟩) 2 2] (W.alloc (.cells #[.bool true, .int .u64 0, .string S, .bool false, .int .u64 (n : Int), .string ⟨#[]⟩] 142)) (GivesB (W.alloc (.cells #[.bool true, .int .u64 0, .string S, .bool false, .int .u64 (n : Int), .string ⟨#[]⟩] 142)) (Cod.key (Tb.iparts k n)))) := hid (fun W => by
   have := rkey_any (some ⟨W.heap.size, 0, none⟩) 2 (Tb.iparts k n) (W.alloc (.cells #[.bool true, .int .u64 0, .string S, .bool false, .int .u64 (n : Int), .string ⟨#[]⟩] 142)) (by rw [HP.out]; simpa using rdp_two W S ⟨#[]⟩ n) hok.1 (by rw [HP.out]; simp) (by omega)
   rw [show (Tb.iparts k n).length = 2 by rw [HP.out]; rfl] at this
   exact this)
 obtain ⟨K, hK⟩ : ∃ K, K = Cod.key (Tb.iparts k n) := ⟨_, rfl⟩
 have hKl : K.length ≤ 500000 := by rw [hK]; omega
 rw [← hK] at KK E1
 have HB00 := hid (own_one (w := w) (x := 0) (b := 0) rfl)
 clear hS hn hok h hK HB00
 go_enter Tryz.func103, Tryz.ntmps103
 go_wp2_with fail
 obtain ⟨W0, hW0, r2, r3, rg, hz0, hB0⟩ : ∃ W0 : World, (((w.alloc (.cells #[.slice kA k.length kc, .int .i64 seq, .bool del, .slice vA v.length vc] 35)).alloc (.cells #[.slice none 0 0, .slice none 0 0] 77)).alloc (.cells #[.bool true, .int .u64 0, .string S, .bool false, .int .u64 (n : Int), .string ⟨#[]⟩] 142)) = W0 ∧
     W0.cell? ⟨w.heap.size, 2, none⟩ = some (.bool del) ∧ W0.cell? ⟨w.heap.size, 3, none⟩ = some (.slice vA v.length vc) ∧ W0.heap[w.heap.size + 1]? = some (.cells #[.slice none 0 0, .slice none 0 0] 77) ∧ W0.heap.size = w.heap.size + 3 ∧ Below w.heap.size w W0 := by
   have r : ((((w.alloc (.cells #[.slice kA k.length kc, .int .i64 seq, .bool del, .slice vA v.length vc] 35)).alloc (.cells #[.slice none 0 0, .slice none 0 0] 77)).alloc (.cells #[.bool true, .int .u64 0, .string S, .bool false, .int .u64 (n : Int), .string ⟨#[]⟩] 142))).heap[w.heap.size]? = some (.cells #[.slice kA k.length kc, .int .i64 seq, .bool del, .slice vA v.length vc] 35) :=
     (Below.heap_alloc _ _ _ (by simp; omega)).trans ((Below.heap_alloc _ _ _ (by simp)).trans (World.alloc_heap_new w _))
   refine ⟨_, rfl, ?_, ?_, ?_, ?_, ?_⟩
   · rw [cell_of_row _ w.heap.size 2 _ _ (0, 0) r]; rfl
   · rw [cell_of_row _ w.heap.size 3 _ _ (0, 0) r]; rfl
   · refine (Below.heap_alloc _ _ _ (by simp)).trans ?_
     have := World.alloc_heap_new (w.alloc (.cells #[.slice kA k.length kc, .int .i64 seq, .bool del, .slice vA v.length vc] 35)) (.cells #[.slice none 0 0, .slice none 0 0] 77)
     simpa only [World.size_alloc] using this
   · simp
   · exact HB0.out.alloc (by simp; omega) _
 have KQ := KK.out ((w.alloc (.cells #[.slice kA k.length kc, .int .i64 seq, .bool del, .slice vA v.length vc] 35)).alloc (.cells #[.slice none 0 0, .slice none 0 0] 77))
 simp only [World.size_alloc] at KQ
 rw [hW0] at KQ ⊢
 have KQ2 := hid KQ
 clear hW0 KQ HB0
 refine KQ2.out.mono ?_
 rintro e w1 ⟨A1, c1, rfl, ho, hb⟩
 rw [hz0] at ho hb
 have HO := hid ho
 have HB := hid hb
 have hz1 : w.heap.size + 3 ≤ w1.heap.size := by have := HB.out.size; omega
 have HBW : Hid (Below w.heap.size w w1) := hid (hB0.trans (HB.out.mono (by omega)))
 have q2 := (HB.out.cell (p := ⟨w.heap.size, 2, none⟩) (by show w.heap.size < _; omega)).trans r2
 have q3 := (HB.out.cell (p := ⟨w.heap.size, 3, none⟩) (by show w.heap.size < _; omega)).trans r3
 have HG : Hid (w1.heap[w.heap.size + 1]? = some (.cells #[.slice none 0 0, .slice none 0 0] 77)) := hid ((HB.out.block _ (by omega)).trans rg)
 clear ho hb KQ2 r2 r3 rg hB0
 have HOB := hid (HO.out.blk_ge)
 have hlw : w.heap.size < w1.heap.size := by omega
 have q3a : (w1.alloc (.cells #[.int .u8 0] 5)).cell? ⟨w.heap.size, 3, none⟩ = some (.slice vA v.length vc) := (World.cell?_alloc_lt w1 _ ⟨w.heap.size, 3, none⟩ hlw).trans q3
 have HN : Hid (Own (w1.alloc (.cells #[.int .u8 0] 5)) w1.heap.size 5 (some ⟨w1.heap.size, 0, none⟩) 1 [0]) := hid (own_one rfl)
 go_wp2_with (at_builtin; refine wpList_append_b _ rfl _ _ bt rfl w1.heap.size (some ⟨w1.heap.size, 0, none⟩) 1 [0] rfl HN.out w.heap.size vA v.length vc v rfl rfl ((HV.out.below HBW.out (Nat.le_refl _)).alloc (by omega) _) (by simp; omega) (by simp) ?_)
 intro A2 c2 L w2 hL ho2 hg2 hat2
 have HL : Hid (L = 0 :: v) := hid hL
 have HO2 := hid ho2
 have HB2 : Hid (Below w1.heap.size w1 w2) := hid (below_grow ((Below.refl _ _).alloc (Nat.le_refl _) _) hg2 (fun g hg => (HN.out.blk_ge g hg).1) (by simp))
 have p2 := (HB2.out.cell (p := ⟨w.heap.size, 2, none⟩) (by show w.heap.size < _; omega)).trans q2
 have hz2 : w1.heap.size ≤ w2.heap.size := HB2.out.size
 have HG2 : Hid (w2.heap[w.heap.size + 1]? = some (.cells #[.slice none 0 0, .slice none 0 0] 77)) := hid ((HB2.out.block _ (by omega)).trans HG.out)
 have HO1 : Hid (Own w2 w.heap.size 5 A1 c1 K) := hid ((HO.out.below HB2.out).mono (by omega))
 have HA1 : Hid (∀ g, blk A1 = some g → w.heap.size + 3 ≤ g ∧ g < w1.heap.size) := hid (fun g hg => HO.out.blk_ge g hg)
 have HW2 : Hid (Below w.heap.size w w2) := hid (HBW.out.trans (HB2.out.mono (by omega)))
 have hLl : L.length = v.length + 1 := by rw [HL.out]; rfl
 clear hL ho2 hg2 hat2 q2 q3 q3a
 obtain ⟨g2, cur2, hA2, hg21, hg22, hh2⟩ := HO2.out.block (by omega)
 subst hA2
 obtain ⟨f0, hf0⟩ : ∃ f0, f0 = w2.frozen? ⟨w.heap.size + 1, 0, none⟩ := ⟨_, rfl⟩
 have G0 := cell_of_row w2 (w.heap.size + 1) 0 _ _ (0, 0) HG2.out
 have G1 := cell_of_row w2 (w.heap.size + 1) 1 _ _ (0, 0) HG2.out
 have F0 := frozen_of_row w2 (w.heap.size + 1) 0 _ _ HG2.out
 have F1 := frozen_of_row w2 (w.heap.size + 1) 1 _ _ HG2.out
 have G0' : w2.cell? ⟨w.heap.size + 1, 0, none⟩ = some (.slice none 0 0) := G0
 have G1' : w2.cell? ⟨w.heap.size + 1, 1, none⟩ = some (.slice none 0 0) := G1
 clear G0 G1 hf0 f0
 cases del with
 | false =>
   go_wp2_with fail
   refine bodyPost_ret (results_cell_row rfl _ _ (w.heap.size + 1) 77 #[.slice A1 K.length c1, .slice (some ⟨g2, 0, none⟩) (v.length + 1) c2] (0, 0) _ rfl (heap_set2 HG2.out) Tryz.underlying77 rfl pair_size) rfl ?_
   refine ⟨A1, c1, some ⟨g2, 0, none⟩, c2, ?_, ?_, ?_, (HW2.out.setCell (by show w.heap.size ≤ w.heap.size + 1; omega) _).setCell (by show w.heap.size ≤ w.heap.size + 1; omega) _⟩
   · rw [E1.out, E2.out]; rfl
   · rw [E1.out]
     refine (HO1.out.cellput _ _ (fun h => ?_)).cellput _ _ (fun h => ?_)
     · have := (HA1.out _ h).1; simp at this
     · have := (HA1.out _ h).1; simp at this
   · rw [E2.out]
     have := HO2.out
     rw [HL.out] at this
     refine ((this.mono (by omega)).cellput _ _ (fun h => ?_)).cellput _ _ (fun h => ?_)
     · simp [blk] at h; omega
     · simp [blk] at h; omega
 | true =>
   have c0 : w2.cell? ⟨g2, 0, none⟩ = some (.int .u8 0) := by
     obtain ⟨ad, e, _, hc⟩ := HO2.out.rd.cell (k := 0) (by omega)
     injection e with e
     subst e
     have e3 : L[0]'(by omega) = 0 := by simp only [HL.out]; rfl
     rw [e3] at hc
     exact hc
   have c0f := frozen_of_row w2 g2 0 _ _ hh2
   have hgne : g2 ≠ w.heap.size + 1 := by omega
   have X0 : (w2.setCell ⟨g2, 0, none⟩ (.int .u8 1)).cell? ⟨w.heap.size + 1, 0, none⟩ = some (.slice none 0 0) := (World.cell?_setCell_other w2 _ _ _ (fun e => hgne (by injection e))).trans G0'
   have X1 : (w2.setCell ⟨g2, 0, none⟩ (.int .u8 1)).cell? ⟨w.heap.size + 1, 1, none⟩ = some (.slice none 0 0) := (World.cell?_setCell_other w2 _ _ _ (fun e => hgne (by injection e))).trans G1'
   have Y0 : (w2.setCell ⟨g2, 0, none⟩ (.int .u8 1)).frozen? ⟨w.heap.size + 1, 0, none⟩ = false := by rw [World.frozen?_setCell]; exact F0
   have Y1 : (w2.setCell ⟨g2, 0, none⟩ (.int .u8 1)).frozen? ⟨w.heap.size + 1, 1, none⟩ = false := by rw [World.frozen?_setCell]; exact F1
   go_wp2_with fail
   refine bodyPost_ret (results_cell_row rfl _ _ (w.heap.size + 1) 77 #[.slice A1 K.length c1, .slice (some ⟨g2, 0, none⟩) (v.length + 1) c2] (0, 0) _ rfl (heap_set2 ((Below.heap_setCell w2 _ _ _ (fun e => hgne (by rw [e]))).trans HG2.out)) Tryz.underlying77 rfl pair_size) rfl ?_
   refine ⟨A1, c1, some ⟨g2, 0, none⟩, c2, ?_, ?_, ?_, ((HW2.out.setCell (by show w.heap.size ≤ g2; omega) _).setCell (by show w.heap.size ≤ w.heap.size + 1; omega) _).setCell (by show w.heap.size ≤ w.heap.size + 1; omega) _⟩
   · rw [E1.out, E2.out]; rfl
   · rw [E1.out]
     refine ((HO1.out.cellput _ _ (fun h => ?_)).cellput _ _ (fun h => ?_)).cellput _ _ (fun h => ?_)
     · have := (HA1.out _ h).2; simp at this; omega
     · have := (HA1.out _ h).1; simp at this
     · have := (HA1.out _ h).1; simp at this
   · rw [E2.out]
     have := HO2.out
     rw [HL.out] at this
     have h2 := (this.mono (base' := w.heap.size) (by omega)).put 1 1 rfl
     refine (h2.cellput _ _ (fun h => ?_)).cellput _ _ (fun h => ?_)
     · simp [blk] at h; omega
     · simp [blk] at h; omega
theorem onc_disable (w : World) : (callFunc 133 #[]).run Tryz.prog w = .ok (.value (.tuple #[])) w := run_call_mark0 Tryz.func133 (by kernel_rfl) (by kernel_rfl) (by kernel_rfl) .disable (by kernel_rfl) w
theorem onc_enable (w : World) : (callFunc 135 #[]).run Tryz.prog w = .ok (.value (.tuple #[])) w := run_call_mark0 Tryz.func135 (by kernel_rfl) (by kernel_rfl) (by kernel_rfl) .enable (by kernel_rfl) w
theorem onc_acquire (a : Addr) (w : World) : (callFunc 136 #[.pointer (some a)]).run Tryz.prog w = .ok (.value (.tuple #[])) w := run_call_marked Tryz.func136 (by kernel_rfl) (by kernel_rfl) (by kernel_rfl) .acquire (by kernel_rfl) a w
theorem onc_release (a : Addr) (w : World) : (callFunc 138 #[.pointer (some a)]).run Tryz.prog w = .ok (.value (.tuple #[])) w := run_call_marked Tryz.func138 (by kernel_rfl) (by kernel_rfl) (by kernel_rfl) .releaseMerge (by kernel_rfl) a w
set_option maxRecDepth 100000 in
theorem onc_store (a : Addr) (x : Value) (u : FrameMode) (w : World) (hc : w.cell? a = some x) (hz : w.frozen? a = false) :
   CallsD Tryz.prog 121 #[.pointer (some a), .bool true] u w fun e u' w' => u' = u ∧ (e = .returned (.tuple #[]) ∧ w' = w.drew.setCell a (.int .u32 1)) := by
 have hc' : w.drew.cell? a = some x := by go_simp
 have hz' : w.drew.frozen? a = false := by go_simp
 have hst := run_call_store (P := Tryz.prog) Tryz.func128 (by kernel_rfl) (by kernel_rfl) (by kernel_rfl) (by kernel_rfl) (k := .u32) (y := 1) hc' hz'
 go_enter_d Tryz.func121, Tryz.ntmps121
 go_wp2
 go_region_calls
 all_goals (go_end0; exact ⟨rfl, rfl⟩)
set_option maxRecDepth 100000 in
theorem onc_unlock (a : Addr) (u : FrameMode) (w : World) (hc : w.cell? a = some (.int .i32 1)) (hz : w.frozen? a = false) :
   CallsD Tryz.prog 120 #[.pointer (some a)] u w fun e u' w' => u' = u ∧ (e = .returned (.tuple #[]) ∧ w' = w.setCell a (.int .i32 0)) := by
 have hd := onc_disable
 have he := onc_enable
 have hr := onc_release
 have hadd := run_call_add (P := Tryz.prog) Tryz.func139 (by kernel_rfl) (by kernel_rfl) (by kernel_rfl) .i32 (by kernel_rfl) (y := -1) (s := 0) hc hz (by simp [go_sem]; rfl)
 have hcv := run_convert_to_unsafe (P := Tryz.prog) (src := 200) (dst := 204) Tryz.underlying200 Tryz.underlying204 (by kernel_rfl) hc
 go_enter_d Tryz.func120, Tryz.ntmps120
 go_wp2
 go_end0
 go_wp2
 go_end0
 exact ⟨rfl, rfl⟩
set_option maxRecDepth 100000 in
theorem onc_lock (a : Addr) (w : World) (hc : w.cell? a = some (.int .i32 0)) (hz : w.frozen? a = false) :
   Calls Tryz.prog 119 #[.pointer (some a)] w fun e w' => e = .returned (.tuple #[]) ∧ w' = w.setCell a (.int .i32 1) := by
 have hd := onc_disable
 have he := onc_enable
 have ha := onc_acquire
 have hcas := run_call_cas_hit (P := Tryz.prog) Tryz.func134 (by kernel_rfl) (by kernel_rfl) (by kernel_rfl) .i32 (by kernel_rfl) (y := 1) hc hz
 have hc' : (w.setCell a (.int .i32 1)).cell? a = some (.int .i32 1) := World.cell?_setCell_same w a _ hc
 have hcv := run_convert_to_unsafe (P := Tryz.prog) (src := 200) (dst := 204) Tryz.underlying200 Tryz.underlying204 (by kernel_rfl) hc'
 go_enter Tryz.func119, Tryz.ntmps119
 go_wp2
 first | go_end0 | (simp only [Exit.inBlock, Exit.then]; refine bodyPost_ret (results_none rfl _ _ _) rfl ?_) | refine bodyPost_ret (results_none rfl _ _ _) rfl ?_
 go_wp2
 go_end0
 exact ⟨rfl, rfl⟩
set_option maxRecDepth 100000 in
set_option maxHeartbeats 1600000 in
theorem onc_slow (g o : Nat) (lb : Array Value) (Q : World → Prop) (w : World) (h0 : w.cell? ⟨g, o, none⟩ = some (.int .u32 0)) (h1 : w.cell? ⟨g, o + 1, none⟩ = some (.int .i32 0)) (f1 : w.frozen? ⟨g, o + 1, none⟩ = false)
   (hK : Calls Tryz.prog 73 lb (w.setCell ⟨g, o + 1, none⟩ (.int .i32 1)) fun e w' => e = .returned (.tuple #[]) ∧ Q w')
   (hQ : ∀ w', Q w' → w'.cell? ⟨g, o, none⟩ = some (.int .u32 0) ∧ w'.frozen? ⟨g, o, none⟩ = false ∧ w'.cell? ⟨g, o + 1, none⟩ = some (.int .i32 1) ∧ w'.frozen? ⟨g, o + 1, none⟩ = false) :
   Calls Tryz.prog 107 #[.pointer (some ⟨g, o, none⟩), .func (.func 73) #[] lb] w fun e w' => e = .returned (.tuple #[]) ∧
     ∃ w1, Q w1 ∧ w' = (w1.drew.setCell ⟨g, o, none⟩ (.int .u32 1)).setCell ⟨g, o + 1, none⟩ (.int .i32 0) := by
 have hl := run_call_load (P := Tryz.prog) Tryz.func118 (by kernel_rfl) (by kernel_rfl) (by kernel_rfl) .u32 (by kernel_rfl) (w := w.setCell ⟨g, o + 1, none⟩ (.int .i32 1)) (a := ⟨g, o, none⟩) (x := 0) ((World.cell?_setCell_other _ ⟨g, o + 1, none⟩ ⟨g, o, none⟩ _ (by simp)).trans h0)
 have hnot : ∀ (x : Bool) (w : World), (Op.unary .not (.bool x)).run Tryz.prog w = .ok (.bool (!x)) w := fun _ _ => rfl
 have HK := hid hK
 have HQ := hid hQ
 clear hK hQ
 go_enter_defers Tryz.func107, Tryz.ntmps107
 go_wp2_with (go_at_call 119; refine (onc_lock ⟨g, o + 1, none⟩ _ (by go_simp) (by go_simp)).mono ?_; rintro e w' ⟨rfl, rfl⟩)
 go_wp2_with (go_at_call 106; go_in)
 refine HK.out.mono ?_
 rintro e w1 ⟨rfl, hq⟩
 obtain ⟨q0, z0, q1, z1⟩ := HQ.out w1 hq
 have HQ1 := hid hq
 clear hq
 go_wp2
 refine leaves_cons (f := 121) (args := #[.pointer (some ⟨g, o, none⟩), .bool true]) (by simp) (by simp [go_sem]) ?_
 refine (onc_store ⟨g, o, none⟩ (.int .u32 0) .returning _ q0 z0).mono ?_
 rintro e u' w'' ⟨rfl, rfl, rfl⟩
 refine leaves_cons (f := 120) (args := #[.pointer (some ⟨g, o + 1, none⟩)]) (by simp [settle]) (by simp [go_sem]) ?_
 refine (onc_unlock ⟨g, o + 1, none⟩ _ _ ?_ (by simp [z1])).mono ?_
 · refine (World.cell?_setCell_other _ ⟨g, o, none⟩ ⟨g, o + 1, none⟩ _ (by simp)).trans ?_
   rw [World.cell?_drew]
   exact q1
 rintro e u' w'' ⟨rfl, rfl, rfl⟩
 simp [Leaves, settle, results, Tryz.results107]
 exact ⟨w1, HQ1.out, rfl⟩
set_option maxRecDepth 100000 in
theorem onc_first (g o : Nat) (lb : Array Value) (Q : World → Prop) (w : World) (h0 : w.cell? ⟨g, o, none⟩ = some (.int .u32 0)) (h1 : w.cell? ⟨g, o + 1, none⟩ = some (.int .i32 0)) (f1 : w.frozen? ⟨g, o + 1, none⟩ = false)
   (hK : Calls Tryz.prog 73 lb (w.setCell ⟨g, o + 1, none⟩ (.int .i32 1)) fun e w' => e = .returned (.tuple #[]) ∧ Q w')
   (hQ : ∀ w', Q w' → w'.cell? ⟨g, o, none⟩ = some (.int .u32 0) ∧ w'.frozen? ⟨g, o, none⟩ = false ∧ w'.cell? ⟨g, o + 1, none⟩ = some (.int .i32 1) ∧ w'.frozen? ⟨g, o + 1, none⟩ = false) :
   Calls Tryz.prog 72 #[.pointer (some ⟨g, o, none⟩), .func (.func 73) #[] lb] w fun e w' => e = .returned (.tuple #[]) ∧
     ∃ w1, Q w1 ∧ w' = (w1.drew.setCell ⟨g, o, none⟩ (.int .u32 1)).setCell ⟨g, o + 1, none⟩ (.int .i32 0) := by
 have hl := run_call_load (P := Tryz.prog) Tryz.func118 (by kernel_rfl) (by kernel_rfl) (by kernel_rfl) .u32 (by kernel_rfl) h0
 have hnot : ∀ (x : Bool) (w : World), (Op.unary .not (.bool x)).run Tryz.prog w = .ok (.bool (!x)) w := fun _ _ => rfl
 have HS := hid (onc_slow g o lb Q w h0 h1 f1 hK hQ)
 clear hK hQ
 go_enter Tryz.func72, Tryz.ntmps72
 go_wp2_with (go_at_call 106; go_in)
 refine HS.out.mono ?_
 rintro e w' ⟨rfl, w1, hq, rfl⟩
 have HQ1 := hid hq
 clear hq
 go_wp2
 go_end0
 exact ⟨rfl, w1, HQ1.out, rfl⟩
set_option maxRecDepth 100000 in
theorem onc_done (a : Addr) (d : Int) (hd : ¬ d = 0) (fv : Value) (w : World) (h0 : w.cell? a = some (.int .u32 d)) :
   Calls Tryz.prog 72 #[.pointer (some a), fv] w fun e w' => e = .returned (.tuple #[]) ∧ w' = w := by
 have hl := run_call_load (P := Tryz.prog) Tryz.func118 (by kernel_rfl) (by kernel_rfl) (by kernel_rfl) .u32 (by kernel_rfl) h0
 have hnot : ∀ (x : Bool) (w : World), (Op.unary .not (.bool x)).run Tryz.prog w = .ok (.bool (!x)) w := fun _ _ => rfl
 have hd' : (d != 0) = true := by simp [hd]
 go_enter Tryz.func72, Tryz.ntmps72
 go_wp2
 go_end0
 exact ⟨rfl, rfl⟩
end Go.Proofs.YtgafionfojnieaaGreatDoor
