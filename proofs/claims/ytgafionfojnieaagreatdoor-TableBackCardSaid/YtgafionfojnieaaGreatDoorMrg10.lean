/- Parts of the proof, one behind the other: The contract of the closure that bloom's probes hands back. -/
import Derived.Test.YtgafionfojnieaaGreatDoorMrg09
import Derived.RangeFuncNested
import Derived.Shelf.Abstract
import Derived.Shelf.RegionOpen
import Derived.OwnWalkIn
import Derived.TacticsInMore
import Derived.LoopNIn
import Derived.LoopIn
namespace Go.Proofs.YtgafionfojnieaaGreatDoor
open Go.RowKit Go.Shelf
open Lib (hid)
attribute [local go_sem] Oper.semAt_some
theorem box_cell {W : World} {B : Nat} {v : Value} {t : TypeId} (h : W.heap[B]? = some (.cells #[v] t)) : W.cell? ⟨B, 0, none⟩ = some v := by simp [World.cell?, h]
theorem box_frozen {W : World} {B : Nat} {v : Value} {t : TypeId} (h : W.heap[B]? = some (.cells #[v] t)) : W.frozen? ⟨B, 0, none⟩ = false := by simp [World.frozen?, h]
theorem box_set {W : World} {B : Nat} {v : Value} {t : TypeId} (h : W.heap[B]? = some (.cells #[v] t)) (u : Value) : (W.setCell ⟨B, 0, none⟩ u).heap[B]? = some (.cells #[u] t) := by
 obtain ⟨hlt, hk⟩ := Array.getElem?_eq_some_iff.1 h
 show (W.heap.modify B _)[B]? = _
 rw [Array.getElem?_eq_getElem (by rw [Array.size_modify]; exact hlt), Array.getElem_modify_self, hk]
 rfl
theorem box_set_other {W : World} {B C : Nat} (hne : B ≠ C) (u : Value) : (W.setCell ⟨C, 0, none⟩ u).heap[B]? = W.heap[B]? := Below.heap_setCell W ⟨C, 0, none⟩ u B hne
namespace Blm
abbrev Pos (m : Nat) := { j : Nat // j < m }
def encs (fb : Nat) {m : Nat} (x : Pos m) : Array Value := #[.pointer (some ⟨fb, 1 + x.1 / 8, none⟩), .int .u8 (2 ^ (x.1 % 8) % 256)]
def nth (h g : Nat) {m : Nat} (hm : 0 < m) (i : Nat) : Pos m := ⟨(h + i * g) % m, Nat.mod_lt _ hm⟩
def upTo (h g : Nat) {m : Nat} (hm : 0 < m) (k : Nat) : List (Pos m) := (List.range k).map (nth h g hm)
theorem upTo_succ (h g : Nat) {m : Nat} (hm : 0 < m) (k : Nat) : upTo h g hm (k + 1) = upTo h g hm k ++ [nth h g hm k] := by simp [upTo, List.range_succ]
theorem upTo_length (h g : Nat) {m : Nat} (hm : 0 < m) (k : Nat) : (upTo h g hm k).length = k := by simp [upTo]
structure Boxes (b0 b1 b2 : Nat) (fv : Value) (y g : Nat) (W : World) : Prop where
 x0 : W.heap[b0]? = some (.cells #[fv] 22)
 x1 : W.heap[b1]? = some (.cells #[.int .u64 (y : Int)] 62)
 x2 : W.heap[b2]? = some (.cells #[.int .u64 (g : Int)] 62)
def KpB (b0 b1 b2 : Nat) (W W' : World) : Prop := W'.heap[b0]? = W.heap[b0]? ∧ W'.heap[b1]? = W.heap[b1]? ∧ W'.heap[b2]? = W.heap[b2]?
end Blm
open Blm in
set_option maxHeartbeats 2000000 in
set_option maxRecDepth 100000 in
theorem probes1_in (F : Fence) (n : Nat) (hf : F.fn 112) (hro : F.round = none) (hn : 1 ≤ n) (l b0 b1 b2 fb fc : Nat) (p h g s : Nat) (hs : 0 < 8 * s) (hs2 : s ≤ 1125899906842624) (hp : p ≤ 12) (hh : h < 2147483647) (hg : g ≤ 2147483647) (hne : b0 ≠ b1 ∧ b2 ≠ b1)
   (J Jx : List (Pos (8 * s)) → World → Prop) (hJ : AbO (fun r => r = b1) J)
   (hY : ∀ pre x W1, J pre W1 → pre.length < p → YieldAt F (n - 1) Tryz.prog l (encs fb x) W1 fun e W' => (e = .returned (.bool true) ∧ J (pre ++ [x]) W' ∧ KpB b0 b1 b2 W1 W') ∨ (e = .returned (.bool false) ∧ Jx (pre ++ [x]) W'))
   (W : World) (hB : Boxes b0 b1 b2 (.slice (some ⟨fb, 0, none⟩) (1 + s) fc) h g W) (hc : W.cell? ⟨fb, 0, none⟩ = some (.int .u8 (p : Int))) (h0 : J [] W) :
   CallsIn F n Tryz.prog 112 #[.func (.yield l) #[] #[], .pointer (some ⟨b0, 0, none⟩), .pointer (some ⟨b1, 0, none⟩), .pointer (some ⟨b2, 0, none⟩)] W fun e W' => (∃ v, e = .returned v) ∧
     ((∃ ys, ys = upTo h g hs p ∧ J ys W') ∨ (∃ pre, (∃ k, k < p ∧ pre = upTo h g hs (k + 1)) ∧ Jx pre W')) := by
 have HB := hid hB
 have q0 := box_cell hB.x0
 clear hB
 refine callsIn_of_wp Tryz.func112 rfl hf ?_ hro
 simp only [Tryz.ntmps112, List.size_toArray, List.length_cons, List.length_nil, Nat.reduceAdd, Nat.reduceSub, Array.replicate_succ, Array.replicate_zero, List.push_toArray, List.append_toArray, List.nil_append, List.cons_append]
 gi_wp2
 gi_loopw [9] (fun i wr => ∃ k : Nat, k ≤ p ∧ i = .int .u8 (k : Int) ∧ Hid (J (upTo h g hs k) wr) ∧ Hid (Boxes b0 b1 b2 (.slice (some ⟨fb, 0, none⟩) (1 + s) fc) (h + k * g) g wr)) (fun i _ => p - (intOf i).toNat)
 case atStart => exact ⟨0, Nat.zero_le _, rfl, hid h0, hid (by have := HB.out; simpa using this)⟩
 case round =>
   obtain ⟨k, hk, rfl, HJ, HX⟩ := hrel
   by_cases hlt : k < p
   · obtain ⟨fn, tmps, assign, body, hy, hR⟩ := hY _ (nth h g hs k) wr HJ.out (by rw [upTo_length]; exact hlt)
     have hkg : k * g ≤ 12 * 2147483647 := Nat.mul_le_mul (by omega) hg
     have HSUC := hid (upTo_succ h g hs k)
     have r0 := box_cell HX.out.x0
     have r1 := box_cell HX.out.x1
     have r2 := box_cell HX.out.x2
     obtain ⟨Y, hYY⟩ : ∃ Y, Y = h + k * g := ⟨_, rfl⟩
     obtain ⟨R, hR2⟩ : ∃ R, R = Y % (8 * s) := ⟨_, rfl⟩
     have hRs : R < 8 * s := by rw [hR2]; exact Nat.mod_lt _ hs
     have hY2 : Y ≤ 30000000000 := by omega
     have hnx : h + (k + 1) * g = Y + g := by rw [hYY, Nat.add_mul, Nat.one_mul]; omega
     have HNX := hid hnx
     have henc : encs fb (nth h g hs k) = #[.pointer (some ⟨fb, 1 + R / 8, none⟩), .int .u8 (2 ^ (R % 8) % 256)] := by
       unfold encs nth; simp only; rw [← hYY, ← hR2]
     rw [henc] at hy
     rw [← hYY] at r1 HX
     have e1 : IntKind.u64.wrap (8 * ((s : Nat) : Int)) = 8 * (s : Int) := by rw [IntKind.wrap_u64]; omega
     have e2 : (Y : Int) % (8 * (1 + (s : Int) - 1)) = (R : Int) := by rw [hR2, Int.natCast_emod, show 8 * (1 + (s : Int) - 1) = ((8 * s : Nat) : Int) by omega]
     have e3 : IntKind.u64.wrap (1 + (R : Int) / 8) = 1 + (R : Int) / 8 := by rw [IntKind.wrap_u64]; omega
     have e4 : IntKind.u64.wrap ((Y : Int) + (g : Int)) = (Y : Int) + (g : Int) := by rw [IntKind.wrap_u64]; omega
     clear hYY hR2 hnx henc
     gi_wp2_with fail
     refine hR.mono ?_
     rintro e W3 (⟨rfl, hJ3, hk3⟩ | ⟨rfl, hJx3⟩)
     · have HX3 : Hid (Boxes b0 b1 b2 (.slice (some ⟨fb, 0, none⟩) (1 + s) fc) Y g W3) := hid ⟨hk3.1.trans HX.out.x0, hk3.2.1.trans HX.out.x1, hk3.2.2.trans HX.out.x2⟩
       have HJ3 := hid hJ3
       have t1 := box_cell HX3.out.x1
       have t2 := box_cell HX3.out.x2
       have tf := box_frozen HX3.out.x1
       clear hk3 hJ3 r0 r1 r2 hy hR
       gi_wp2_with fail
       go_roundw
       case rel =>
         refine ⟨k + 1, by omega, by go_num, hid ?_, hid ?_⟩
         · rw [HSUC.out]; exact hJ.setCell HJ3.out _ _ rfl
         · rw [HNX.out]
           have := box_set HX3.out.x1 (.int .u64 ((Y + g : Nat) : Int))
           exact ⟨(box_set_other hne.1 _).trans HX3.out.x0, by simpa using this, (box_set_other hne.2 _).trans HX3.out.x2⟩
       case measure => simp [intOf]; omega
     · have HJX : Hid (Jx (upTo h g hs (k + 1)) W3) := hid (by rw [HSUC.out]; exact hJx3)
       gi_wp2_with fail
       refine bodyPost_ret (results_none rfl _ _ _) rfl ?_
       exact ⟨⟨_, rfl⟩, .inr ⟨_, ⟨k, hlt, rfl⟩, HJX.out⟩⟩
   · have hk2 : k = p := by omega
     subst hk2
     gi_wp2_with fail
     go_end0
     exact ⟨⟨_, rfl⟩, .inl ⟨_, rfl, HJ.out⟩⟩
end Go.Proofs.YtgafionfojnieaaGreatDoor
