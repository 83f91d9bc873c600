/- Parts of the proof, one behind the other: Contracts of package bytes at one byte: IndexByte, Count, Index, and Replace, ReplaceAll of one byte by some.; The contract of bytes.Compare.; bytes.Replace of one byte by two. -/
import Derived.Test.YtgafionfojnieaaGreatDoorMrg02
import Derived.Test.YtgafionfojnieaaGreatDoorMrg13
import Derived.Lib.BytesEntry
import Derived.Deep.RegionLaw
import Derived.Deep.RegionHeld
import Derived.Lib.Bytealg
import Derived.Deep.RegionHeldLaw
namespace Go.Proofs.YtgafionfojnieaaGreatDoor
open Go.RowKit
open Lib (hid)
section
variable {P : Program} (w : World)
theorem run_bytesOf (B : Nat) (A : Option Addr) (c : Nat) (l : List UInt8) (h : RdB w B A l) : (Extern.Bytes.bytesOf (.slice A l.length c)).run P w = .ok ⟨l.toArray⟩ w := by
 rcases A with _ | ad
 · have hl : l = [] := by
     cases l with
     | nil => rfl
     | cons b l => obtain ⟨ad, h, _⟩ := h.2 (by simp); cases h
   subst hl
   rfl
 · have e : Lib.bytesOf (l.map fun b => (b.toNat : Int)) = l := by
     simp only [Lib.bytesOf, List.map_map]
     have : (fun n : Int => n.toNat.toUInt8) ∘ (fun b : UInt8 => (b.toNat : Int)) = id := by funext b; simp
     rw [this, List.map_id]
   have hc : ∀ j x, (l.map fun b => (b.toNat : Int))[j]? = some x → w.cell? (ad.add j) = some (.int .u8 x) := by
     intro j x hx
     have hj : j < l.length := by
       have := (List.getElem?_eq_some_iff.1 hx).1
       simpa using this
     obtain ⟨ad', h1, _, h2⟩ := h.cell hj
     injection h1 with h1; subst h1
     rw [h2]
     simp [hj] at hx
     rw [hx]
   have := Lib.run_loadBytesX (P := P) w (l.map fun b => (b.toNat : Int)) ad .empty hc
   rw [e, List.length_map] at this
   simp only [Extern.Bytes.bytesOf]
   rw [this]
   congr 1
   apply ByteArray.ext
   show (#[] : Array UInt8) ++ l.toArray = l.toArray
   simp
theorem run_indexX (B : Nat) (A : Option Addr) (c : Nat) (l : List UInt8) (h : RdB w B A l) (b : UInt8) :
   (Extern.BytealgIndexByte.indexByte #[.slice A l.length c, .int .u8 (b.toNat : Int)]).run P w = .ok (.int .i64 (Lib.indexByte l b)) w := by
 have hl := run_bytesOf (P := P) w B A c l h
 have hs := Lib.run_indexByteString (P := P) ⟨l.toArray⟩ (b.toNat : Int) w
 have e : (b.toNat : Int).toNat.toUInt8 = b := by simp
 rw [e] at hs
 change Sem.run P (do
   let b ← Extern.Bytes.bytesOf (.slice A l.length c)
   let c ← Extern.Bytes.asByte (.int .u8 _)
   match (List.range b.size).find? fun i => b[i]! == c with
   | some i => pure (goInt i)
   | none => pure (goInt (-1))) w = _
 change Sem.run P (do
   let b ← Extern.Bytes.bytesOf (.string ⟨l.toArray⟩)
   let c ← Extern.Bytes.asByte (.int .u8 _)
   match (List.range b.size).find? fun i => b[i]! == c with
   | some i => pure (goInt i)
   | none => pure (goInt (-1))) w = _ at hs
 simp only [Sem.run_bind, hl, Result.andThen] at hs ⊢
 exact hs
theorem run_countX (B : Nat) (A : Option Addr) (c : Nat) (l : List UInt8) (h : RdB w B A l) (b : UInt8) :
   (Extern.BytealgCount.count #[.slice A l.length c, .int .u8 (b.toNat : Int)]).run P w = .ok (.int .i64 (l.count b : Int)) w := by
 have hl := run_bytesOf (P := P) w B A c l h
 have hs := Lib.run_countString (P := P) ⟨l.toArray⟩ (b.toNat : Int) w
 have e : (b.toNat : Int).toNat.toUInt8 = b := by simp
 rw [e] at hs
 change Sem.run P (do
   let b ← Extern.Bytes.bytesOf (.slice A l.length c)
   let c ← Extern.Bytes.asByte (.int .u8 _)
   pure (goInt (b.foldl (fun n x => if x == c then n + 1 else n) (0 : Nat)))) w = _
 change Sem.run P (do
   let b ← Extern.Bytes.bytesOf (.string ⟨l.toArray⟩)
   let c ← Extern.Bytes.asByte (.int .u8 _)
   pure (goInt (b.foldl (fun n x => if x == c then n + 1 else n) (0 : Nat)))) w = _ at hs
 simp only [Sem.run_bind, hl, Result.andThen] at hs ⊢
 exact hs
end
set_option maxRecDepth 100000 in
theorem indexByte_any (B : Nat) (A : Option Addr) (c : Nat) (l : List UInt8) (b : UInt8) (w : World) (h : RdB w B A l) :
   Calls Tryz.prog 116 #[.slice A l.length c, .int .u8 (b.toNat : Int)] w fun e w' => e = .returned (.int .i64 (Lib.indexByte l b)) ∧ w = w' := by
 have hx := run_indexX (P := Tryz.prog) w B A c l h b
 go_enter Tryz.func116, Tryz.ntmps116
 go_wp2
 rw [run_callFunc_extern Tryz.func125 (by kernel_rfl) (by kernel_rfl) (by kernel_rfl) (e := Extern.BytealgIndexByte.indexByte) (by kernel_rfl), hx]
 simp only [Result.andThen]
 rw [Oper.upon_value]
 go_wp2
 go_ret
 exact ⟨rfl, rfl⟩
set_option maxRecDepth 100000 in
theorem count_one (B : Nat) (A : Option Addr) (c g c2 : Nat) (l : List UInt8) (b : UInt8) (w : World) (h : RdB w B A l) (hc : w.cell? ⟨g, 0, none⟩ = some (.int .u8 (b.toNat : Int))) :
   Calls Tryz.prog 141 #[.slice A l.length c, .slice (some ⟨g, 0, none⟩) 1 c2] w fun e w' => e = .returned (.int .i64 (l.count b : Int)) ∧ w = w' := by
 have hx := run_countX (P := Tryz.prog) w B A c l h b
 go_enter Tryz.func141, Tryz.ntmps141
 go_wp2
 rw [run_callFunc_extern Tryz.func152 (by kernel_rfl) (by kernel_rfl) (by kernel_rfl) (e := Extern.BytealgCount.count) (by kernel_rfl), hx]
 simp only [Result.andThen]
 rw [Oper.upon_value]
 go_wp2
 go_ret
 exact ⟨rfl, rfl⟩
set_option maxRecDepth 100000 in
theorem index_one (B : Nat) (A : Option Addr) (c g c2 : Nat) (l : List UInt8) (b : UInt8) (w : World) (h : RdB w B A l) (hc : w.cell? ⟨g, 0, none⟩ = some (.int .u8 (b.toNat : Int))) :
   Calls Tryz.prog 142 #[.slice A l.length c, .slice (some ⟨g, 0, none⟩) 1 c2] w fun e w' => e = .returned (.int .i64 (Lib.indexByte l b)) ∧ w = w' := by
 go_enter Tryz.func142, Tryz.ntmps142
 go_wp2_with fail
 refine (indexByte_any B A c l b _ h).mono ?_
 rintro e w1 ⟨rfl, rfl⟩
 go_wp2_with fail
 go_ret
 exact ⟨rfl, rfl⟩
theorem index_one' (B : Nat) (A : Option Addr) (n c g c2 : Nat) (l : List UInt8) (b : UInt8) (w : World) (hn : n = l.length) (h : RdB w B A l) (hc : w.cell? ⟨g, 0, none⟩ = some (.int .u8 (b.toNat : Int))) (i : Int) (hi : Lib.indexByte l b = i) :
   Calls Tryz.prog 142 #[.slice A n c, .slice (some ⟨g, 0, none⟩) 1 c2] w fun e w' => e = .returned (.int .i64 i) ∧ w = w' := by
 subst hn hi
 exact index_one B A c g c2 l b w h hc
theorem replace_none (A : Option Addr) (c g c2 : Nat) (A3 : Option Addr) (c3 : Nat) (l nw : List UInt8) (o : UInt8) (w : World) (h : RdB w w.heap.size A l) (hc : w.cell? ⟨g, 0, none⟩ = some (.int .u8 (o.toNat : Int)))
   (h0 : l.count o = 0) (hlen : l.length ≤ 140737488355328) :
   Calls Tryz.prog 130 #[.slice A l.length c, .slice (some ⟨g, 0, none⟩) 1 c2, .slice A3 nw.length c3, .int .i64 (-1)] w fun e w' =>
     ∃ A' c', e = .returned (.slice A' l.length c') ∧ Own w' w.heap.size 5 A' c' l ∧ Below w.heap.size w w' := by
 have C := count_one w.heap.size A c g c2 l o w h hc
 rw [h0] at C
 have HC := hid C; clear C h0
 go_enter Tryz.func130, Tryz.ntmps130
 go_wp2_with fail
 refine HC.out.mono ?_
 rintro e w1 ⟨rfl, rfl⟩
 go_wp2_with (at_builtin; refine wpList_append_b _ rfl _ _ bt rfl w.heap.size none 0 [] rfl (Own.nil _ _ _) _ A l.length c l rfl rfl h (by simpa using hlen) (Nat.le_refl _) ?_; intro A' c' L' w2 hL ho1 hg1 _; have HL := hid hL; clear hL)
 go_ret
 have e : L' = l := by rw [HL.out]; rfl
 subst e
 exact ⟨A', c', rfl, ho1, (Below.refl _ _).grown hg1 (Nat.le_refl _) (fun k hk => by simp [blk] at hk)⟩
section
variable {P : Program} (w : World)
theorem run_compareX (B : Nat) (A : Option Addr) (c : Nat) (l : List UInt8) (h : RdB w B A l) (B2 : Nat) (A2 : Option Addr) (c2 : Nat) (m : List UInt8) (h2 : RdB w B2 A2 m) :
   (Extern.BytealgCompare.compare #[.slice A l.length c, .slice A2 m.length c2]).run P w = .ok (.int .i64 (Lib.compareBytes l m)) w := by
 have hl := run_bytesOf (P := P) w B A c l h
 have hm := run_bytesOf (P := P) w B2 A2 c2 m h2
 change Sem.run P (do pure (goInt (Extern.BytealgCompare.cmp (← Extern.Bytes.bytesOf (.slice A l.length c)) (← Extern.Bytes.bytesOf (.slice A2 m.length c2))))) w = _
 simp only [Sem.run_bind, Sem.run_pure, hl, hm, Result.andThen]
 rw [Lib.cmp_eq]
 rfl
end
set_option maxRecDepth 100000 in
theorem bcmp_any (B : Nat) (A : Option Addr) (c : Nat) (l : List UInt8) (B2 : Nat) (A2 : Option Addr) (c2 : Nat) (m : List UInt8) (w : World) (h : RdB w B A l) (h2 : RdB w B2 A2 m) :
   Calls Tryz.prog 59 #[.slice A l.length c, .slice A2 m.length c2] w fun e w' => e = .returned (.int .i64 (Lib.compareBytes l m)) ∧ w = w' := by
 have hx := run_compareX (P := Tryz.prog) w B A c l h B2 A2 c2 m h2
 go_enter Tryz.func59, Tryz.ntmps59
 go_wp2
 rw [run_callFunc_extern Tryz.func95 (by kernel_rfl) (by kernel_rfl) (by kernel_rfl) (e := Extern.BytealgCompare.compare) (by kernel_rfl), hx]
 simp only [Result.andThen]
 rw [Oper.upon_value]
 go_wp2
 go_ret
 exact ⟨rfl, rfl⟩
theorem compareBytes_zero (l m : List UInt8) : Lib.compareBytes l m = 0 ↔ l = m := by
 induction l generalizing m with
 | nil => cases m <;> simp [Lib.compareBytes]
 | cons a l ih =>
   cases m with
   | nil => simp [Lib.compareBytes]
   | cons b m =>
     unfold Lib.compareBytes
     by_cases h1 : a < b
     · simp [h1, UInt8.ne_of_lt h1]
     · by_cases h2 : b < a
       · simp [h1, h2, (UInt8.ne_of_lt h2).symm]
       · have e : a = b := UInt8.le_antisymm (UInt8.not_lt.1 h2) (UInt8.not_lt.1 h1)
         simp [e, ih]
theorem compareBytes_lt (l m : List UInt8) : Lib.compareBytes l m < 0 ↔ Op.bytesLess l m = true := by
 induction l generalizing m with
 | nil => cases m <;> simp [Lib.compareBytes, Op.bytesLess]
 | cons a l ih =>
   cases m with
   | nil => simp [Lib.compareBytes, Op.bytesLess]
   | cons b m =>
     unfold Lib.compareBytes Op.bytesLess
     by_cases h1 : a < b
     · simp [h1]
     · by_cases h2 : b < a
       · simp [h1, h2, (UInt8.ne_of_lt h2).symm]
       · have e : a = b := UInt8.le_antisymm (UInt8.not_lt.1 h2) (UInt8.not_lt.1 h1)
         simp [e, ih]
theorem compareBytes_neg (l m : List UInt8) : Lib.compareBytes m l = - Lib.compareBytes l m := by
 induction l generalizing m with
 | nil => cases m <;> simp [Lib.compareBytes]
 | cons a l ih =>
   cases m with
   | nil => simp [Lib.compareBytes]
   | cons b m =>
     unfold Lib.compareBytes
     by_cases h1 : a < b
     · have h3 : ¬ b < a := UInt8.lt_asymm h1
       simp [h1, h3]
     · by_cases h2 : b < a
       · simp [h1, h2]
       · simp [h1, h2, ih]
theorem compareBytes_le (l m : List UInt8) : Lib.compareBytes l m ≤ 0 ↔ Op.bytesLess m l = false := by
 have h := compareBytes_lt m l
 rw [compareBytes_neg l m] at h
 cases hb : Op.bytesLess m l with
 | true => rw [hb] at h; simp at h ⊢; omega
 | false => rw [hb] at h; simp at h ⊢; omega
set_option maxHeartbeats 2000000 in
set_option maxRecDepth 100000 in
theorem replace_some (A : Option Addr) (c g c2 : Nat) (A3 : Option Addr) (c3 : Nat) (l nw : List UInt8) (o : UInt8) (w : World) (h : RdB w w.heap.size A l) (hlc : l.length ≤ c) (hcc : c ≤ 9223372036854775807) (hc : w.cell? ⟨g, 0, none⟩ = some (.int .u8 (o.toNat : Int)))
   (h3 : RdB w w.heap.size A3 nw) (hnw : nw.length = 2)
   (h0 : 0 < l.count o) (hlen : l.length ≤ 70368744177664) :
   Calls Tryz.prog 130 #[.slice A l.length c, .slice (some ⟨g, 0, none⟩) 1 c2, .slice A3 2 c3, .int .i64 (-1)] w fun e w' =>
     ∃ A' c', e = .returned (.slice A' (Esc.esc o nw l).length c') ∧ Own w' w.heap.size 5 A' c' (Esc.esc o nw l) ∧ Below w.heap.size w w' := by
 have C := count_one w.heap.size A c g c2 l o w h hc
 obtain ⟨m, hm⟩ : ∃ m, m = l.count o := ⟨_, rfl⟩
 have hmle : m ≤ l.length := by rw [hm]; exact List.count_le_length
 have hN : (Esc.esc o nw l).length = l.length + m := by rw [Esc.esc_len o nw (by omega), hnw, hm]; omega
 rw [← hm] at C h0
 have HM := hid hm; clear hm
 have HC := hid C; clear C
 have HN := hid hN; clear hN
 have HW := hid hnw; clear hnw
 have hm1 : ((m : Int) == 0) = false := by simp; omega
 go_enter Tryz.func130, Tryz.ntmps130
 go_wp2_with fail
 refine HC.out.mono ?_
 rintro e w1 ⟨rfl, rfl⟩
 go_wp2_with (at_make; refine wpList_make_b _ rfl _ _ bt rfl .i64 .i64 _ _ (l.length + m) rfl rfl (by first | rfl | omega) (by first | rfl | omega) (by omega) ?_; intro w1 Z hZ hB1 hb1 hs1; have HZ := hid hZ; clear hZ)
 go_loopw [11, 12, 49] (fun uw us uk wr => ∃ (k st p : Nat) (pre rest cur : List UInt8), k ≤ m ∧ st ≤ l.length ∧ p ≤ l.length + m ∧ uk = .int .i64 (k : Int) ∧ us = .int .i64 (st : Int) ∧ uw = .int .i64 (p : Int) ∧
     Hid (Esc.Inv o nw l m k st p pre rest cur) ∧ BlkB wr w.heap.size 5 cur ∧ Below w.heap.size w wr) (fun _ _ uk _ => m - (intOf uk).toNat)
 case atStart =>
   exact ⟨0, 0, 0, [], l, Z, by omega, by omega, by omega, rfl, rfl, rfl, hid ⟨rfl, rfl, rfl, by have := HM.out; omega, rfl, by rw [HZ.out]; simp⟩, hB1, hb1⟩
 case round =>
   clear hB1 hb1 hs1
   obtain ⟨k, st, p, pre, rest, cur, hk, hst, hp, rfl, rfl, rfl, HI, hB, hb⟩ := hrel
   have hc' : wr.cell? ⟨g, 0, none⟩ = some (.int .u8 (o.toNat : Int)) := (hb.cell (p := ⟨g, 0, none⟩) (World.block_lt_of_cell? w _ hc)).trans hc
   have hr := h.below hb (Nat.le_refl _)
   by_cases hlt : k < m
   · obtain ⟨x, y, hxy, hx0, hxi⟩ := Esc.index_split o rest (by have := HI.out.2.2.2.1; omega)
     have hrl : l.length - st = rest.length := by have := HI.out; rw [this.2.2.1, this.1, List.length_append]; omega
     have hdrop : l.drop st = rest := by have := HI.out; rw [this.2.2.1, this.1]; exact List.drop_left
     have hr2 := hr.drop (k := st) (cap := c) hst hlc
     rw [hdrop] at hr2
     have hrx : x.length + 1 ≤ rest.length := by rw [hxy]; simp
     have hrd2 : RdB wr w.heap.size (Option.map (fun a => a.add st) A) rest := by rw [if_neg (by omega)] at hr2; exact hr2
     have hrx2 : RdB wr w.heap.size (Option.map (fun a => a.add st) A) x := by
       have := hrd2.take (k := x.length) (by omega)
       rw [hxy, List.take_left] at this
       exact this
     have hst2 : st + x.length < l.length := by omega
     have hpN : p + x.length + 2 ≤ l.length + m := by
       have e1 := HN.out
       have e2 := HI.out
       rw [e2.2.2.1, hxy, Esc.esc_append, Esc.esc_append, Esc.esc_cons, if_pos rfl, Esc.esc_none o nw x hx0] at e1
       simp only [List.length_append, HW.out] at e1
       rw [← e2.2.1, ← List.length_append, ← List.length_append] at e1
       have e3 : l.length = (pre ++ (x ++ o :: y)).length := by rw [e2.2.2.1, hxy]
       simp only [List.length_append, List.length_cons] at e1 e3
       omega
     have HPN := hid hpN
     have hw1 : nw.length ≤ 2 := by have := HW.out; omega
     have hw2 : 2 ≤ nw.length := by have := HW.out; omega
     have HXI := hid hxi; clear hxi
     have HXY := hid hxy; clear hxy
     have HRL := hid hrl; clear hrl hdrop hr2
     have HX0 := hid hx0; clear hx0
     have hne1 : ¬ c = st := by omega
     have hne2 : ¬ l.length + m = p := by omega
     have hne3 : ¬ c = st + x.length := by omega
     go_wp2_with fail
     refine (index_one' w.heap.size _ _ _ _ _ rest o _ HRL.out hrd2 hc' _ HXI.out).mono ?_
     rintro e w1 ⟨rfl, rfl⟩
     go_wp2_with fail
     have hrw : (0 : Int) ≤ (p : Int) ∧ (p : Int) ≤ (l.length : Int) + (m : Int) ∧ (0 : Int) ≤ (st : Int) ∧ (st : Int) ≤ (st : Int) + (x.length : Int) ∧ (st : Int) + (x.length : Int) ≤ (c : Int) := by omega
     obtain ⟨i1, i2, i3, i4, i5⟩ := hrw
     go_region_held_law (fun _ => True) (trivial) ((refine step_copy_b _ rfl (.tmp 61) (.tmp 65) bt rfl _ _ _ _ _ _ (by rfl) (by rfl) w.heap.size p cur hB w.heap.size x (by first | rfl | omega) (by omega) (fun _ => by first | rfl | simp [Addr.add]) hrx2 (by have := HI.out.2.2.2.2.2; omega) ?_; intro w2 L2 hL2 hB2 hg2; have HL2 := hid hL2; clear hL2))
     have hgb2 : Below w.heap.size w w2 := (hb.drew).grown hg2 hb.size (fun k hk => by injection hk with hk; omega)
     have h32 := h3.below hgb2 (Nat.le_refl _)
     have hL2len : L2.length = l.length + m := by rw [HL2.out, splice_length _ _ _ (by have := HI.out.2.2.2.2.2; omega)]; exact HI.out.2.2.2.2.2
     have HLL := hid hL2len; clear hL2len hg2
     have hne4 : ¬ l.length + m = p + x.length := by omega
     go_wp2_with (with_reducible refine at_copy ?_; refine wpList_copy_b _ rfl (.tmp 71) (.tmp 72) bt rfl (some ⟨w.heap.size, p + x.length, none⟩) A3 (l.length + m - (p + x.length)) (l.length + m - (p + x.length)) 2 c3 rfl rfl w.heap.size (p + x.length) L2 hB2 w.heap.size nw HW.out.symm (by have := HW.out; omega) (fun _ => by first | rfl | simp [Addr.add]) h32 (by have := HLL.out; have := HW.out; omega) ?_; intro w3 L3 hL3 hB3 hg3; have HL3 := hid hL3; clear hL3)
     have hgb3 : Below w.heap.size w w3 := hgb2.grown hg3 hgb2.size (fun k hk => by injection hk with hk; omega)
     go_roundw
     case rel =>
       exact ⟨k + 1, st + x.length + 1, p + x.length + 2, pre ++ x ++ [o], y, L3, by omega, by omega, by have := HPN.out; omega, by go_num, by go_num, by go_num,
         hid (HI.out.step HXY.out HX0.out HW.out HPN.out HL2.out HL3.out), hB3, hgb3⟩
     case measure => simp [intOf]; omega
   · obtain rfl : k = m := by omega
     obtain ⟨hE, hpN, hsN⟩ := HI.out.last HN.out (L2 := splice cur p rest) rfl
     have hdrop : l.drop st = rest := by have := HI.out; rw [this.2.2.1, this.1]; exact List.drop_left
     have hr2 := hr.drop (k := st) (cap := c) hst hlc
     rw [hdrop] at hr2
     have HE := hid hE; clear hE hdrop
     have i1 : (0 : Int) ≤ (p : Int) ∧ (p : Int) ≤ (l.length : Int) + (k : Int) ∧ (0 : Int) ≤ (st : Int) ∧ (st : Int) ≤ (l.length : Int) := by omega
     obtain ⟨i1, i2, i3, i4⟩ := i1
     have hcl : cur.length = l.length + k := HI.out.2.2.2.2.2
     have HCL := hid hcl; clear hcl
     have PN := hid hpN; clear hpN
     have SN := hid hsN; clear hsN
     by_cases hlast : st < l.length
     · have hne1 : ¬ c = st := by omega
       have hne2 : ¬ l.length + k = p := by have := PN.out; have := SN.out; omega
       rw [if_neg hne1] at hr2
       go_wp2_with fail
       go_region_held_law (fun _ => True) (trivial) ((refine step_copy_b _ rfl (.tmp 123) (.tmp 126) bt rfl (some ⟨w.heap.size, p, none⟩) (Option.map (fun a => a.add st) A) (l.length + k - p) (l.length + k - p) (l.length - st) (c - st) (by rfl) (by rfl) w.heap.size p cur hB w.heap.size rest (by have := SN.out; omega) (by have := PN.out; omega) (fun _ => rfl) hr2 (by have := PN.out; have := HCL.out; omega) ?_; intro w2 L2 hL2 hB2 hg2; have HL2 := hid hL2; clear hL2))
       have hgb2 : Below w.heap.size w w2 := (hb.drew).grown hg2 hb.size (fun k hk => by injection hk with hk; omega)
       have hpr : p + rest.length ≤ l.length + k := by have := PN.out; omega
       have hpr2 : ((p : Int) + (rest.length : Int)).toNat = l.length + k := by have := PN.out; omega
       go_wp2
       go_ret
       have e2 : L2 = Esc.esc o nw l := by rw [HL2.out]; exact HE.out
       refine ⟨_, _, ret_slice HN.out.symm, ?_, hgb2⟩
       rw [← e2]
       have hlen2 : L2.length = l.length + k := by rw [e2]; exact HN.out
       rw [← hlen2]
       exact hB2.own (Nat.le_refl _) (by omega)
     · have hrest : rest = [] := List.eq_nil_of_length_eq_zero (by have := SN.out; omega)
       subst hrest
       obtain rfl : p = l.length + k := by have := PN.out; simpa using this
       obtain rfl : st = l.length := by omega
       by_cases hcs : c = l.length
       · subst hcs
         go_wp2_with fail
         go_region_held_law (fun _ => True) (trivial) ((refine step_copy_b _ rfl (.tmp 123) (.tmp 126) bt rfl (some ⟨w.heap.size, 0, none⟩) A 0 0 0 0 (by rfl) (by rfl) w.heap.size (l.length + k) cur hB w.heap.size [] rfl (by simp) (fun h => absurd h (by simp)) RdB.nil (by have := HCL.out; simp; omega) ?_; intro w2 L2 hL2 hB2 hg2; have HL2 := hid hL2; clear hL2))
         have hgb2 : Below w.heap.size w w2 := (hb.drew).grown hg2 hb.size (fun k hk => by injection hk with hk; omega)
         go_wp2
         go_ret
         have e2 : L2 = Esc.esc o nw l := by rw [HL2.out]; exact HE.out
         refine ⟨_, _, ret_slice HN.out.symm, ?_, hgb2⟩
         rw [← e2]
         have hlen2 : L2.length = l.length + k := by rw [e2]; exact HN.out
         rw [← hlen2]
         exact hB2.own (Nat.le_refl _) (by omega)
       · go_wp2_with fail
         go_region_held_law (fun _ => True) (trivial) ((refine step_copy_b _ rfl (.tmp 123) (.tmp 126) bt rfl (some ⟨w.heap.size, 0, none⟩) (Option.map (fun a => a.add l.length) A) 0 0 0 (c - l.length) (by rfl) (by rfl) w.heap.size (l.length + k) cur hB w.heap.size [] rfl (by simp) (fun h => absurd h (by simp)) RdB.nil (by have := HCL.out; simp; omega) ?_; intro w2 L2 hL2 hB2 hg2; have HL2 := hid hL2; clear hL2))
         have hgb2 : Below w.heap.size w w2 := (hb.drew).grown hg2 hb.size (fun k hk => by injection hk with hk; omega)
         go_wp2
         go_ret
         have e2 : L2 = Esc.esc o nw l := by rw [HL2.out]; exact HE.out
         refine ⟨_, _, ret_slice HN.out.symm, ?_, hgb2⟩
         rw [← e2]
         have hlen2 : L2.length = l.length + k := by rw [e2]; exact HN.out
         rw [← hlen2]
         exact hB2.own (Nat.le_refl _) (by omega)
theorem replaceAll_any (A : Option Addr) (c g c2 : Nat) (A3 : Option Addr) (c3 : Nat) (l nw : List UInt8) (o : UInt8) (w : World) (h : RdB w w.heap.size A l) (hlc : l.length ≤ c) (hcc : c ≤ 9223372036854775807) (hc : w.cell? ⟨g, 0, none⟩ = some (.int .u8 (o.toNat : Int)))
   (h3 : RdB w w.heap.size A3 nw) (hnw : nw.length = 2) (hlen : l.length ≤ 70368744177664) :
   Calls Tryz.prog 122 #[.slice A l.length c, .slice (some ⟨g, 0, none⟩) 1 c2, .slice A3 2 c3] w fun e w' =>
     ∃ A' c', e = .returned (.slice A' (Esc.esc o nw l).length c') ∧ Own w' w.heap.size 5 A' c' (Esc.esc o nw l) ∧ Below w.heap.size w w' := by
 rcases Nat.eq_zero_or_pos (l.count o) with h0 | h0
 · have R := replace_none A c g c2 A3 c3 l nw o w h hc h0 (by omega)
   rw [hnw] at R
   rw [Esc.esc_none o nw l h0]
   have HR := hid R; clear R h0
   go_enter Tryz.func122, Tryz.ntmps122
   go_wp2_with fail
   refine HR.out.mono ?_
   rintro e w1 ⟨A', c', rfl, ho, hb⟩
   go_wp2_with fail
   go_ret
   exact ⟨A', c', rfl, ho, hb⟩
 · have HR := hid (replace_some A c g c2 A3 c3 l nw o w h hlc hcc hc h3 hnw h0 hlen)
   clear h0 hnw
   go_enter Tryz.func122, Tryz.ntmps122
   go_wp2_with fail
   refine HR.out.mono ?_
   rintro e w1 ⟨A', c', rfl, ho, hb⟩
   go_wp2_with fail
   go_ret
   exact ⟨A', c', rfl, ho, hb⟩
theorem replaceAll_n (A : Option Addr) (n c g c2 : Nat) (A3 : Option Addr) (c3 : Nat) (l nw : List UInt8) (o : UInt8) (w : World) (hn : n = l.length) (h : RdB w w.heap.size A l) (hlc : n ≤ c) (hcc : c ≤ 9223372036854775807) (hc : w.cell? ⟨g, 0, none⟩ = some (.int .u8 (o.toNat : Int)))
   (h3 : RdB w w.heap.size A3 nw) (hnw : nw.length = 2) (hlen : n ≤ 70368744177664) :
   Calls Tryz.prog 122 #[.slice A n c, .slice (some ⟨g, 0, none⟩) 1 c2, .slice A3 2 c3] w fun e w' =>
     ∃ A' c', e = .returned (.slice A' (Esc.esc o nw l).length c') ∧ Own w' w.heap.size 5 A' c' (Esc.esc o nw l) ∧ Below w.heap.size w w' := by
 subst hn
 exact replaceAll_any A c g c2 A3 c3 l nw o w h hlc hcc hc h3 hnw hlen
end Go.Proofs.YtgafionfojnieaaGreatDoor
