/- Parts of the proof, one behind the other: The contract of the program's Build of filters.; The contract of the reference's Build of filters. -/
import Derived.Test.YtgafionfojnieaaGreatDoorMrg10
import Derived.Test.YtgafionfojnieaaGreatDoorMrg12
import Derived.Test.YtgafionfojnieaaGreatDoorMrg17
import Derived.Laws.OwnMore
namespace Go.Proofs.YtgafionfojnieaaGreatDoor
open Go.RowKit Go.Shelf
open Lib (hid)
attribute [local go_sem] Oper.semAt_some
theorem BlkB.set {w : World} {g : Nat} {e : TypeId} {f : List UInt8} (h : BlkB w g e f) (j : Nat) (b : UInt8) (x : Int) (hx : (b.toNat : Int) = x) : BlkB (w.setCell ⟨g, j, none⟩ (.int .u8 x)) g e (f.set j b) := by
 subst hx
 obtain ⟨hlt, hk⟩ := Array.getElem?_eq_some_iff.1 h
 show (w.heap.modify g _)[g]? = _
 rw [Array.getElem?_eq_getElem (by rw [Array.size_modify]; exact hlt), Array.getElem_modify_self, hk]
 have : (bv (f.set j b)).toArray = (bv f).toArray.setIfInBounds j (.int .u8 (b.toNat : Int)) := by
   apply Array.ext_getElem?
   intro i
   simp [bv, List.map_set, List.getElem?_set]
 rw [this]
 rfl
theorem BlkB.fresh {E n : Nat} {w : World} {g : Nat} {e : TypeId} (x : Int) (hx : (Blm.probes E : Int) = x) (h : BlkB w g e (List.replicate (1 + Blm.size E n) 0)) : BlkB (w.setCell ⟨g, 0, none⟩ (.int .u8 x)) g e (Blm.fresh E n) := by
 subst hx
 have h2 := h.set 0 (UInt8.ofNat (Blm.probes E)) (Blm.probes E : Int) (by have := Blm.probes_le E; simp; omega)
 have : (List.replicate (1 + Blm.size E n) (0 : UInt8)).set 0 (UInt8.ofNat (Blm.probes E)) = Blm.fresh E n := by
   rw [Nat.add_comm]; simp [List.replicate_succ, Blm.fresh]
 rw [this] at h2
 exact h2
theorem bits_or_u8_nat (a b : Nat) (ha : a < 256) (hb : b < 256) : bits .or .u8 (a : Int) (b : Int) = ((a ||| b : Nat) : Int) := by
 have hx : a ||| b < 2 ^ 8 := Nat.or_lt_two_pow (by omega) (by omega)
 have h1 : (BitVec.ofInt 8 (a : Int)).toNat = a := by
   rw [BitVec.ofInt_natCast, BitVec.toNat_ofNat]; exact Nat.mod_eq_of_lt (by omega)
 have h2 : (BitVec.ofInt 8 (b : Int)).toNat = b := by
   rw [BitVec.ofInt_natCast, BitVec.toNat_ofNat]; exact Nat.mod_eq_of_lt (by omega)
 show IntKind.u8.wrap ((BitVec.ofInt 8 (a : Int) ||| BitVec.ofInt 8 (b : Int)).toNat : Int) = _
 rw [BitVec.toNat_or, h1, h2, IntKind.wrap_u8]
 omega
theorem or_u8 (a : UInt8) (r : Nat) (hr : r < 8) (y : Int) (hy : y = 2 ^ r % 256) : bits .or .u8 (a.toNat : Int) y = ((a ||| (1 <<< UInt8.ofNat r)).toNat : Int) := by
 have e : y = (((1 <<< UInt8.ofNat r : UInt8).toNat : Nat) : Int) := by
   subst hy
   match r, hr with
   | 0, _ => decide
   | 1, _ => decide
   | 2, _ => decide
   | 3, _ => decide
   | 4, _ => decide
   | 5, _ => decide
   | 6, _ => decide
   | 7, _ => decide
 rw [e, bits_or_u8_nat _ _ a.toNat_lt (UInt8.toNat_lt _), UInt8.toNat_or]
structure InR (w wL : World) (H b1 : Nat) (e : TypeId) (f : List UInt8) (W : World) : Prop where
 blk : BlkB W H e f
 below : Below w.heap.size w W
 hold : ∀ r, r < wL.heap.size → r ≠ H → r ≠ b1 → W.heap[r]? = wL.heap[r]?
 size : wL.heap.size ≤ W.heap.size
theorem InR.grown {w wL W W' : World} {H b1 : Nat} {e : TypeId} {f : List UInt8} {row : Option Nat} (h : InR w wL H b1 e f W) (hg : W.grownBy W' row) (hr : ∀ r, row = some r → r = b1 ∨ wL.heap.size ≤ r) (hH : w.heap.size ≤ H) (hHb : H < b1) (hb : b1 < wL.heap.size) : InR w wL H b1 e f W' := by
 have hne : ∀ r, r < wL.heap.size → r ≠ b1 → W'.heap[r]? = W.heap[r]? := fun r hlt hn => hg.block r (Nat.lt_of_lt_of_le hlt h.size) (fun e => by rcases hr r e.symm with h1 | h1 <;> omega)
 exact ⟨h.blk.keep (hne _ (by omega) (by omega)), h.below.grown hg (by have := h.below.size; omega) (fun k e => by rcases hr k e with h1 | h1 <;> omega), fun r h1 h2 h3 => (hne r h1 h3).trans (h.hold r h1 h2 h3), Nat.le_trans h.size hg.size⟩
theorem Marks.keep {B : Nat} {W W' : World} : ∀ {ds : List Deferred}, Marks B W ds → (∀ r, B ≤ r → r < W.heap.size → W'.heap[r]? = W.heap[r]?) → Marks B W' ds ∧ ∀ d ∈ ds, ∃ D, d = { target := .collected D, args := #[] } ∧ D < W.heap.size
 | [], _, _ => ⟨trivial, fun d hd => by cases hd⟩
 | d :: ds, ⟨D, e, hB, hD, hne, hm⟩, h => by
   have hlt := (Array.getElem?_eq_some_iff.1 hD).1
   obtain ⟨h1, h2⟩ := Marks.keep hm h
   refine ⟨⟨D, e, hB, (h D hB hlt).trans hD, hne, h1⟩, fun d' hd => ?_⟩
   rcases List.mem_cons.1 hd with rfl | hd
   · exact ⟨D, e, hlt⟩
   · exact h2 d' hd
theorem fold_len {m : Nat} (pre : List (Blm.Pos m)) (f : List UInt8) : (pre.foldl (fun f x => Blm.set f x.1) f).length = f.length := by
 induction pre generalizing f with
 | nil => rfl
 | cons x pre ih => rw [List.foldl_cons, ih, Blm.set_len]
theorem fold_upTo (h g : Nat) (key : List UInt8) (hh : h = Blm.hh key) (hg : g = Blm.gg key) {m : Nat} (hm : 0 < m) (f : List UInt8) (n : Nat) : (Blm.upTo h g hm n).foldl (fun f x => Blm.set f x.1) f = Blm.keyed f key m n := by
 induction n with
 | zero => rfl
 | succ n ih => rw [Blm.upTo_succ, List.foldl_append, ih, Blm.keyed_succ, hh, hg]; rfl
theorem InR.put {w wL W : World} {H b1 : Nat} {e : TypeId} {f : List UInt8} (h : InR w wL H b1 e f W) (hH : w.heap.size ≤ H) (j : Nat) (hj : 1 + j / 8 < f.length) (x : Int) (hx : ((f[1 + j / 8] ||| (1 <<< UInt8.ofNat (j % 8))).toNat : Int) = x) : InR w wL H b1 e (Blm.set f j) (W.setCell ⟨H, 1 + j / 8, none⟩ (.int .u8 x)) := by
 refine ⟨?_, h.below.setCell hH _, fun r h1 h2 h3 => (Below.heap_setCell _ _ _ r h2).trans (h.hold r h1 h2 h3), Nat.le_trans h.size (by simp)⟩
 have h2 := h.blk.set (1 + j / 8) _ x hx
 have : f.set (1 + j / 8) (f[1 + j / 8] ||| (1 <<< UInt8.ofNat (j % 8))) = Blm.set f j := by
   apply List.ext_getElem
   · rw [List.length_set, Blm.set_len]
   · intro i h1 h2
     have hi : i < f.length := by simpa using h1
     rw [Blm.set_get f j i hi, List.getElem_set]
     by_cases e : 1 + j / 8 = i
     · subst e; simp
     · rw [if_neg e, if_neg (fun h => e h.symm)]
 rw [this] at h2
 exact h2
set_option maxHeartbeats 2000000 in
set_option maxRecDepth 100000 in
theorem bbuild_any (E : Nat) (hE : 1 ≤ E) (hE2 : E ≤ 32) (A : Option Addr) (c : Nat) (l : List Bs) (w : World) (h : RdBs w w.heap.size A l) (hl : l.length ≤ 20000) (hk : ∀ b ∈ l, 0 < b.l.length ∧ b.l.length ≤ 100000) :
   Calls Tryz.prog 43 #[.slice A l.length c, .int .i64 (E : Int)] w (GivesR w 0 (Blm.build E (l.map Bs.l))) := by
 have HR := hid h; have HK := hid hk
 clear h hk
 have dE1 : decide ((E : Int) < 1) = false := by rw [decide_eq_false_iff_not]; omega
 have dE2 : decide (32 < (E : Int)) = false := by rw [decide_eq_false_iff_not]; omega
 have dE3 : decide (20000 < (l.length : Int)) = false := by rw [decide_eq_false_iff_not]; omega
 obtain ⟨Z, hZ⟩ : ∃ Z, Z = Blm.size E l.length := ⟨_, rfl⟩
 obtain ⟨EL, hEL⟩ : ∃ EL, EL = E * l.length := ⟨_, rfl⟩
 have hEL2 : EL ≤ 32 * 20000 := by rw [hEL]; exact Nat.mul_le_mul hE2 hl
 have hZ2 : Z = max ((EL + 7) / 8) 8 := by rw [hZ, hEL]; rfl
 have e1 : IntKind.i64.wrap ((E : Int) * (l.length : Int)) = (EL : Int) := by rw [← Int.natCast_mul, ← hEL, IntKind.wrap_i64]; omega
 obtain ⟨PB, hPB⟩ : ∃ PB, PB = Blm.probes E := ⟨_, rfl⟩
 have HPB := hid hPB; have HZ := hid hZ
 have hPB2 : PB = min (max (69 * E / 100) 1) 12 := hPB
 have hPB3 : 1 ≤ PB ∧ PB ≤ 12 := by omega
 have hZ3 : 8 ≤ Z ∧ Z ≤ 80001 := by omega
 obtain ⟨i0, hi0, hz0, hz1, hz2⟩ := info_parts bt.info
 obtain ⟨w1, hrun, ho1, hg1⟩ := run_make_full (P := Tryz.prog) w w.heap.size 22 5 i0 _ 1 bt.sl hi0 hz0 hz1 .i64 .i64 (1 + Z) (by rw [hz2]; omega) (by unfold maxLen; omega) (Nat.le_refl _)
 have HB1 : Hid (BlkB w1 w.heap.size 5 (List.replicate (1 + Z) 0)) := hid (by
   have e0 : (madeCells (Value.int IntKind.u8 0).cells ((1 + Z) * 1)).toList = bv (List.replicate (1 + Z) (0 : UInt8)) := by
     have e0 : (Value.int IntKind.u8 0).cells = #[Value.int IntKind.u8 0] := rfl
     rw [e0, toList_madeCells_one, Nat.mul_one]
     simp [bv]
   rw [e0] at ho1
   refine blkB_of_full (base := w.heap.size) ?_
   unfold Own
   rw [List.length_replicate]
   exact ho1)
 have HG1 : Hid (Below w.heap.size w w1) := hid (below_of_grown hg1 (Nat.le_refl _) (fun k hk => by cases hk))
 have eZ : ((1 + Z : Nat) : Int) = 1 + max (((E : Int) * (l.length : Int) + 8 - 1) / 8) 8 := by rw [hZ2, ← Int.natCast_mul, ← hEL]; omega
 rw [eZ] at hrun
 have HZ2 := hid hZ2; have HPB2 := hid hPB2
 clear ho1 hg1 hi0 hz0 hz1 hz2 eZ hZ2 hPB2
 refine (callsIn_wide (n := 5)).1 ?_
 refine callsIn_of_wp_marks Tryz.func43 rfl trivial ?_ rfl
 simp only [Tryz.ntmps43, List.size_toArray, List.length_cons, List.length_nil, Nat.reduceAdd, Nat.reduceSub, Array.replicate_succ, Array.replicate_zero, List.push_toArray, List.append_toArray, List.nil_append, List.cons_append]
 clear hPB hZ
 have x0 : w1.cell? ⟨w.heap.size, 0, none⟩ = some (.int .u8 0) := by
   have := HB1.out.cell (j := 0) (by simp; omega)
   simpa using this
 have x1 := HB1.out.free 0
 gi_wp2_with fail
 have HW2 : Hid (BlkB (w1.setCell ⟨w.heap.size, 0, none⟩ (.int .u8 (min (max ((E : Int) * 69 / 100) 1) 12))) w.heap.size 5 (Blm.upto E (l.map Bs.l) 0) ∧ Below w.heap.size w (w1.setCell ⟨w.heap.size, 0, none⟩ (.int .u8 (min (max ((E : Int) * 69 / 100) 1) 12)))) := hid ⟨by
   have hb := HB1.out
   rw [HZ.out] at hb
   have := hb.fresh (min (max ((E : Int) * 69 / 100) 1) 12) (by rw [← HPB.out, HPB2.out]; omega)
   unfold Blm.upto
   rw [List.length_map]
   exact this, HG1.out.setCell (Nat.le_refl _) _⟩
 obtain ⟨W2, hW2⟩ : ∃ W2, W2 = w1.setCell ⟨w.heap.size, 0, none⟩ (.int .u8 (min (max ((E : Int) * 69 / 100) 1) 12)) := ⟨_, rfl⟩
 rw [← hW2] at HW2 ⊢
 clear x0 x1 hrun hW2
 obtain ⟨v25, hv25⟩ : ∃ v, v = Value.int .i64 ((E : Int) * (l.length : Int)) := ⟨_, rfl⟩
 refine wpIn_loop (fun a' wr => ∃ (k : Nat) (ds : List Deferred) (u8 v25 v26 v27 v28 v29 v30 v34 v35 v36 v37 v38 v39 u43 u44 u45 u46 u47 u48 u57 : Value), (k ≤ l.length ∧ Hid (BlkB wr w.heap.size 5 (Blm.upto E (l.map Bs.l) k)) ∧ Hid (Below w.heap.size w wr) ∧ Hid (Marks (w.heap.size + 1) wr ds)) ∧
   a' = { tmps := #[.slice A l.length c, .int .i64 (E : Int), undef, undef, .slice none 0 0, .int .i64 0, .slice (some ⟨w.heap.size, 0, none⟩) (1 + Z) (1 + Z), undef, u8, undef, undef, .int .i64 (E : Int), .bool false, .bool false, .int .i64 (E : Int), .bool false, .bool false, .bool false, .slice A l.length c, .int .i64 (l.length : Int), .bool false, .bool false, .int .i64 (E : Int), .slice A l.length c, .int .i64 (l.length : Int), v25, v26, v27, v28, v29, v30, .slice (some ⟨w.heap.size, 0, none⟩) (1 + Z) (1 + Z), .slice (some ⟨w.heap.size, 0, none⟩) (1 + Z) (1 + Z), .int .i64 (E : Int), v34, v35, v36, v37, v38, v39, .slice A l.length c, .int .i64 (l.length : Int), .int .i64 (k : Int), u43, u44, u45, u46, u47, u48, undef, undef, undef, undef, undef, undef, undef, undef, u57, undef], defers := ds }) (fun a' _ => l.length - (intOf (a'.tmps.getD 42 undef)).toNat) ?_ ?_
 · exact ⟨0, [], _, _, _, _, _, _, _, _, _, _, _, _, _, _, _, _, _, _, _, _, ⟨by omega, hid HW2.out.1, hid HW2.out.2, hid trivial⟩, rfl⟩
 clear hv25 HW2 HB1 HG1
 clear v25
 rintro _ wr ⟨k, ds, u8, v25, v26, v27, v28, v29, v30, v34, v35, v36, v37, v38, v39, u43, u44, u45, u46, u47, u48, u57, ⟨hk, HF, HW, HM⟩, rfl⟩
 have hzr : w.heap.size < wr.heap.size := HF.out.lt
 by_cases hlt : k < l.length
 · obtain ⟨b, off, rfl, _, hc⟩ := (HR.out.below HW.out (Nat.le_refl _)).row1 (by omega)
   have hc1 := hc k hlt
   have HRB : Hid (RdB wr w.heap.size l[k].A l[k].l) := hid ((HR.out.below HW.out (Nat.le_refl _)).ok _ (List.getElem_mem hlt))
   have hkl := HK.out l[k] (List.getElem_mem hlt)
   have HSUC := hid (Blm.upto_succ E (l.map Bs.l) k (by simpa using hlt))
   have hmk : (l.map Bs.l)[k]'(by simpa using hlt) = l[k].l := by simp
   rw [hmk] at HSUC
   obtain ⟨p, hp⟩ : ∃ p, p = l[k] := ⟨_, rfl⟩
   rw [← hp] at hc1 HRB hkl HSUC
   clear hp hc hmk
   have hnn : p.A = none → p.c = 0 := fun h0 => by
     obtain ⟨ad, e, _⟩ := HRB.out.cell hkl.1
     rw [h0] at e; cases e
   have KP := hid (probes_any (some ⟨w.heap.size, 0, none⟩) (1 + Z) (1 + Z) p.A p.c p.l wr (HRB.out.more (by omega)) hnn (by omega))
   clear hnn
   gi_wp2_with fail
   refine ⟨trivial, ?_⟩
   refine (callsIn_wide.2 KP.out).mono ?_
   rintro e wL ⟨b0, b1, b2, rfl, y0, y1, y2, yb0, yb1, yb2, yb3, hbL⟩
   have hfl : (Blm.upto E (l.map Bs.l) k).length = 1 + Z := by rw [Blm.upto_len, List.length_map, HZ.out]
   have HFL : Hid (BlkB wL w.heap.size 5 (Blm.upto E (l.map Bs.l) k)) := hid (HF.out.below hbL (by omega))
   have HWL : Hid (Below w.heap.size w wL) := hid (HW.out.trans (hbL.mono (by omega)))
   have hhd : (Blm.upto E (l.map Bs.l) k)[0]'(by omega) = UInt8.ofNat PB := by rw [HPB.out]; exact Blm.upto_head _ _ _
   have x0 : wL.cell? ⟨w.heap.size, 0, none⟩ = some (.int .u8 (PB : Int)) := by
     have := HFL.out.cell (j := 0) (by omega)
     rw [hhd] at this
     rw [this]
     simp
     omega
   obtain ⟨f, hf⟩ : ∃ f, f = Blm.upto E (l.map Bs.l) k := ⟨_, rfl⟩
   rw [← hf] at HFL hfl HSUC
   have hs8 : 0 < 8 * Z := by omega
   have hbb : wr.heap.size ≤ wL.heap.size := hbL.size
   have HY : Hid (Blm.Boxes b0 b1 b2 (.slice (some ⟨w.heap.size, 0, none⟩) (1 + Z) (1 + Z)) (Blm.hh p.l) (Blm.gg p.l) wL) := hid ⟨y0, y1, y2⟩
   have HX0 := hid x0
   have HBL := hid hbL
   clear y0 y1 y2 x0 hbL hf hhd HRB hc1
   have HSEQ : Hid (SeqO (fun r => r = b1) Fence.wide 4 Tryz.prog 112 #[.pointer (some ⟨b0, 0, none⟩), .pointer (some ⟨b1, 0, none⟩), .pointer (some ⟨b2, 0, none⟩)] (Blm.encs w.heap.size (m := 8 * Z)) (Blm.KpB b0 b1 b2)
       (fun ys => ys = Blm.upTo (Blm.hh p.l) (Blm.gg p.l) hs8 PB) (fun _ => True) PB wL) := hid (fun L J Jx W hW hJ hJx hY h0 => by
     have h1 := probes1_in Fence.wide 4 trivial rfl (by decide) L b0 b1 b2 w.heap.size (1 + Z) PB (Blm.hh p.l) (Blm.gg p.l) Z hs8 (by omega) (by omega) (Blm.hh_lt _) (Blm.gg_le _) ⟨by omega, by omega⟩ J Jx hJ hY W
       ⟨(hW.block _ (by omega)).trans HY.out.x0, (hW.block _ (by omega)).trans HY.out.x1, (hW.block _ (by omega)).trans HY.out.x2⟩ ((hW.cell (p := ⟨w.heap.size, 0, none⟩) (by simp; omega)).trans HX0.out) h0
     exact h1.mono (fun e W' h => ⟨h.1, h.2.imp id (fun ⟨pre, _, hx⟩ => ⟨pre, trivial, hx⟩)⟩))
   obtain ⟨I, hI⟩ : ∃ I : List (Blm.Pos (8 * Z)) → World → Prop, I = fun pre W => InR w wL w.heap.size b1 5 (pre.foldl (fun f x => Blm.set f x.1) f) W := ⟨_, rfl⟩
   have HI1 : Hid (OwnFrom wL.heap.size I) := hid (by
     rw [hI]
     intro s A B row hs hg hr
     exact InR.grown hs hg (fun r e => .inr (hr r e).1) (Nat.le_refl _) (by omega) (by omega))
   have HI2 : Hid (AbO (fun r => r = b1) I) := hid (by
     rw [hI]
     intro s A B row hs hg hr
     exact InR.grown hs hg (fun r e => .inl (hr r e)) (Nat.le_refl _) (by omega) (by omega))
   have HI3 : Hid (I [] wL) := hid (by rw [hI]; exact ⟨HFL.out, HWL.out, fun _ _ _ _ => rfl, Nat.le_refl _⟩)
   have HKT : Hid (∀ {A B C : World}, Blm.KpB b0 b1 b2 A B → Blm.KpB b0 b1 b2 B C → Blm.KpB b0 b1 b2 A C) := hid (fun h1 h2 => ⟨h2.1.trans h1.1, h2.2.1.trans h1.2.1, h2.2.2.trans h1.2.2⟩)
   have HKB : Hid (∀ (W : World) (l : Nat) (o : Obj), wL.heap.size ≤ l → l < W.heap.size → Blm.KpB b0 b1 b2 W (W.putObj l o)) := hid (fun W l o h1 h2 => ⟨World.putObj_heap_other (by omega), World.putObj_heap_other (by omega), World.putObj_heap_other (by omega)⟩)
   have HOW : Hid (∀ r, r = b1 → r < wL.heap.size) := hid (fun r e => by rw [e]; omega)
   have HIE := hid hI
   clear hI
   gi_wp2_with fail
   refine rangeFunc_o (own := fun r => r = b1) rfl (by decide) (gf := 112) (lb := #[.pointer (some ⟨b0, 0, none⟩), .pointer (some ⟨b1, 0, none⟩), .pointer (some ⟨b2, 0, none⟩)]) rfl trivial (enters_of Tryz.func112 (by kernel_rfl) rfl)
     HSEQ.out HOW.out HKT.out HKB.out (fun _ => rfl) I (fun _ _ _ => False) HI1.out (fun _ _ _ _ _ hs _ _ => hs) HI2.out (fun _ _ _ _ _ hs _ _ => hs) HI3.out
     (fun x => { tmps := #[.slice (some ⟨b, off, none⟩) l.length c, .int .i64 (E : Int), undef, undef, .slice none 0 0, .int .i64 0, .slice (some ⟨w.heap.size, 0, none⟩) (1 + Z) (1 + Z), undef, .slice p.A p.l.length p.c, .pointer (some ⟨w.heap.size, 1 + x.1 / 8, none⟩), .int .u8 (2 ^ (x.1 % 8) % 256), .int .i64 (E : Int), .bool false, .bool false, .int .i64 (E : Int), .bool false, .bool false, .bool false, .slice (some ⟨b, off, none⟩) l.length c, .int .i64 (l.length : Int), .bool false, .bool false, .int .i64 (E : Int), .slice (some ⟨b, off, none⟩) l.length c, .int .i64 (l.length : Int), v25, v26, v27, v28, v29, v30, .slice (some ⟨w.heap.size, 0, none⟩) (1 + Z) (1 + Z), .slice (some ⟨w.heap.size, 0, none⟩) (1 + Z) (1 + Z), .int .i64 (E : Int), v34, v35, v36, v37, v38, v39, .slice (some ⟨b, off, none⟩) l.length c, .int .i64 (l.length : Int), .int .i64 (k : Int), .bool true, .pointer (some ⟨b, off + k, none⟩), .slice p.A p.l.length p.c, .slice (some ⟨w.heap.size, 0, none⟩) (1 + Z) (1 + Z), .slice p.A p.l.length p.c, .func (.func 112) #[] #[.pointer (some ⟨b0, 0, none⟩), .pointer (some ⟨b1, 0, none⟩), .pointer (some ⟨b2, 0, none⟩)], .pointer (some ⟨w.heap.size, 1 + x.1 / 8, none⟩), .int .u8 (2 ^ (x.1 % 8) % 256), undef, undef, undef, undef, undef, undef, u57, undef], defers := [] }) ?assign ?body ?done ?stop
   case assign =>
     intro L x W K hK
     simp only [Blm.encs]
     gi_wp2_with fail
     exact hK
   case stop =>
     rintro D c pre W _ _ h _
     exact h.elim
   case body =>
     rintro L pre x W hi hlen
     rw [HIE.out] at hi
     have HI := hid hi
     clear hi
     have hgl : (pre.foldl (fun f x => Blm.set f x.1) f).length = 1 + Z := by rw [fold_len, hfl]
     have HSN : Hid ((pre ++ [x]).foldl (fun f x => Blm.set f x.1) f = Blm.set (pre.foldl (fun f x => Blm.set f x.1) f) x.1) := hid (by rw [List.foldl_append]; rfl)
     obtain ⟨G, hG⟩ : ∃ G, G = pre.foldl (fun f x => Blm.set f x.1) f := ⟨_, rfl⟩
     have HI' : Hid (InR w wL w.heap.size b1 5 G W) := hid (by rw [hG]; exact HI.out)
     rw [← hG] at hgl HSN
     clear hG HI
     obtain ⟨j, hj⟩ := x
     have hj8 : 1 + j / 8 < G.length := by omega
     have c1 := HI'.out.blk.cell hj8
     have c2 := HI'.out.blk.free (1 + j / 8)
     have ho := or_u8 G[1 + j / 8] (j % 8) (by omega) _ rfl
     obtain ⟨X, hX⟩ : ∃ X : Int, X = (G[1 + j / 8].toNat : Int) := ⟨_, rfl⟩
     rw [← hX] at c1 ho
     obtain ⟨V, hV⟩ : ∃ V : Int, V = ((G[1 + j / 8] ||| (1 <<< UInt8.ofNat (j % 8))).toNat : Int) := ⟨_, rfl⟩
     rw [← hV] at ho
     have HV := hid hV
     clear hX hV
     simp only
     gi_wp2_with fail
     refine ⟨(KeepsOthers.setCell _ _ _).from _, ⟨Below.heap_setCell _ _ _ _ (by simp; omega), Below.heap_setCell _ _ _ _ (by simp; omega), Below.heap_setCell _ _ _ _ (by simp; omega)⟩, ?_⟩
     rw [HIE.out]
     show InR w wL w.heap.size b1 5 ((pre ++ [(⟨j, hj⟩ : Blm.Pos (8 * Z))]).foldl (fun f (x : Blm.Pos (8 * Z)) => Blm.set f x.1) f) _
     rw [HSN.out]
     exact HI'.out.put (Nat.le_refl _) j hj8 V HV.out.symm
   case done =>
     rintro D ys W hD hys hi hK
     rw [HIE.out] at hi
     have hi2 : InR w wL w.heap.size b1 5 (Blm.upto E (l.map Bs.l) (k + 1)) W := by
       rw [HSUC.out, List.length_map, ← HZ.out, ← HPB.out, ← fold_upTo _ _ p.l rfl rfl hs8, ← hys]
       exact hi
     have HI := hid hi2
     have HKD := hid hK
     clear hi hi2 hK
     have HMK := hid (Marks.keep (W' := W) HM.out (fun r h1 h2 => (HI.out.hold r (by omega) (by omega) (by omega)).trans (HBL.out.block r h2)))
     have HMN : Hid (Marks (w.heap.size + 1) W ({ target := .collected D, args := #[] } :: ds)) := hid ⟨D, rfl, by omega, HKD.out, fun d' hd e => (by
       obtain ⟨D', e2, hlt2⟩ := HMK.out.2 d' hd
       rw [e2] at e
       injection e with e
       injection e with e
       omega), HMK.out.1⟩
     gi_wp2_with fail
     refine ⟨⟨k + 1, _, _, _, _, _, _, _, _, _, _, _, _, _, _, _, _, _, _, _, _, _, ⟨by omega, hid HI.out.blk, hid HI.out.below, HMN⟩, rfl⟩, ?_⟩
     simp [intOf]; omega
 · have hk2 : k = l.length := by omega
   subst hk2
   have HE : Hid (BlkB wr w.heap.size 5 (Blm.build E (l.map Bs.l))) := hid (by
     have := HF.out
     rw [← Blm.upto_all, List.length_map]; exact this)
   have HLN : Hid ((Blm.build E (l.map Bs.l)).length = 1 + Z) := hid (by rw [← Blm.upto_all, Blm.upto_len, List.length_map, HZ.out])
   gi_wp2_with fail
   refine leaves_marks _ (fun W => results_tmp2 rfl _ _ W) (B := w.heap.size + 1) (A := wr) (fun W hW => ?_) ds wr HM.out .refl
   have ho := HE.out.own (base := w.heap.size) (Nat.le_refl _) (by rw [HLN.out]; omega)
   refine ⟨hW.blw HW.out (by omega), .inr ⟨rfl, _, _, ?_, hW.row ho⟩⟩
   rw [HLN.out]; rfl
end Go.Proofs.YtgafionfojnieaaGreatDoor
namespace Go.Proofs.YtgafionfojnieaaGreatDoor
open Go.RowKit
open Lib (hid)
end Go.Proofs.YtgafionfojnieaaGreatDoor
