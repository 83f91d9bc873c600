/- Parts of the proof, one behind the other: Contracts of (*strings.Builder).WriteByte, WriteString: with what is kept, to the block. -/
import Derived.Test.YtlmejpkngnilcaaGreatDoorProg
import Derived.Test.YtlmejpkngnilcaaGreatDoorMrg01
import Derived.Lib.Builder
import Derived.Lib.Hide
import Derived.Shelf.Strings.Builder1
namespace Go.Proofs.YtlmejpkngnilcaaGreatDoor
open Go.RowKit

theorem btB : BT Tryz.prog 39 5 := ⟨Tryz.underlying39, Tryz.underlying5, by kernel_rfl⟩
/-- All is as it was but the blocks b and r, and new ones. -/
structure KeptBut (w w' : World) (b : Nat) (r : Option Nat) : Prop where
  os : w'.os = w.os
  tape : w'.tape = w.tape
  output : w'.output = w.output
  size : w.heap.size ≤ w'.heap.size
  block : ∀ k, k < w.heap.size → k ≠ b → some k ≠ r → w'.heap[k]? = w.heap[k]?
theorem KeptBut.cell {w w' : World} {b : Nat} {r : Option Nat} (h : KeptBut w w' b r) {p : Addr} (hp : p.block < w.heap.size) (hb : p.block ≠ b) (hr : some p.block ≠ r) : w'.cell? p = w.cell? p :=
  World.cell?_of_block (h.block p.block hp hb hr)
theorem KeptBut.below {w w' : World} {b B : Nat} {r : Option Nat} (h : KeptBut w w' b r) (hb : B ≤ b) (hr : ∀ g, r = some g → B ≤ g) (hB : B ≤ w.heap.size) : Below B w w' :=
  ⟨h.os, h.tape, h.output, h.size, fun k hk => h.block k (by omega) (by omega) (fun e => by have := hr k e.symm; omega)⟩
/-- A builder in block b that holds l: written, or not yet. -/
structure Bld (w : World) (base b : Nat) (A : Option Addr) (c : Nat) (l : List UInt8) : Prop where
  low : base ≤ b
  cells : ∃ p, (p = Value.pointer none ∨ p = .pointer (some ⟨b, 0, none⟩)) ∧ w.heap[b]? = some (.cells #[p, .slice A l.length c] 41 (0, 0))
  own : Own w base 5 A c l
  ne : blk A ≠ some b
theorem Bld.new (w : World) (base : Nat) (h : base ≤ w.heap.size) : Bld (w.alloc (.cells #[.pointer none, .slice none 0 0] 41)) base w.heap.size none 0 [] := by
  refine ⟨h, ⟨_, .inl rfl, ?_⟩, Own.nil _ _ _, by simp [blk]⟩
  exact heap_alloc_new w _
theorem Bld.is {w : World} {base b : Nat} {A : Option Addr} {c : Nat} {l : List UInt8} (h : Bld w base b A c l) : Lib.IsBuilder 41 5 base b (Lib.byteCells l) w := by
  obtain ⟨p, hp, hc⟩ := h.cells
  have ho := h.own
  unfold Own at ho
  have e : (Lib.byteCells l).length = l.length := bv_length l
  rcases hp with rfl | rfl
  · exact .inl ⟨h.low, _, hc, by rw [e]; exact ho, by rw [ownBlock_slice]; exact h.ne⟩
  · exact .inr ⟨h.low, _, hc, by rw [e]; exact ho, by rw [ownBlock_slice]; exact h.ne⟩
theorem Bld.lt {w : World} {base b : Nat} {A : Option Addr} {c : Nat} {l : List UInt8} (h : Bld w base b A c l) : b < w.heap.size := by
  obtain ⟨p, _, hc⟩ := h.cells
  rcases Nat.lt_or_ge b w.heap.size with h' | h'
  · exact h'
  · rw [Array.getElem?_eq_none h'] at hc; cases hc
theorem Bld.kept {w w' : World} {base b : Nat} {A : Option Addr} {c : Nat} {l : List UInt8} (h : Bld w base b A c l) (hb : w'.heap[b]? = w.heap[b]?) (hA : ∀ g, blk A = some g → w'.heap[g]? = w.heap[g]?) : Bld w' base b A c l := by
  obtain ⟨h1, ⟨p, hp, hc⟩, ho, hn⟩ := h
  refine ⟨h1, ⟨p, hp, hb.trans hc⟩, ?_, hn⟩
  unfold Own at ho ⊢
  refine ⟨ho.1, ?_⟩
  rcases ho.2 with h2 | ⟨g, cap, cur, hv, hg, hh, r⟩
  · exact .inl h2
  · refine .inr ⟨g, cap, cur, hv, hg, ?_, r⟩
    injection hv with hv
    rw [hA g (by rw [hv]; rfl)]
    exact hh
theorem Bld.alloc {w : World} {base b : Nat} {A : Option Addr} {c : Nat} {l : List UInt8} (h : Bld w base b A c l) (o : Obj) : Bld (w.alloc o) base b A c l := by
  have hlt := h.lt
  refine h.kept ?_ fun g hg => ?_
  · exact Below.heap_alloc _ _ _ hlt
  · exact Below.heap_alloc _ _ _ (h.own.blk_ge g hg).2
set_option maxHeartbeats 1000000 in
set_option maxRecDepth 100000 in
theorem ccheck_any (base b : Nat) (A : Option Addr) (c : Nat) (l : List UInt8) (w : World) (h : Bld w base b A c l) :
    Calls Tryz.prog 42 #[.pointer (some ⟨b, 0, none⟩)] w fun e w' => e = .returned (.tuple #[]) ∧ (Bld w' base b A c l ∧ w'.heap[b]? = some (.cells #[.pointer (some ⟨b, 0, none⟩), .slice A l.length c] 41 (0, 0)) ∧ KeptBut w w' b none ∧ w'.heap.size = w.heap.size) := by
  have hlt := h.lt
  obtain ⟨h1, ⟨p, hp, hc⟩, ho, hn⟩ := h
  have c0 : w.cell? ⟨b, 0, none⟩ = some p := by rw [Lib.cell_of_heap hc]; rfl
  obtain ⟨j, hj⟩ : ∃ j, Tryz.prog.info? 41 = some j ∧ j.size = 2 := by
    have : (Tryz.prog.info? 41).map (fun i => i.size) = some 2 := by kernel_rfl
    obtain ⟨j, hj, hs⟩ := Option.map_eq_some_iff.1 this
    exact ⟨j, hj, hs⟩
  have HO := Lib.hid ho; have HC := Lib.hid hc
  rcases hp with rfl | rfl
  · have hsh : w.shape? b = some (41, 2) := by
      unfold World.shape?
      rw [hc]; rfl
    have hfz : w.frozen? ⟨b, 0, none⟩ = false := Lib.frozen_of_heap hc 0
    have HB : Hid ((w.setCell ⟨b, 0, none⟩ (.pointer (some ⟨b, 0, none⟩))).heap[b]? = some (.cells #[.pointer (some ⟨b, 0, none⟩), .slice A l.length c] 41 (0, 0))) := Lib.hid (by
      rw [heap_setCell_same w b 0 _ _ _ hc]; rfl)
    have HK : Hid (KeptBut w (w.setCell ⟨b, 0, none⟩ (.pointer (some ⟨b, 0, none⟩))) b none) := Lib.hid ⟨rfl, rfl, rfl, by simp, fun k hk hkb _ => by rw [heap_setCell_other _ _ _ _ hkb]⟩
    clear hc ho
    go_enter Tryz.func42, Tryz.ntmps42
    go_wp2
    rw [Lib.run_to_unsafe w ⟨b, 0, none⟩ Tryz.underlying38 Tryz.underlying117 hj.1 (by rw [hj.2]; decide) hsh (Nat.zero_lt_succ 1)]
    simp only [Result.andThen]
    rw [Oper.upon_value]
    go_wp2
    rw [run_callFunc_extern Tryz.func60 (by kernel_rfl) (by kernel_rfl) (by kernel_rfl) (e := Extern.AbiNoEscape.same) (by kernel_rfl)]
    rw [Lib.run_noEscape]
    simp only [Result.andThen]
    rw [Oper.upon_value]
    go_wp2
    rw [Lib.run_from_unsafe w ⟨b, 0, none⟩ Tryz.underlying117 Tryz.underlying38 hj.1 hsh (by kernel_rfl)]
    simp only [Result.andThen]
    rw [Oper.upon_value]
    go_wp2
    go_end0
    refine ⟨rfl, ⟨h1, ⟨_, .inr rfl, HB.out⟩, ?_, hn⟩, HB.out, HK.out, by simp⟩
    unfold Own
    refine ⟨HO.out.1, ?_⟩
    rcases HO.out.2 with h2 | ⟨g, cap, cur, hv, hg, hh, r⟩
    · exact .inl h2
    · refine .inr ⟨g, cap, cur, hv, hg, ?_, r⟩
      injection hv with hv
      have hgb : g ≠ b := fun e => hn (by rw [hv, ← e]; rfl)
      rw [heap_setCell_other _ _ _ _ hgb]
      exact hh
  · clear hc ho
    go_enter Tryz.func42, Tryz.ntmps42
    go_wp2
    rw [Lib.run_neq_ptr_same w _ Tryz.underlying38 hj.1]
    go_wp2
    go_end0
    exact ⟨rfl, ⟨h1, ⟨_, .inr rfl, HC.out⟩, HO.out, hn⟩, HC.out, ⟨rfl, rfl, rfl, Nat.le_refl _, fun _ _ _ _ => rfl⟩, rfl⟩
theorem KeptBut.trans_none {w w1 w2 : World} {b : Nat} {r : Option Nat} (h : KeptBut w w1 b none) (hs : w1.heap.size = w.heap.size) (k : KeptBut w1 w2 b r) : KeptBut w w2 b r :=
  ⟨k.os.trans h.os, k.tape.trans h.tape, k.output.trans h.output, by have := k.size; omega, fun i hi hb hr => (k.block i (by omega) hb hr).trans (h.block i hi hb (by simp))⟩
set_option maxHeartbeats 2000000 in
set_option maxRecDepth 100000 in
theorem wbyte_any (base b : Nat) (A : Option Addr) (c : Nat) (l : List UInt8) (x : Int) (y : UInt8) (hx : (y.toNat : Int) = x) (hl : l.length ≤ 100000) (w : World) (h : Bld w base b A c l) :
    Calls Tryz.prog 41 #[.pointer (some ⟨b, 0, none⟩), .int .u8 x] w fun e w' => e = .returned .nilIface ∧ (∃ A' c', Bld w' base b A' c' (l ++ [y]) ∧ KeptBut w w' b (blk A) ∧ (blk A' = blk A ∨ ∃ g, blk A' = some g ∧ w.heap.size ≤ g)) := by
  have CC := Lib.hid (ccheck_any base b A c l w h)
  have hlow := h.low
  clear h
  have HX := Lib.hid hx; clear hx
  go_enter Tryz.func41, Tryz.ntmps41
  go_wp2_with fail
  refine CC.out.mono ?_
  rintro e w1 ⟨rfl, hB, hh, hk, hs⟩
  have hlt := hB.lt
  have ho := hB.own
  have hn := hB.ne
  have c0 : w1.cell? ⟨b, 0, none⟩ = some (.pointer (some ⟨b, 0, none⟩)) := by rw [Lib.cell_of_heap hh]; rfl
  have c1 : w1.cell? ⟨b, 1, none⟩ = some (.slice A l.length c) := by rw [Lib.cell_of_heap hh]; rfl
  have HH := Lib.hid hh; have HO := Lib.hid ho; have HN := Lib.hid hn; have HK := Lib.hid hk; have HS := Lib.hid hs
  have hbase : base ≤ w1.heap.size := by omega
  clear hB hh ho hn hk hs
  have RN : Hid (RdB (w1.alloc (.cells #[.int .u8 x] 5)) (w1.heap.size + 1) (some ⟨w1.heap.size, 0, none⟩) [y]) := Lib.hid (by
    have := rdB_one (w := w1.alloc (.cells #[.int .u8 x] 5)) (g := w1.heap.size) (x := x) (b := y) (by simp) HX.out (by simp)
    simpa using this)
  go_wp2_with (at_builtin; refine wpList_append_b _ rfl _ _ btB rfl base A c l rfl (HO.out.alloc _) (w1.heap.size + 1) (some ⟨w1.heap.size, 0, none⟩) 1 1 [y] rfl rfl (by exact RN.out) (by simp; omega) (by simp; omega) ?_)
  intro A' c' L w2 hL ho2 hg2 hat2
  have hb2 : w2.heap[b]? = some (.cells #[.pointer (some ⟨b, 0, none⟩), .slice A l.length c] 41 (0, 0)) := by
    rw [hg2.block b (by simp; omega) (fun e => HN.out e.symm), Lib.alloc_old w1 _ b hlt]
    exact HH.out
  have d0 : w2.cell? ⟨b, 0, none⟩ = some (.pointer (some ⟨b, 0, none⟩)) := by rw [Lib.cell_of_heap hb2]; rfl
  have d1 : w2.cell? ⟨b, 1, none⟩ = some (.slice A l.length c) := by rw [Lib.cell_of_heap hb2]; rfl
  have f1 : w2.frozen? ⟨b, 1, none⟩ = false := Lib.frozen_of_heap hb2 1
  have HL := Lib.hid hL; have HO2 := Lib.hid ho2; have HG := Lib.hid hg2; have HA := Lib.hid hat2; have HB2 := Lib.hid hb2
  clear hL ho2 hg2 hat2 hb2
  go_wp2_with fail
  go_ret
  have hL := HL.out
  subst hL
  refine ⟨rfl, A', c', ?_⟩
  have hsz : w1.heap.size + 1 ≤ w2.heap.size := by have := HG.out.size; simpa using this
  have hne' : blk A' ≠ some b := by
    rcases HA.out with h | h
    · rw [h]; exact HN.out
    · rw [h]; intro e; injection e with e; omega
  refine ⟨⟨hlow, ⟨_, .inr rfl, ?_⟩, ?_, hne'⟩, HK.out.trans_none HS.out ⟨HG.out.os, HG.out.tape, HG.out.output, by simp; omega, fun k hk hkb hkr => ?_⟩, ?_⟩
  · rw [heap_setCell_same w2 b 1 _ _ _ HB2.out]; rfl
  · unfold Own
    refine ⟨HO2.out.1, ?_⟩
    rcases HO2.out.2 with h2 | ⟨g, cap, cur, hv, hg, hh, r⟩
    · exact .inl h2
    · refine .inr ⟨g, cap, cur, hv, hg, ?_, r⟩
      injection hv with hv
      rw [heap_setCell_other _ _ _ _ (fun e => hne' (by rw [hv]; simp at e; rw [← e]; rfl))]
      exact hh
  · rw [heap_setCell_other _ _ _ _ hkb, HG.out.block k (by simp; omega) hkr]
    exact Lib.alloc_old w1 _ k hk
  · rcases HA.out with h | h
    · exact .inl h
    · exact .inr ⟨_, h, by have := HS.out; simp; omega⟩
set_option maxHeartbeats 2000000 in
set_option maxRecDepth 100000 in
theorem wstr_any (base b : Nat) (A : Option Addr) (c : Nat) (l : List UInt8) (s : ByteArray) (t : List UInt8) (hst : s.data.toList = t) (hl : l.length ≤ 100000) (hl2 : t.length ≤ 1000000) (w : World) (h : Bld w base b A c l) :
    Calls Tryz.prog 14 #[.pointer (some ⟨b, 0, none⟩), .string s] w fun e w' => e = .returned (.tuple #[.int .i64 (s.size : Int), .nilIface]) ∧ (∃ A' c', Bld w' base b A' c' (l ++ t) ∧ KeptBut w w' b (blk A)) := by
  have CC := Lib.hid (ccheck_any base b A c l w h)
  have hlow := h.low
  clear h
  have hsz0 : s.size = t.length := by rw [← hst]; simp
  have HX := Lib.hid hst; have HSZ := Lib.hid hsz0
  have hss : s.size ≤ 1000000 := by omega
  clear hst hsz0
  obtain ⟨i0, hi, hz0, hz1, hz2⟩ := info_parts btB.info
  have HI := Lib.hid hi
  clear hi
  go_enter Tryz.func14, Tryz.ntmps14
  go_wp2_with fail
  refine CC.out.mono ?_
  rintro e w1 ⟨rfl, hB, hh, hk, hs⟩
  have hlt := hB.lt
  have ho := hB.own
  have hn := hB.ne
  have c0 : w1.cell? ⟨b, 0, none⟩ = some (.pointer (some ⟨b, 0, none⟩)) := by rw [Lib.cell_of_heap hh]; rfl
  have c1 : w1.cell? ⟨b, 1, none⟩ = some (.slice A l.length c) := by rw [Lib.cell_of_heap hh]; rfl
  have HH := Lib.hid hh; have HO := Lib.hid ho; have HN := Lib.hid hn; have HK := Lib.hid hk; have HS := Lib.hid hs
  have hbase : base ≤ w1.heap.size := by omega
  have HW := Lib.hid (show w1.ownsRow base 5 1 (.slice A l.length c) l.length (bv l) from ho)
  clear hB hh ho hn hk hs
  go_wp2_with (at_builtin; refine Lib.wpList_append_own_string _ rfl _ _ 39 9 rfl base 5 i0 Tryz.underlying39 Tryz.underlying9 HI.out hz0 hz1 hz2 _ _ _ rfl HW.out s rfl (by unfold maxLen; omega) (by omega) hbase ?_)
  intro v' w2 hown' hg2 _
  have hb2 : w2.heap[b]? = some (.cells #[.pointer (some ⟨b, 0, none⟩), .slice A l.length c] 41 (0, 0)) := by
    rw [hg2.block b hlt (fun e => HN.out (by rw [ownBlock_slice] at e; exact e.symm))]
    exact HH.out
  have d0 : w2.cell? ⟨b, 0, none⟩ = some (.pointer (some ⟨b, 0, none⟩)) := by rw [Lib.cell_of_heap hb2]; rfl
  have d1 : w2.cell? ⟨b, 1, none⟩ = some (.slice A l.length c) := by rw [Lib.cell_of_heap hb2]; rfl
  have f1 : w2.frozen? ⟨b, 1, none⟩ = false := Lib.frozen_of_heap hb2 1
  obtain ⟨A', c', rfl⟩ : ∃ A' c', v' = .slice A' (l ++ t).length c' := by
    rw [List.length_append, ← HSZ.out]
    rcases hown'.2 with ⟨hv, hn0⟩ | ⟨g, cap, cur, hv, _⟩
    · exact ⟨none, 0, by rw [hv, hn0]⟩
    · exact ⟨_, _, hv⟩
  have HO2 := Lib.hid hown'; have HG := Lib.hid hg2; have HB2 := Lib.hid hb2
  obtain ⟨n, hn⟩ : ∃ n, n = (l ++ t).length := ⟨_, rfl⟩
  rw [← hn]
  have HN2 := Lib.hid hn
  clear hown' hg2 hb2 hn
  go_wp2_with fail
  go_ret2
  have hn := HN2.out
  subst hn
  refine ⟨rfl, A', c', ?_⟩
  have hG2 := HG.out
  rw [ownBlock_slice] at hG2
  have hsz : w1.heap.size ≤ w2.heap.size := HG.out.size
  have hne' : blk A' ≠ some b := by
    intro e
    rcases HO2.out.2 with h2 | ⟨g, cap, cur, hv, hg, hh, r⟩
    · have hv := h2.1
      injection hv with hv
      rw [hv] at e; cases e
    · injection hv with hv
      rw [hv] at e
      injection e with e
      simp at e
      rw [e, HB2.out] at hh
      injection hh with hh
      injection hh with _ hh
      cases hh
  refine ⟨⟨hlow, ⟨_, .inr rfl, ?_⟩, ?_, hne'⟩, HK.out.trans_none HS.out ⟨HG.out.os, HG.out.tape, HG.out.output, by simp; omega, fun k hk hkb hkr => ?_⟩⟩
  · rw [heap_setCell_same w2 b 1 _ _ _ HB2.out]; rfl
  · have ho2 : w2.ownsRow base 5 1 (.slice A' (l ++ t).length c') (l ++ t).length (bv (l ++ t)) := by
      have := HO2.out
      have e2 : bv (l ++ t) = bv l ++ Lib.strCells s := by rw [bv_append]; congr 1; unfold Lib.strCells bv; rw [HX.out]
      have e3 : (l ++ t).length = l.length + s.size := by rw [List.length_append, HSZ.out]
      rw [e2, e3]
      rw [e3] at this
      exact this
    unfold Own
    refine ⟨ho2.1, ?_⟩
    rcases ho2.2 with h2 | ⟨g, cap, cur, hv, hg, hh, r⟩
    · exact .inl h2
    · refine .inr ⟨g, cap, cur, hv, hg, ?_, r⟩
      injection hv with hv
      rw [heap_setCell_other _ _ _ _ (fun e => hne' (by rw [hv]; simp at e; rw [← e]; rfl))]
      exact hh
  · rw [heap_setCell_other _ _ _ _ hkb, hG2.block k hk hkr]
end Go.Proofs.YtlmejpkngnilcaaGreatDoor
