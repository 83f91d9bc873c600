/- Parts of the proof, one behind the other: Bytes that grow behind a box: Encode's closure 'numbers'.; Contract: version.Encode.; Contract: the reference's Encode.; Decode's closures 'number' and 'text'.; Plain: reading with a mark 'amiss' (none), as Decode does it.; Contract: version.Decode. -/
import Derived.Test.YtekbdedpombgcaaGreatDoorMrg27
import Derived.Test.YtekbdedpombgcaaGreatDoorMrg05
import Derived.Test.YtekbdedpombgcaaGreatDoorMrg19
import Derived.Test.YtekbdedpombgcaaGreatDoorMrg28
namespace Go.Proofs.YtekbdedpombgcaaGreatDoor
open Go.RowKit Go.Maps

namespace Ver
def turnsE : List TypeId := [5, 34]
/-- What is done while bytes are made: only those tags' blocks are turned. -/
def AftE (w w' : World) (base : Nat) : Prop := Ref.Aft turnsE w w' base (fun _ => False) (fun _ => False)
/-- Bytes in a box. -/
structure Nb (w : World) (base gb : Nat) (b : List UInt8) : Prop where
  ge : base ≤ gb
  at_ : ∃ A c, w.heap[gb]? = some (.cells #[.slice A b.length c] 34) ∧ Own w base 5 A c b
theorem Nb.below {w w' : World} {base gb : Nat} {b : List UInt8} (h : Nb w base gb b) (hb : Below w.heap.size w w') : Nb w' base gb b := by
  obtain ⟨A, c, h1, h2⟩ := h.at_
  exact ⟨h.ge, A, c, (hb.block gb (Array.getElem?_eq_some_iff.1 h1).1).trans h1, h2.below hb⟩
theorem AftE.refl (w : World) (base : Nat) : AftE w w base := Ref.Aft.refl w base _
theorem AftE.trans {w w1 w' : World} {base : Nat} (h1 : AftE w w1 base) (h2 : AftE w1 w' base) : AftE w w' base := Ref.Aft.trans h1 h2
theorem AftE.of_below {w w' : World} {base : Nat} (hb : Below w.heap.size w w') : AftE w w' base := Ref.Aft.of_below hb _
theorem AftE.below {w w' : World} {base : Nat} (h : AftE w w' base) (hb : base ≤ w.heap.size) : Below base w w' := ⟨h.os, h.tape, h.output, h.size, fun k hk => h.block k (by omega) (.inl hk)⟩
theorem own_cellp {w : World} {base : Nat} {e : TypeId} {A : Option Addr} {c : Nat} {l : List UInt8} (h : Own w base e A c l) (p : Addr) (v : Value) (hp : blk A ≠ some p.block) : Own (w.setCell p v) base e A c l :=
  World.ownsRow.kept h (Sto.grownBy_setS w p v) (.inr (by rw [ownBlock_slice]; exact hp))
/-- .. more behind them. -/
theorem Nb.put {w w1 w8 : World} {base gb c c' : Nat} {b x L : List UInt8} {A A' : Option Addr} (hge : base ≤ gb) (hbx : w.heap[gb]? = some (.cells #[.slice A b.length c] 34)) (ho : Own w base 5 A c b) (hb : Below w.heap.size w w1)
    (hg : w1.grownBy w8 (blk A)) (hL : L = b ++ x) (ho8 : Own w8 base 5 A' c' L) : Nb (w8.setCell ⟨gb, 0, none⟩ (.slice A' L.length c')) base gb (b ++ x) ∧ AftE w (w8.setCell ⟨gb, 0, none⟩ (.slice A' L.length c')) base ∧ w8.heap[gb]? = some (.cells #[.slice A b.length c] 34) := by
  subst hL
  have hgb : gb < w.heap.size := (Array.getElem?_eq_some_iff.1 hbx).1
  have htb : Sto.Tag w gb 34 := ⟨_, _, hbx⟩
  have hne : blk A ≠ some gb := fun e => (Sto.ownTag ho e).ne htb (by decide) rfl
  have e1 : w8.heap[gb]? = w.heap[gb]? := (hg.block gb (by have := hb.size; omega) (fun e => hne e.symm)).trans (hb.block gb hgb)
  have e8 : w8.heap[gb]? = some (.cells #[.slice A b.length c] 34) := e1.trans hbx
  refine ⟨⟨hge, A', c', box_set e8 _, own_cellp ho8 _ _ (fun e => (Sto.ownTag ho8 e).ne ⟨_, _, e8⟩ (by decide) rfl)⟩, ?_, e8⟩
  exact ⟨hg.os.trans hb.os, hg.tape.trans hb.tape, hg.output.trans hb.output, by have := hb.size; have := hg.size; simp; omega, fun k hk hn => by
    have n1 : k ≠ gb := fun e => by
      subst e
      rcases hn with hn | hn
      · omega
      · exact hn _ (by simp [turnsE]) htb
    have n2 : blk A ≠ some k := fun e => by
      rcases hn with hn | hn
      · have := (ho.blk_ge k e).1; omega
      · exact hn _ (by simp [turnsE]) (Sto.ownTag ho e)
    rw [box_set_other n1, hg.block k (by have := hb.size; omega) (fun e => n2 e.symm), hb.block k hk], fun _ _ h => h⟩
set_option maxHeartbeats 1000000 in
set_option maxRecDepth 100000 in
theorem numbers_in (base gb : Nat) (LA : Option Addr) (lc : Nat) (l : List Int) (b : List UInt8) (w : World) (h : Nb w base gb b) (hbase : base ≤ w.heap.size) (hL : ∀ W, AftE w W base → RdS Sto.I1 1 W W.heap.size LA l) (hl : l.length ≤ 100000) (hb : b.length ≤ 1000000000) (hn : ∀ n ∈ l, 0 ≤ n ∧ n ≤ 1099511627776) :
    Calls Tryz.prog 205 #[.slice LA l.length lc, .pointer (some ⟨gb, 0, none⟩)] w fun e w' => e = .returned (.tuple #[]) ∧ Nb w' base gb (b ++ l.flatMap numI) ∧ AftE w w' base := by
  have HNB := Lib.hid h
  have HL := Lib.hid hL
  have HNN := Lib.hid hn
  have HBS := Lib.hid hbase
  clear h hL hn hbase
  go_enter Tryz.func205, Tryz.ntmps205
  go_wp2_with fail
  go_loopw [7] (fun i wr => ∃ (k : Nat), k ≤ l.length ∧ i = .int .i64 (k : Int) ∧ Hid (Nb wr base gb (b ++ (l.take k).flatMap numI)) ∧ Hid (AftE w wr base) ∧ Hid ((b ++ (l.take k).flatMap numI).length ≤ b.length + 10 * k)) (fun i _ => l.length - (intOf i).toNat)
  case atStart => exact ⟨0, by omega, rfl, Lib.hid (by simpa using HNB.out), Lib.hid (AftE.refl _ _), Lib.hid (by simp)⟩
  case round =>
    obtain ⟨k, hk, rfl, HN, HA, HZ⟩ := hrel
    by_cases hlt : k < l.length
    · obtain ⟨q, off, hA, hq, hc⟩ := RdS.row (f := Sto.I1) (n := 1) (fun _ => rfl) (by omega) (HL.out wr HA.out) (by omega)
      have c0 := hc k hlt 0 _ rfl
      rw [Nat.add_zero, Nat.mul_one] at c0
      obtain ⟨n1, n2⟩ := HNN.out _ (List.getElem_mem hlt)
      have HTK : Hid (l.take (k + 1) = l.take k ++ [l[k]]) := Lib.hid (List.take_succ_eq_append_getElem hlt)
      obtain ⟨x, hx⟩ : ∃ x, x = l[k] := ⟨_, rfl⟩
      rw [← hx] at c0 n1 n2 HTK
      obtain ⟨A, c, hbx, hown⟩ := HN.out.at_
      obtain ⟨B', hB'⟩ : ∃ B', B' = b ++ (l.take k).flatMap numI := ⟨_, rfl⟩
      rw [← hB'] at hbx hown HZ
      have hw : IntKind.u64.wrap x = x := by rw [IntKind.wrap_u64]; omega
      subst hA
      have HBP := Lib.hid hB'
      clear hB'
      have HBX := Lib.hid hbx
      have HOW := Lib.hid hown
      clear hc hx hbx hown
      go_wp2_with fail
      obtain ⟨V, hV⟩ : ∃ V, wr.drew = V := ⟨_, rfl⟩
      have HBV : Hid (Below wr.heap.size wr V) := Lib.hid (by rw [← hV]; exact (Below.refl _ _).drew)
      have HBXV : Hid (V.heap[gb]? = some (.cells #[.slice A B'.length c] 34)) := Lib.hid ((HBV.out.block _ (Array.getElem?_eq_some_iff.1 HBX.out).1).trans HBX.out)
      have HSV : V.cell? ⟨gb, 0, none⟩ = some (.slice A B'.length c) := box_cell HBXV.out
      have HNL := Lib.hid (Cod.number_len (n := x.toNat) (by omega))
      have HNX : Hid (IntKind.u64.wrap x = ((x.toNat : Nat) : Int)) := Lib.hid (by omega)
      have hwn : x = ((x.toNat : Nat) : Int) := by omega
      obtain ⟨xn, hxn⟩ : ∃ xn, xn = x.toNat := ⟨_, rfl⟩
      rw [← hxn] at hwn HNL
      have hxl : xn < 18446744073709551616 := by omega
      have KN : Hid (∀ W, Calls Tryz.prog 112 #[.int .u64 x] W (GivesB W (numI x))) := Lib.hid (fun W => by
        unfold numI
        rw [← hxn, hwn]
        exact number_any xn hxl W)
      have HXN := Lib.hid hxn
      clear hwn hxn
      refine wp_region_E 5 (fun w' => w'.cell? ⟨gb, 0, none⟩ = some (.slice A B'.length c)) (by kernel_rfl) ?_
      rw [hV]
      clear hV
      refine wpAnyE_take (i := 0) (v := ?_) rfl (by kernel_rfl) (by kernel_rfl) (by kernel_rfl) (by kernel_rfl) (fun _ _ _ h => h) (Or.inl ⟨by rfl, ?_⟩) HSV ?_
      rotate_left
      · (intro wy hSw; go_simp; try with_reducible rfl)
      try simp only [Act.put, List.setIfInBounds_toArray]
      refine wpAnyE_take (i := 1) (v := ?_) rfl (by kernel_rfl) (by kernel_rfl) (by kernel_rfl) (by kernel_rfl) (fun _ _ _ h => h) (Or.inl ⟨by rfl, ?_⟩) HSV ?_
      rotate_left
      · (intro wy hSw; go_simp; try with_reducible rfl)
      try simp only [Act.put]
      refine wpAnyE_take (i := 2) (v := ?_) rfl (by kernel_rfl) (by kernel_rfl) (by kernel_rfl) (by kernel_rfl) (fun _ _ _ h => h) (Or.inl ⟨by rfl, ?_⟩) HSV ?_
      rotate_left
      · (intro wy hSw; go_simp; try with_reducible rfl)
      simp only [Act.put, List.getElem_toArray, List.getElem_cons_succ, List.getElem_cons_zero, List.setIfInBounds_toArray, List.set_cons_succ, List.set_cons_zero]
      refine wpAnyE_one (i := 3) (by kernel_rfl) rfl (fun K hK => ?_)
      refine step_call1_dv (by rfl) (some 14) (by rfl) (.tmp 13) (by rfl) (.int .u64 x) (by first | rfl | (simp [Act.eval, hw]; done)) (enters_of Tryz.func112 (by kernel_rfl) rfl) _ (KN.out V) ?_
      rintro e w1 ⟨A1, c1, rfl, ho1, hb1⟩
      refine ⟨_, rfl, ?_⟩
      have hz1 := hb1.size
      have hS1 : w1.cell? ⟨gb, 0, none⟩ = some (.slice A B'.length c) := (hb1.cell (p := ⟨gb, 0, none⟩) (Array.getElem?_eq_some_iff.1 HBXV.out).1).trans HSV
      refine hK _ _ hS1 ?_
      simp only [Act.put, List.setIfInBounds_toArray, List.set_cons_succ, List.set_cons_zero]
      refine wpAnyE_one (i := 4) (by kernel_rfl) rfl (fun K hK => ?_)
      refine step_append_bd _ (by rfl) (some 15) (by rfl) (.tmp 11) (.tmp 14) bt (by rfl) base A c B' rfl ((HOW.out.below HBV.out).below hb1) w1.heap.size A1 _ c1 (numI x) rfl rfl ho1.rd (by have := HNL.out; have := HZ.out; unfold numI; rw [← HXN.out]; omega) (by have := HBS.out; have := HBV.out.size; have := HA.out.size; omega) ?_
      intro A' c' L' w8 hl8 ho8 hg8 hat8
      have HP := Lib.hid (Nb.put HN.out.ge HBX.out HOW.out (HBV.out.trans (hb1.mono HBV.out.size)) hg8 hl8 ho8)
      have hS8 : w8.cell? ⟨gb, 0, none⟩ = some (.slice A B'.length c) := box_cell HP.out.2.2
      have f8 : w8.frozen? ⟨gb, 0, none⟩ = false := box_frozen HP.out.2.2
      refine hK _ _ hS8 ?_
      clear hg8 hl8 ho8 hat8 hb1 ho1 HOW
      simp only [Act.put, List.setIfInBounds_toArray, List.set_cons_succ, List.set_cons_zero]
      refine wpAnyE_last (by kernel_rfl) (by kernel_rfl) rfl (fun K hK => ?_)
      go_simp
      refine hK _ _ ?_
      obtain ⟨W, hW⟩ : ∃ W, W = w8.setCell ⟨gb, 0, none⟩ (.slice A' L'.length c') := ⟨_, rfl⟩
      have HN2 : Hid (Nb W base gb (b ++ (l.take (k + 1)).flatMap numI)) := Lib.hid (by
        have h := HP.out.1
        rw [HBP.out, List.append_assoc] at h
        rw [hW, HTK.out, List.flatMap_append, List.flatMap_cons, List.flatMap_nil, List.append_nil]
        exact h)
      have HA2 : Hid (AftE w W base) := Lib.hid (HA.out.trans (by rw [hW]; exact HP.out.2.1))
      have HZ2 : Hid ((b ++ (l.take (k + 1)).flatMap numI).length ≤ b.length + 10 * (k + 1)) := Lib.hid (by
        have h1 := HZ.out
        have h2 := HNL.out
        rw [HBP.out] at h1
        rw [HTK.out, List.flatMap_append, List.flatMap_cons, List.flatMap_nil, List.append_nil, ← List.append_assoc, List.length_append]
        unfold numI at *
        rw [← HXN.out]
        omega)
      rw [← hW]
      clear hW HP hS8 f8 HBX HBXV HSV hS1 hz1 HN HA HZ
      go_wp2_with fail
      exact ⟨⟨k + 1, hlt, by simp, HN2, HA2, HZ2⟩, by simp only [intOf]; omega⟩
    · have hke : k = l.length := by omega
      subst hke
      have HNE : Hid (Nb wr base gb (b ++ l.flatMap numI)) := Lib.hid (by have := HN.out; rwa [List.take_length] at this)
      go_wp2_with fail
      go_end0
      exact ⟨rfl, HNE.out, HA.out⟩
end Ver
end Go.Proofs.YtekbdedpombgcaaGreatDoor

namespace Go.Proofs.YtekbdedpombgcaaGreatDoor
open Go.RowKit Go.Maps

namespace Ver
def Ev.obj (e : Ev) : Obj := .cells #[.slice e.A e.add.length e.c, .slice e.DA e.drop.length e.dc, .int .i64 e.log, .int .i64 e.next] 186
/-- While an edit's bytes are made. -/
structure Eb (w0 : World) (e : Ev) (gb : Nat) (b : List UInt8) (W : World) : Prop where
  box : W.heap[w0.heap.size]? = some e.obj
  nb : Nb W w0.heap.size gb b
  below : Below w0.heap.size w0 W
section
variable {w0 W W' : World} {e : Ev} {gb : Nat} {b b' : List UInt8}
theorem Eb.lt (h : Eb w0 e gb b W) : w0.heap.size < W.heap.size := (Array.getElem?_eq_some_iff.1 h.box).1
theorem Eb.aft (h : Eb w0 e gb b W) (hn : Nb W' w0.heap.size gb b') (ha : AftE W W' w0.heap.size) : Eb w0 e gb b' W' :=
  ⟨(ha.block _ h.lt (.inr (fun T hT t => by
      obtain ⟨cs, fr, hh⟩ := t
      have h2 := h.box
      rw [hh] at h2
      injection h2 with h2
      injection h2 with _ h3 _
      rw [h3] at hT
      revert hT
      decide))).trans h.box, hn, h.below.trans (ha.below (Nat.le_of_lt h.lt))⟩
theorem Eb.low (h : Eb w0 e gb b W) (hb : Below W.heap.size W W') : Eb w0 e gb b W' := ⟨(hb.block _ h.lt).trans h.box, h.nb.below hb, h.below.trans (hb.mono (Nat.le_of_lt h.lt))⟩
theorem Eb.alloc (h : Eb w0 e gb b W) (o : Obj) : Eb w0 e gb b (W.alloc o) := h.low ((Below.refl _ _).alloc (Nat.le_refl _) o)
theorem Eb.c (h : Eb w0 e gb b W) : W.cell? ⟨w0.heap.size, 0, none⟩ = some (.slice e.A e.add.length e.c) ∧ W.cell? ⟨w0.heap.size, 1, none⟩ = some (.slice e.DA e.drop.length e.dc) ∧ W.cell? ⟨w0.heap.size, 2, none⟩ = some (.int .i64 e.log) ∧ W.cell? ⟨w0.heap.size, 3, none⟩ = some (.int .i64 e.next) := by
  have h1 := h.box
  refine ⟨?_, ?_, ?_, ?_⟩ <;> (rw [cell_of_row _ _ _ _ _ (0, 0) h1]; rfl)
theorem rd_ints {q : Nat} {l : List Int} {T : TypeId} (h : W.heap[q]? = some (.cells (l.map (Value.int .i64)).toArray T)) : RdS Sto.I1 1 W W.heap.size (some ⟨q, 0, none⟩) l := by
  refine RdS.of (f := Sto.I1) (n := 1) (l := l) (fun _ => rfl) _ 0 (Array.getElem?_eq_some_iff.1 h).1 (fun k hk j u hj => ?_)
  have hj0 : j = 0 := by
    rcases j with _ | j
    · rfl
    · simp [Sto.I1] at hj
  subst hj0
  rw [cell_of_row _ q _ _ _ (0, 0) h]
  simp [Sto.I1] at hj
  simp [hk, hj]
/-- numbers(..) at a row that stands through it. -/
theorem Eb.num (h : Eb w0 e gb b W) (LA : Option Addr) (lc : Nat) (l : List Int) (hL : ∀ W', AftE W W' w0.heap.size → RdS Sto.I1 1 W' W'.heap.size LA l) (hl : l.length ≤ 100000) (hb : b.length ≤ 1000000000) (hn : ∀ n ∈ l, 0 ≤ n ∧ n ≤ 1099511627776) :
    Calls Tryz.prog 205 #[.slice LA l.length lc, .pointer (some ⟨gb, 0, none⟩)] W fun r W' => r = .returned (.tuple #[]) ∧ Eb w0 e gb (b ++ l.flatMap numI) W' ∧ AftE W W' w0.heap.size :=
  (numbers_in w0.heap.size gb LA lc l b W h.nb (Nat.le_of_lt h.lt) hL hl hb hn).mono fun _ _ ⟨h1, h2, h3⟩ => ⟨h1, h.aft h2 h3, h3⟩
/-- .. at a row made for it. -/
theorem Eb.lit (h : Eb w0 e gb b W) {N : Nat} (hN : W.heap.size = N) (l : List Int) {cs : Array Value} (hcs : cs = (l.map (Value.int .i64)).toArray) (hl : l.length ≤ 100000) (hb : b.length ≤ 1000000000) (hn : ∀ n ∈ l, 0 ≤ n ∧ n ≤ 1099511627776) :
    Calls Tryz.prog 205 #[.slice (some ⟨N, 0, none⟩) l.length l.length, .pointer (some ⟨gb, 0, none⟩)] (W.alloc (.cells cs 3)) fun r W' => r = .returned (.tuple #[]) ∧ Eb w0 e gb (b ++ l.flatMap numI) W' ∧ AftE W W' w0.heap.size := by
  subst hN
  have hx := heap_alloc_new W (.cells cs 3)
  refine ((h.alloc _).num _ _ l (fun W' ha => rd_ints (q := W.heap.size) (T := 3) ?_) hl hb hn).mono fun _ _ ⟨h1, h2, h3⟩ => ⟨h1, h2, (AftE.of_below ((Below.refl _ _).alloc (Nat.le_refl _) _)).trans h3⟩
  rw [← hcs]
  refine (ha.block _ (by simp) (.inr (fun T hT t => ?_))).trans hx
  obtain ⟨c2, fr, hh⟩ := t
  rw [hx] at hh
  injection hh with hh
  injection hh with _ h3 _
  rw [← h3] at hT
  revert hT
  decide
end
theorem text_len2 {l : List UInt8} (h : l.length < 18446744073709551616) : (Cod.text l).length ≤ 10 + l.length := by
  have := Cod.number_len h
  unfold Cod.text
  rw [List.length_append]
  omega
theorem flat_len : ∀ (l : List Int), (∀ n ∈ l, (numI n).length ≤ 10) → (l.flatMap numI).length ≤ 10 * l.length
  | [], _ => by simp
  | n :: l, h => by
    have h1 := flat_len l (fun m hm => h m (by simp [hm]))
    have h2 := h n (by simp)
    rw [List.flatMap_cons, List.length_append, List.length_cons]
    omega
theorem of_mem {l : List Vf} (h : ∀ f ∈ l.map Vf.fi, okF f = true) {k : Nat} (hk : k < l.length) : okF (l[k]).fi = true := h _ (List.mem_map.2 ⟨_, List.getElem_mem hk, rfl⟩)
theorem aft_file {W W' : World} {base g : Nat} {cs : Array Value} (ha : AftE W W' base) (h : W.heap[g]? = some (.cells cs 66)) : W'.heap[g]? = some (.cells cs 66) :=
  (ha.block _ (Array.getElem?_eq_some_iff.1 h).1 (.inr (fun T hT t => by
    obtain ⟨c2, fr, hh⟩ := t
    rw [h] at hh
    injection hh with hh
    injection hh with _ h3 _
    rw [← h3] at hT
    revert hT
    decide))).trans h
/-- What Encode says. -/
def SaysEnc (w : World) (e : Ed) (r : Ending) (w' : World) : Prop := Below w.heap.size w w' ∧ ((okE e = false ∧ r = .returned (.tuple #[.slice none 0 0, .int .i64 1])) ∨ (okE e = true ∧ ∃ A c, r = .returned (.tuple #[.slice A (enc e).length c, .int .i64 0]) ∧ Own w' w.heap.size 5 A c (enc e)))
set_option maxHeartbeats 2000000 in
set_option maxRecDepth 100000 in
theorem encode_any (e : Ev) (w : World) (h : EvOk w w.heap.size e) (hl : e.add.length ≤ 1000000) (hd : e.drop.length ≤ 1000000) :
    Calls Tryz.prog 151 #[e.val] w (SaysEnc w e.ed) := by
  have hba : Below w.heap.size w (w.alloc e.obj) := (Below.refl _ _).alloc (Nat.le_refl _) _
  have KR := Lib.hid (rightEdit_any e (w.alloc e.obj) (h.keep hba) hl hd)
  have HB0 := Lib.hid hba
  have HO := Lib.hid h
  have HX0 := Lib.hid (heap_alloc_new w e.obj)
  clear h hba
  obtain ⟨A, c, add, DA, dc, drop, log, next⟩ := e
  simp only [Ev.val, Ev.obj] at *
  obtain ⟨ok, hok⟩ : ∃ ok, ok = okE (Ev.ed ⟨A, c, add, DA, dc, drop, log, next⟩) := ⟨_, rfl⟩
  rw [← hok] at KR
  have HOK := Lib.hid hok
  clear hok
  go_enter Tryz.func151, Tryz.ntmps151
  go_wp2_with fail
  refine KR.out.mono ?_
  rintro r w1 ⟨rfl, hb1⟩
  have HB1 : Hid (Below w.heap.size w w1) := Lib.hid (HB0.out.trans (hb1.mono HB0.out.size))
  have HX1 : Hid (w1.heap[w.heap.size]? = some (Ev.obj ⟨A, c, add, DA, dc, drop, log, next⟩)) := Lib.hid ((hb1.block _ (by simp)).trans HX0.out)
  rcases ok with _ | _
  · go_wp2_with fail
    refine bodyPost_ret (results_tmp2 rfl _ _ _) rfl ?_
    exact ⟨HB1.out, .inl ⟨HOK.out.symm, rfl⟩⟩
  obtain ⟨⟨g1, g2, g3, g4, g5, g6⟩, g7, g8⟩ := okE_bd HOK.out.symm
  simp only [Ev.ed, List.length_map] at g1 g2 g3 g4 g5 g6 g8
  have HG7 := Lib.hid g7
  have HG8 := Lib.hid g8
  have HBS : Hid (Below w1.heap.size w1 (w1.alloc (.cells #[.slice none 0 0] 34))) := Lib.hid ((Below.refl _ _).alloc (Nat.le_refl _) _)
  have HE0 : Hid (Eb w ⟨A, c, add, DA, dc, drop, log, next⟩ w1.heap.size [] (w1.alloc (.cells #[.slice none 0 0] 34))) := Lib.hid ⟨(HBS.out.block _ (Array.getElem?_eq_some_iff.1 HX1.out).1).trans HX1.out, ⟨HB1.out.size, none, 0, heap_alloc_new w1 _, Own.nil _ _ _⟩, HB1.out.trans (HBS.out.mono HB1.out.size)⟩
  obtain ⟨gb, hgb⟩ : ∃ gb, gb = w1.heap.size := ⟨_, rfl⟩
  have K0 := Lib.hid (HE0.out.lit (N := w1.heap.size + 1) (by simp) [(add.length : Int)] rfl (by simp) (by simp) (by simp; omega))
  obtain ⟨d0, d1, d2, d3⟩ := HE0.out.c
  simp only at d0 d1 d2 d3
  clear hb1 g7 g8 hl hd
  go_wp2_with fail
  refine K0.out.mono ?_
  rintro r w2 ⟨rfl, hE2, -⟩
  rw [← hgb] at hE2 ⊢
  have HE2 := Lib.hid hE2
  obtain ⟨d0, d1, d2, d3⟩ := hE2.c
  simp only at d0 d1 d2 d3
  have HN0 : Hid (([] ++ List.flatMap numI [(add.length : Int)] : List UInt8) = numI add.length) := Lib.hid (by simp)
  rw [HN0.out] at HE2
  have HLN : Hid (∀ n : Int, (numI n).length ≤ 10 ∨ 18446744073709551616 ≤ n.toNat) := Lib.hid (fun n => by
    by_cases hn : n.toNat < 18446744073709551616
    · exact .inl (Cod.number_len hn)
    · exact .inr (by omega))
  have HHL : Hid ((numI add.length).length ≤ 10) := Lib.hid (by rcases HLN.out (add.length : Int) with h | h <;> omega)
  clear hgb hE2 HE0 HX1 HX0 HB0 HBS K0 KR
  go_wp2_with fail
  go_loopw [21] (fun i wr => ∃ (k : Nat), k ≤ add.length ∧ i = .int .i64 (k : Int) ∧ Hid (Eb w ⟨A, c, add, DA, dc, drop, log, next⟩ gb (numI add.length ++ ((add.take k).map Vf.fi).flatMap encF) wr) ∧ Hid ((numI add.length ++ ((add.take k).map Vf.fi).flatMap encF).length ≤ 10 + 2000 * k)) (fun i _ => add.length - (intOf i).toNat)
  case atStart => exact ⟨0, by omega, rfl, Lib.hid (by simpa using HE2.out), Lib.hid (by simpa using HHL.out)⟩
  case round =>
    obtain ⟨k, hk, rfl, HE, HZ⟩ := hrel
    by_cases hlt : k < add.length
    · obtain ⟨q, off, hA, hq, hc, hok⟩ := ((HO.out.add).below HE.out.below (Nat.le_refl _)).cell hlt
      have hof := of_mem (l := add) HG7.out hlt
      have HTK : Hid (add.take (k + 1) = add.take k ++ [add[k]]) := Lib.hid (List.take_succ_eq_append_getElem hlt)
      have hok0 := HO.out.add.ok _ (List.getElem_mem hlt)
      obtain ⟨v, hv⟩ : ∃ v, v = add[k] := ⟨_, rfl⟩
      rw [← hv] at hc hok hof HTK hok0
      obtain ⟨nu, lv, FA, fc, fi, LA, lc, la, lo, hi⟩ := v
      obtain ⟨o1, o2, o3, o4, o5, o6, o7, o8, o9, o10, o11⟩ := okF_bd hof
      simp only [Vf.fi] at o1 o2 o3 o4 o5 o6 o7 o8 o9 o10 o11
      have c0 := hc 0 _ rfl
      have c1 := hc 1 _ rfl
      have c2 := hc 2 _ rfl
      have c3 := hc 3 _ rfl
      have c4 := hc 4 _ rfl
      have c5 := hc 5 _ rfl
      rw [Nat.add_zero] at c0
      simp only at c0 c1 c2 c3 c4 c5
      subst hA
      have HFI : Hid (RdB w w.heap.size FA fi) := Lib.hid hok0.f
      have HLA : Hid (RdB w w.heap.size LA la) := Lib.hid hok0.l
      have HTLfi : Hid ((Cod.text fi).length ≤ 10 + fi.length) := Lib.hid (text_len2 (by omega))
      have HTLla : Hid ((Cod.text la).length ≤ 10 + la.length) := Lib.hid (text_len2 (by omega))
      have HNLn : Hid ((numI nu).length ≤ 10 ∧ (numI lv).length ≤ 10 ∧ (numI lo).length ≤ 10 ∧ (numI hi).length ≤ 10) := Lib.hid ⟨by rcases HLN.out nu with h | h <;> omega, by rcases HLN.out lv with h | h <;> omega, by rcases HLN.out lo with h | h <;> omega, by rcases HLN.out hi with h | h <;> omega⟩
      obtain ⟨B0, hB0⟩ : ∃ B, B = numI add.length ++ ((add.take k).map Vf.fi).flatMap encF := ⟨_, rfl⟩
      rw [← hB0] at HE HZ
      have HQ0 := Lib.hid hB0
      obtain ⟨gf, hgf⟩ : ∃ gf, gf = wr.heap.size := ⟨_, rfl⟩
      have K1 := Lib.hid ((HE.out.alloc (.cells #[.int .i64 nu, .int .i64 lv, .slice FA fi.length fc, .slice LA la.length lc, .int .i64 lo, .int .i64 hi] 66)).lit (N := wr.heap.size + 1) (by simp) [nu, lv] rfl (by simp) (by have := HZ.out; omega) (by simp; omega))
      have HFA : Hid ((wr.alloc (.cells #[.int .i64 nu, .int .i64 lv, .slice FA fi.length fc, .slice LA la.length lc, .int .i64 lo, .int .i64 hi] 66)).heap[gf]? = some (.cells #[.int .i64 nu, .int .i64 lv, .slice FA fi.length fc, .slice LA la.length lc, .int .i64 lo, .int .i64 hi] 66)) := Lib.hid (by rw [hgf]; exact heap_alloc_new wr _)
      have e0 := cell_of_row _ gf 0 _ _ (0, 0) HFA.out
      have e1 := cell_of_row _ gf 1 _ _ (0, 0) HFA.out
      simp only [List.getElem?_toArray, List.getElem?_cons_zero, List.getElem?_cons_succ] at e0 e1
      rw [hgf] at e0 e1
      have HGF := Lib.hid hgf
      clear hc hok hof hv hok0 hB0 hgf
      go_wp2_with fail
      refine K1.out.mono ?_
      rintro r wA ⟨rfl, hE1, hA1⟩
      rw [← HGF.out]
      have HF1 : Hid (wA.heap[gf]? = some (.cells #[.int .i64 nu, .int .i64 lv, .slice FA fi.length fc, .slice LA la.length lc, .int .i64 lo, .int .i64 hi] 66)) := Lib.hid (aft_file hA1 HFA.out)
      obtain ⟨BA, hBA⟩ : ∃ B, B = B0 ++ List.flatMap numI [nu, lv] := ⟨_, rfl⟩
      rw [← hBA] at hE1
      have HE1 := Lib.hid hE1
      have HLBA : Hid (BA.length ≤ B0.length + 20) := Lib.hid (by have := HNLn.out; rw [hBA]; simp; omega)
      have HQA := Lib.hid hBA
      clear hE1 hA1 hBA HFA e0 e1 c0 c1 c2 c3 c4 c5 K1 HE HGF
      have hZ0 := HZ.out
      go_wp2_with fail
      obtain ⟨A2, c2, hbx2, how2⟩ := HE1.out.nb.at_
      obtain ⟨V2, hV2⟩ : ∃ V, wA.drew = V := ⟨_, rfl⟩
      have HBV2 : Hid (Below wA.heap.size wA V2) := Lib.hid (by rw [← hV2]; exact (Below.refl _ _).drew)
      have HBX2 := Lib.hid hbx2
      have HOW2 := Lib.hid how2
      have HXV2 : Hid (V2.heap[gb]? = some (.cells #[.slice A2 BA.length c2] 34)) := Lib.hid ((HBV2.out.block _ (Array.getElem?_eq_some_iff.1 hbx2).1).trans hbx2)
      have HFV2 : Hid (V2.heap[gf]? = some (.cells #[.int .i64 nu, .int .i64 lv, .slice FA fi.length fc, .slice LA la.length lc, .int .i64 lo, .int .i64 hi] 66)) := Lib.hid ((HBV2.out.block _ (Array.getElem?_eq_some_iff.1 HF1.out).1).trans HF1.out)
      have HSV2 : V2.cell? ⟨gb, 0, none⟩ = some (.slice A2 BA.length c2) ∧ V2.cell? ⟨gf, 2, none⟩ = some (.slice FA fi.length fc) := ⟨box_cell HXV2.out, by rw [cell_of_row _ _ _ _ _ (0, 0) HFV2.out]; rfl⟩
      have KT2 := Lib.hid (text_any FA fc fi V2 ((HFI.out.below (HE1.out.below.trans (HBV2.out.mono HE1.out.below.size)) (Nat.le_refl _)).more (Nat.le_trans HE1.out.below.size HBV2.out.size)) (by omega))
      clear hbx2 how2
      refine wp_region_E 5 (fun w' => w'.cell? ⟨gb, 0, none⟩ = some (.slice A2 BA.length c2) ∧ w'.cell? ⟨gf, 2, none⟩ = some (.slice FA fi.length fc)) (by kernel_rfl) ?_
      rw [hV2]
      clear hV2
      refine wpAnyE_take (i := 0) (v := ?_) rfl (by kernel_rfl) (by kernel_rfl) (by kernel_rfl) (by kernel_rfl) (fun _ _ _ h => h) (Or.inl ⟨by rfl, ?_⟩) HSV2 ?_
      rotate_left
      · (intro wy hSw; obtain ⟨hs1, hs2⟩ := hSw; go_simp; try with_reducible rfl)
      try simp only [Act.put, List.setIfInBounds_toArray]
      refine wpAnyE_take (i := 1) (v := ?_) rfl (by kernel_rfl) (by kernel_rfl) (by kernel_rfl) (by kernel_rfl) (fun _ _ _ h => h) (Or.inl ⟨by rfl, ?_⟩) HSV2 ?_
      rotate_left
      · (intro wy hSw; obtain ⟨hs1, hs2⟩ := hSw; go_simp; try with_reducible rfl)
      try simp only [Act.put]
      refine wpAnyE_take (i := 2) (v := ?_) rfl (by kernel_rfl) (by kernel_rfl) (by kernel_rfl) (by kernel_rfl) (fun _ _ _ h => h) (Or.inl ⟨by rfl, ?_⟩) HSV2 ?_
      rotate_left
      · (intro wy hSw; obtain ⟨hs1, hs2⟩ := hSw; go_simp; try with_reducible rfl)
      simp only [Act.put, List.getElem_toArray, List.getElem_cons_succ, List.getElem_cons_zero, List.setIfInBounds_toArray, List.set_cons_succ, List.set_cons_zero]
      refine wpAnyE_one (i := 3) (by kernel_rfl) rfl (fun K hK => ?_)
      refine step_call1_dv (by rfl) (some 35) (by rfl) (.tmp 34) (by rfl) (.slice FA fi.length fc) rfl (enters_of Tryz.func114 (by kernel_rfl) rfl) _ KT2.out ?_
      rintro e v2 ⟨T2, t2, rfl, ho2, hb2⟩
      refine ⟨_, rfl, ?_⟩
      have hz2 := hb2.size
      have hy2 : v2.cell? ⟨gb, 0, none⟩ = some (.slice A2 BA.length c2) ∧ v2.cell? ⟨gf, 2, none⟩ = some (.slice FA fi.length fc) := ⟨(hb2.cell (p := ⟨gb, 0, none⟩) (Array.getElem?_eq_some_iff.1 HXV2.out).1).trans HSV2.1, (hb2.cell (p := ⟨gf, 2, none⟩) (Array.getElem?_eq_some_iff.1 HFV2.out).1).trans HSV2.2⟩
      refine hK _ _ hy2 ?_
      simp only [Act.put, List.setIfInBounds_toArray, List.set_cons_succ, List.set_cons_zero]
      refine wpAnyE_one (i := 4) (by kernel_rfl) rfl (fun K hK => ?_)
      refine step_append_bd _ (by rfl) (some 36) (by rfl) (.tmp 32) (.tmp 35) bt (by rfl) w.heap.size A2 c2 BA rfl ((HOW2.out.below HBV2.out).below hb2) v2.heap.size T2 _ t2 (Cod.text fi) rfl rfl ho2.rd (by have := HTLfi.out; have := HLBA.out; have := HLBA.out; omega) (by have := HBV2.out.size; have := HE1.out.below.size; omega) ?_
      intro A' c' L' w8 hl8 ho8 hg8 hat8
      have HP := Lib.hid (Nb.put HE1.out.nb.ge HBX2.out HOW2.out (HBV2.out.trans (hb2.mono HBV2.out.size)) hg8 hl8 ho8)
      have hgf8 : w8.heap[gf]? = v2.heap[gf]? := hg8.block gf (by have := (Array.getElem?_eq_some_iff.1 HFV2.out).1; omega) (fun e => (Sto.ownTag HOW2.out e.symm).ne ⟨_, _, HF1.out⟩ (by decide) rfl)
      have hS8 : w8.cell? ⟨gb, 0, none⟩ = some (.slice A2 BA.length c2) ∧ w8.cell? ⟨gf, 2, none⟩ = some (.slice FA fi.length fc) := ⟨box_cell HP.out.2.2, by rw [cell_of_row _ _ _ _ _ (0, 0) (hgf8.trans ((hb2.block _ (Array.getElem?_eq_some_iff.1 HFV2.out).1).trans HFV2.out))]; rfl⟩
      have h8c := hS8.1
      have f8 : w8.frozen? ⟨gb, 0, none⟩ = false := box_frozen HP.out.2.2
      refine hK _ _ hS8 ?_
      clear hg8 hl8 ho8 hat8 hb2 ho2 hgf8 hS8
      simp only [Act.put, List.setIfInBounds_toArray, List.set_cons_succ, List.set_cons_zero]
      refine wpAnyE_last (by kernel_rfl) (by kernel_rfl) rfl (fun K hK => ?_)
      go_simp
      refine hK _ _ ?_
      obtain ⟨wB, hW⟩ : ∃ W, W = w8.setCell ⟨gb, 0, none⟩ (.slice A' L'.length c') := ⟨_, rfl⟩
      rw [← hW] at HP
      have HE2 : Hid (Eb w ⟨some ⟨q, off, none⟩, c, add, DA, dc, drop, log, next⟩ gb (BA ++ Cod.text fi) wB) := Lib.hid (HE1.out.aft HP.out.1 HP.out.2.1)
      have HF2 : Hid (wB.heap[gf]? = some (.cells #[.int .i64 nu, .int .i64 lv, .slice FA fi.length fc, .slice LA la.length lc, .int .i64 lo, .int .i64 hi] 66)) := Lib.hid (aft_file HP.out.2.1 HF1.out)
      obtain ⟨B, hB⟩ : ∃ Y, Y = BA ++ Cod.text fi := ⟨_, rfl⟩
      rw [← hB] at HE2
      have HLB : Hid (B.length ≤ BA.length + (10 + fi.length)) := Lib.hid (by have := HTLfi.out; rw [hB, List.length_append]; omega)
      have HQB := Lib.hid hB
      rw [← hW]
      clear hW hB HP h8c f8 HSV2 HXV2 HFV2 HBX2 HOW2 HBV2 hy2 hz2 KT2 HF1
      go_wp2_with fail
      obtain ⟨A3, c3, hbx3, how3⟩ := HE2.out.nb.at_
      obtain ⟨V3, hV3⟩ : ∃ V, wB.drew = V := ⟨_, rfl⟩
      have HBV3 : Hid (Below wB.heap.size wB V3) := Lib.hid (by rw [← hV3]; exact (Below.refl _ _).drew)
      have HBX3 := Lib.hid hbx3
      have HOW3 := Lib.hid how3
      have HXV3 : Hid (V3.heap[gb]? = some (.cells #[.slice A3 B.length c3] 34)) := Lib.hid ((HBV3.out.block _ (Array.getElem?_eq_some_iff.1 hbx3).1).trans hbx3)
      have HFV3 : Hid (V3.heap[gf]? = some (.cells #[.int .i64 nu, .int .i64 lv, .slice FA fi.length fc, .slice LA la.length lc, .int .i64 lo, .int .i64 hi] 66)) := Lib.hid ((HBV3.out.block _ (Array.getElem?_eq_some_iff.1 HF2.out).1).trans HF2.out)
      have HSV3 : V3.cell? ⟨gb, 0, none⟩ = some (.slice A3 B.length c3) ∧ V3.cell? ⟨gf, 3, none⟩ = some (.slice LA la.length lc) := ⟨box_cell HXV3.out, by rw [cell_of_row _ _ _ _ _ (0, 0) HFV3.out]; rfl⟩
      have KT3 := Lib.hid (text_any LA lc la V3 ((HLA.out.below (HE2.out.below.trans (HBV3.out.mono HE2.out.below.size)) (Nat.le_refl _)).more (Nat.le_trans HE2.out.below.size HBV3.out.size)) (by omega))
      clear hbx3 how3
      refine wp_region_E 5 (fun w' => w'.cell? ⟨gb, 0, none⟩ = some (.slice A3 B.length c3) ∧ w'.cell? ⟨gf, 3, none⟩ = some (.slice LA la.length lc)) (by kernel_rfl) ?_
      rw [hV3]
      clear hV3
      refine wpAnyE_take (i := 0) (v := ?_) rfl (by kernel_rfl) (by kernel_rfl) (by kernel_rfl) (by kernel_rfl) (fun _ _ _ h => h) (Or.inl ⟨by rfl, ?_⟩) HSV3 ?_
      rotate_left
      · (intro wy hSw; obtain ⟨hs1, hs2⟩ := hSw; go_simp; try with_reducible rfl)
      try simp only [Act.put, List.setIfInBounds_toArray]
      refine wpAnyE_take (i := 1) (v := ?_) rfl (by kernel_rfl) (by kernel_rfl) (by kernel_rfl) (by kernel_rfl) (fun _ _ _ h => h) (Or.inl ⟨by rfl, ?_⟩) HSV3 ?_
      rotate_left
      · (intro wy hSw; obtain ⟨hs1, hs2⟩ := hSw; go_simp; try with_reducible rfl)
      try simp only [Act.put]
      refine wpAnyE_take (i := 2) (v := ?_) rfl (by kernel_rfl) (by kernel_rfl) (by kernel_rfl) (by kernel_rfl) (fun _ _ _ h => h) (Or.inl ⟨by rfl, ?_⟩) HSV3 ?_
      rotate_left
      · (intro wy hSw; obtain ⟨hs1, hs2⟩ := hSw; go_simp; try with_reducible rfl)
      simp only [Act.put, List.getElem_toArray, List.getElem_cons_succ, List.getElem_cons_zero, List.setIfInBounds_toArray, List.set_cons_succ, List.set_cons_zero]
      refine wpAnyE_one (i := 3) (by kernel_rfl) rfl (fun K hK => ?_)
      refine step_call1_dv (by rfl) (some 40) (by rfl) (.tmp 39) (by rfl) (.slice LA la.length lc) rfl (enters_of Tryz.func114 (by kernel_rfl) rfl) _ KT3.out ?_
      rintro e v3 ⟨T3, t3, rfl, ho3, hb3⟩
      refine ⟨_, rfl, ?_⟩
      have hz3 := hb3.size
      have hy3 : v3.cell? ⟨gb, 0, none⟩ = some (.slice A3 B.length c3) ∧ v3.cell? ⟨gf, 3, none⟩ = some (.slice LA la.length lc) := ⟨(hb3.cell (p := ⟨gb, 0, none⟩) (Array.getElem?_eq_some_iff.1 HXV3.out).1).trans HSV3.1, (hb3.cell (p := ⟨gf, 3, none⟩) (Array.getElem?_eq_some_iff.1 HFV3.out).1).trans HSV3.2⟩
      refine hK _ _ hy3 ?_
      simp only [Act.put, List.setIfInBounds_toArray, List.set_cons_succ, List.set_cons_zero]
      refine wpAnyE_one (i := 4) (by kernel_rfl) rfl (fun K hK => ?_)
      refine step_append_bd _ (by rfl) (some 41) (by rfl) (.tmp 37) (.tmp 40) bt (by rfl) w.heap.size A3 c3 B rfl ((HOW3.out.below HBV3.out).below hb3) v3.heap.size T3 _ t3 (Cod.text la) rfl rfl ho3.rd (by have := HTLla.out; have := HLB.out; have := HLBA.out; omega) (by have := HBV3.out.size; have := HE2.out.below.size; omega) ?_
      intro A' c' L' w8 hl8 ho8 hg8 hat8
      have HP := Lib.hid (Nb.put HE2.out.nb.ge HBX3.out HOW3.out (HBV3.out.trans (hb3.mono HBV3.out.size)) hg8 hl8 ho8)
      have hgf8 : w8.heap[gf]? = v3.heap[gf]? := hg8.block gf (by have := (Array.getElem?_eq_some_iff.1 HFV3.out).1; omega) (fun e => (Sto.ownTag HOW3.out e.symm).ne ⟨_, _, HF2.out⟩ (by decide) rfl)
      have hS8 : w8.cell? ⟨gb, 0, none⟩ = some (.slice A3 B.length c3) ∧ w8.cell? ⟨gf, 3, none⟩ = some (.slice LA la.length lc) := ⟨box_cell HP.out.2.2, by rw [cell_of_row _ _ _ _ _ (0, 0) (hgf8.trans ((hb3.block _ (Array.getElem?_eq_some_iff.1 HFV3.out).1).trans HFV3.out))]; rfl⟩
      have h8c := hS8.1
      have f8 : w8.frozen? ⟨gb, 0, none⟩ = false := box_frozen HP.out.2.2
      refine hK _ _ hS8 ?_
      clear hg8 hl8 ho8 hat8 hb3 ho3 hgf8 hS8
      simp only [Act.put, List.setIfInBounds_toArray, List.set_cons_succ, List.set_cons_zero]
      refine wpAnyE_last (by kernel_rfl) (by kernel_rfl) rfl (fun K hK => ?_)
      go_simp
      refine hK _ _ ?_
      obtain ⟨wC, hW⟩ : ∃ W, W = w8.setCell ⟨gb, 0, none⟩ (.slice A' L'.length c') := ⟨_, rfl⟩
      rw [← hW] at HP
      have HE3 : Hid (Eb w ⟨some ⟨q, off, none⟩, c, add, DA, dc, drop, log, next⟩ gb (B ++ Cod.text la) wC) := Lib.hid (HE2.out.aft HP.out.1 HP.out.2.1)
      have HF3 : Hid (wC.heap[gf]? = some (.cells #[.int .i64 nu, .int .i64 lv, .slice FA fi.length fc, .slice LA la.length lc, .int .i64 lo, .int .i64 hi] 66)) := Lib.hid (aft_file HP.out.2.1 HF2.out)
      obtain ⟨C, hC⟩ : ∃ Y, Y = B ++ Cod.text la := ⟨_, rfl⟩
      rw [← hC] at HE3
      have HLC : Hid (C.length ≤ B.length + (10 + la.length)) := Lib.hid (by have := HTLla.out; rw [hC, List.length_append]; omega)
      have HQC := Lib.hid hC
      rw [← hW]
      clear hW hC HP h8c f8 HSV3 HXV3 HFV3 HBX3 HOW3 HBV3 hy3 hz3 KT3 HF2
      have K4 := Lib.hid (HE3.out.lit (N := wC.heap.size) rfl [lo, hi] rfl (by simp) (by have := HLC.out; have := HLB.out; have := HLBA.out; omega) (by simp; omega))
      have e4 := cell_of_row _ gf 4 _ _ (0, 0) HF3.out
      have e5 := cell_of_row _ gf 5 _ _ (0, 0) HF3.out
      simp only [List.getElem?_toArray, List.getElem?_cons_zero, List.getElem?_cons_succ] at e4 e5
      go_wp2_with fail
      refine K4.out.mono ?_
      rintro r wD ⟨rfl, hE4, -⟩
      have HEN : Hid (Eb w ⟨some ⟨q, off, none⟩, c, add, DA, dc, drop, log, next⟩ gb (numI add.length ++ ((add.take (k + 1)).map Vf.fi).flatMap encF) wD) := Lib.hid (by
        rw [HQC.out, HQB.out, HQA.out, HQ0.out] at hE4
        rw [HTK.out, List.map_append, List.flatMap_append]
        simp only [List.map_cons, List.map_nil, List.flatMap_cons, List.flatMap_nil, List.append_nil, encF, Vf.fi, List.append_assoc] at hE4 ⊢
        exact hE4)
      have HZN : Hid ((numI add.length ++ ((add.take (k + 1)).map Vf.fi).flatMap encF).length ≤ 10 + 2000 * (k + 1)) := Lib.hid (by
        have q1 := HLBA.out
        have q2 := HLB.out
        have q3 := HLC.out
        have q4 := HNLn.out
        rw [HTK.out, List.map_append, List.flatMap_append, ← List.append_assoc, ← HQ0.out, List.length_append]
        have q5 : (List.flatMap encF (List.map Vf.fi [⟨nu, lv, FA, fc, fi, LA, lc, la, lo, hi⟩])).length ≤ 1200 := by
          have := HTLfi.out
          have := HTLla.out
          simp only [List.map_cons, List.map_nil, List.flatMap_cons, List.flatMap_nil, List.append_nil, encF, Vf.fi, List.length_append]
          omega
        omega)
      clear hE4 K4 e4 e5 HF3 HE3
      go_wp2_with fail
      exact ⟨⟨k + 1, hlt, by simp, HEN, HZN⟩, by simp only [intOf]; omega⟩
    · have hke : k = add.length := by omega
      subst hke
      obtain ⟨B', hB'⟩ : ∃ B', B' = numI add.length ++ (add.map Vf.fi).flatMap encF := ⟨_, rfl⟩
      have HEX : Hid (Eb w ⟨A, c, add, DA, dc, drop, log, next⟩ gb B' wr) := Lib.hid (by have := HE.out; rw [List.take_length, ← hB'] at this; exact this)
      have HBL : Hid (B'.length ≤ 200000) := Lib.hid (by have := HZ.out; rw [List.take_length, ← hB'] at this; omega)
      have HBP := Lib.hid hB'
      have K1 := Lib.hid (HEX.out.lit (N := wr.heap.size) rfl [(drop.length : Int)] rfl (by simp) (by have := HBL.out; omega) (by simp; omega))
      obtain ⟨d0, d1, d2, d3⟩ := HEX.out.c
      simp only at d0 d1 d2 d3
      clear hB' HE HZ
      go_wp2_with fail
      refine K1.out.mono ?_
      rintro r w3 ⟨rfl, hE3, -⟩
      obtain ⟨B3, hB3⟩ : ∃ B, B = B' ++ List.flatMap numI [(drop.length : Int)] := ⟨_, rfl⟩
      rw [← hB3] at hE3
      have HL3 : Hid (B3.length ≤ 200010) := Lib.hid (by
        have h1 := HBL.out
        have h2 : (numI drop.length).length ≤ 10 := by rcases HLN.out (drop.length : Int) with h | h <;> omega
        rw [hB3]; simp; omega)
      have HQ3 := Lib.hid hB3
      have HE3 := Lib.hid hE3
      have K2 := Lib.hid (hE3.num DA dc drop (fun W' ha => (HO.out.drop.below (hE3.below.trans (ha.below hE3.below.size)) (Nat.le_refl _)).more (Nat.le_trans hE3.below.size ha.size)) (by omega) (by have := HL3.out; omega) (fun n hn => by
        have h1 : 1 ≤ n ∧ n ≤ 999999 := of_decide_eq_true (HG8.out n hn)
        omega))
      obtain ⟨d0, d1, d2, d3⟩ := hE3.c
      simp only at d0 d1 d2 d3
      clear hE3 hB3 K1 HEX
      go_wp2_with fail
      refine K2.out.mono ?_
      rintro r w4 ⟨rfl, hE4, -⟩
      obtain ⟨B4, hB4⟩ : ∃ B, B = B3 ++ List.flatMap numI drop := ⟨_, rfl⟩
      rw [← hB4] at hE4
      have HL4 : Hid (B4.length ≤ 1000000) := Lib.hid (by
        have h1 := HL3.out
        have h2 := flat_len drop (fun n hn => by
          have h1 : 1 ≤ n ∧ n ≤ 999999 := of_decide_eq_true (HG8.out n hn)
          rcases HLN.out n with h | h <;> omega)
        rw [hB4, List.length_append]; omega)
      have HQ4 := Lib.hid hB4
      have HE4 := Lib.hid hE4
      have K3 := Lib.hid (hE4.lit (N := w4.heap.size) rfl [log, next] rfl (by simp) (by have := HL4.out; omega) (by simp; omega))
      obtain ⟨d0, d1, d2, d3⟩ := hE4.c
      simp only at d0 d1 d2 d3
      clear hE4 hB4 K2 HE3
      go_wp2_with fail
      refine K3.out.mono ?_
      rintro r w5 ⟨rfl, hE5, -⟩
      have HE5 := Lib.hid hE5
      obtain ⟨A5, c5, hx5, ho5⟩ := hE5.nb.at_
      have HO5 := Lib.hid ho5
      have hc5 := box_cell hx5
      obtain ⟨N5, hN5⟩ : ∃ N, N = (B4 ++ List.flatMap numI [log, next]).length := ⟨_, rfl⟩
      rw [← hN5] at hc5
      have HN5 := Lib.hid hN5
      clear hE5 ho5 hx5 hN5 K3 HE4
      go_wp2_with fail
      refine bodyPost_ret (results_tmp2 rfl _ _ _) rfl ?_
      have hfin : enc (Ev.ed ⟨A, c, add, DA, dc, drop, log, next⟩) = B4 ++ List.flatMap numI [log, next] := by
        rw [HQ4.out, HQ3.out, HBP.out]
        unfold enc Ev.ed
        simp only [List.length_map, List.flatMap_cons, List.flatMap_nil, List.append_nil, List.append_assoc]
      refine ⟨HE5.out.below, .inr ⟨HOK.out.symm, A5, c5, ?_, ?_⟩⟩
      · rw [hfin, HN5.out]; rfl
      · rw [hfin]; exact HO5.out
end Ver
end Go.Proofs.YtekbdedpombgcaaGreatDoor

namespace Go.Proofs.YtekbdedpombgcaaGreatDoor
open Go.RowKit Go.Maps

namespace Ver
/-- While an edit's bytes are made by the reference. -/
structure Er (w0 : World) (e : Ev) (A : Option Addr) (c : Nat) (b : List UInt8) (W : World) : Prop where
  box : W.heap[w0.heap.size]? = some e.obj
  own : Own W w0.heap.size 5 A c b
  below : Below w0.heap.size w0 W
section
variable {w0 W W' : World} {e : Ev} {A A' : Option Addr} {c c' : Nat} {b b' : List UInt8}
theorem Er.lt (h : Er w0 e A c b W) : w0.heap.size < W.heap.size := (Array.getElem?_eq_some_iff.1 h.box).1
theorem Er.low (h : Er w0 e A c b W) (hb : Below W.heap.size W W') : Er w0 e A c b W' := ⟨(hb.block _ h.lt).trans h.box, h.own.below hb, h.below.trans (hb.mono (Nat.le_of_lt h.lt))⟩
theorem Er.alloc (h : Er w0 e A c b W) (o : Obj) : Er w0 e A c b (W.alloc o) := h.low ((Below.refl _ _).alloc (Nat.le_refl _) o)
theorem Er.grown (h : Er w0 e A c b W) (hg : W.grownBy W' (blk A)) (ho : Own W' w0.heap.size 5 A' c' b') : Er w0 e A' c' b' W' :=
  ⟨(hg.block _ h.lt (fun e2 => (Sto.ownTag h.own e2.symm).ne ⟨_, _, h.box⟩ (by decide) rfl)).trans h.box, ho, below_grow h.below hg (fun g e => (h.own.blk_ge g e).1) (Nat.le_of_lt h.lt)⟩
theorem Er.cs (h : Er w0 e A c b W) : W.cell? ⟨w0.heap.size, 0, none⟩ = some (.slice e.A e.add.length e.c) ∧ W.cell? ⟨w0.heap.size, 1, none⟩ = some (.slice e.DA e.drop.length e.dc) ∧ W.cell? ⟨w0.heap.size, 2, none⟩ = some (.int .i64 e.log) ∧ W.cell? ⟨w0.heap.size, 3, none⟩ = some (.int .i64 e.next) := by
  have h1 := h.box
  refine ⟨?_, ?_, ?_, ?_⟩ <;> (rw [cell_of_row _ _ _ _ _ (0, 0) h1]; rfl)
end
end Ver
end Go.Proofs.YtekbdedpombgcaaGreatDoor

namespace Go.Proofs.YtekbdedpombgcaaGreatDoor
open Go.RowKit Go.Maps

namespace Ver
/-- Bytes that lie ahead of base, or in a row of bytes. -/
structure Bk (w : World) (base : Nat) (A : Option Addr) (b : List UInt8) : Prop where
  rd : RdB w w.heap.size A b
  at_ : b ≠ [] → ∀ g, blk A = some g → g < base ∨ Sto.Tag w g 5
def turnsN : List TypeId := [34, 4]
/-- What is done while numbers and texts are taken. -/
def AftN (w w' : World) (base : Nat) : Prop := Ref.Aft turnsN w w' base (fun _ => False) (fun _ => False)
section
variable {w w' w1 : World} {base gb ga c d most n : Nat} {A B : Option Addr} {b r t : List UInt8} {s : Option (List UInt8)} {ts : List TypeId} {R R' : Nat → Prop}
theorem Bk.keep (h : Bk w base A b) (hs : w.heap.size ≤ w'.heap.size) (hk : b ≠ [] → ∀ k, blk A = some k → w'.heap[k]? = w.heap[k]?) : Bk w' base A b := by
  by_cases hb : b = []
  · subst hb
    exact ⟨RdB.nil, fun hn => absurd rfl hn⟩
  · exact ⟨rdB_keepS h.rd hs (fun k e _ => hk hb k e), fun _ g e => (h.at_ hb g e).imp id (fun t => t.keep (hk hb g e))⟩
theorem Bk.lt (h : Bk w base A b) (hn : b ≠ []) (hb : base ≤ w.heap.size) {g : Nat} (e : blk A = some g) : g < w.heap.size := (h.at_ hn g e).elim (fun h => by omega) (fun t => t.lt)
theorem Bk.aft (h : Bk w base A b) (hb : base ≤ w.heap.size) (ha : Ref.Aft ts w w' base R R') (hu : 5 ∉ ts) : Bk w' base A b :=
  h.keep ha.size (fun hn k e => ha.block k (h.lt hn hb e) ((h.at_ hn k e).imp id (fun t _ hT t2 => t.ne t2 (fun e2 => hu (e2 ▸ hT)) rfl)))
theorem Bk.below (h : Bk w base A b) (hb : base ≤ w.heap.size) (hw : Below w.heap.size w w') : Bk w' base A b := h.keep hw.size (fun hn k e => hw.block k (h.lt hn hb e))
/-- What Decode's closures share. -/
structure Cu (w : World) (base gb ga : Nat) (s : Option (List UInt8)) : Prop where
  bs : base ≤ w.heap.size
  gbb : base ≤ gb
  gab : base ≤ ga
  bx : ∃ A c b am, w.heap[gb]? = some (.cells #[.slice A b.length c] 34) ∧ w.heap[ga]? = some (.cells #[.bool am] 4) ∧ Bk w base A b ∧ b.length ≤ c ∧ c ≤ 9223372036854775807 ∧ b.length ≤ 140737488355328 ∧ s = (if am = true then none else some b)
theorem AftN.trans (h1 : AftN w w1 base) (h2 : AftN w1 w' base) : AftN w w' base := Ref.Aft.trans h1 h2
theorem AftN.refl (w : World) (base : Nat) : AftN w w base := Ref.Aft.refl w base _
theorem AftN.of_below (hb : Below w.heap.size w w') : AftN w w' base := Ref.Aft.of_below hb _
theorem AftN.set (h : AftN w w' base) {g : Nat} {v : Value} {T : TypeId} (ht : Sto.Tag w' g T) (hg : base ≤ g) (hT : T ∈ turnsN) : AftN w (w'.setCell ⟨g, 0, none⟩ v) base :=
  AftN.trans h ⟨rfl, rfl, rfl, by simp, fun k hk hn => box_set_other (fun e => by
    subst e
    rcases hn with hn | hn
    · omega
    · exact hn T hT ht) _, fun _ _ h => h⟩
theorem Cu.no {A : Option Addr} (hbs : base ≤ w.heap.size) (hgb : base ≤ gb) (hga : base ≤ ga) {am : Bool} (hx : w.heap[gb]? = some (.cells #[.slice A b.length c] 34)) (hy : w.heap[ga]? = some (.cells #[.bool am] 4)) (hk : Bk w base A b) (h1 : b.length ≤ c) (h2 : c ≤ 9223372036854775807) (h3 : b.length ≤ 140737488355328)
    (hb : Below w.heap.size w w1) : Cu (w1.setCell ⟨ga, 0, none⟩ (.bool true)) base gb ga none ∧ AftN w (w1.setCell ⟨ga, 0, none⟩ (.bool true)) base := by
  have x1 := (hb.block _ (Array.getElem?_eq_some_iff.1 hx).1).trans hx
  have y1 := (hb.block _ (Array.getElem?_eq_some_iff.1 hy).1).trans hy
  have hne : gb ≠ ga := Sto.Tag.ne ⟨_, _, x1⟩ ⟨_, _, y1⟩ (by decide)
  have hk1 := hk.below hbs hb
  refine ⟨⟨by have := hb.size; simp; omega, hgb, hga, A, c, b, true, (box_set_other hne _).trans x1, box_set y1 _, hk1.keep (by simp) (fun hn k e => box_set_other (fun e2 => ?_) _), h1, h2, h3, rfl⟩, (AftN.of_below hb).set ⟨_, _, y1⟩ hga (by simp [turnsN])⟩
  subst e2
  rcases hk1.at_ hn k e with h | t
  · omega
  · exact t.ne ⟨_, _, y1⟩ (by decide) rfl
end
end Ver
end Go.Proofs.YtekbdedpombgcaaGreatDoor

namespace Go.Proofs.YtekbdedpombgcaaGreatDoor
namespace Ver
abbrev Os := Option (List UInt8)
section
variable {a c m M k n : Nat} {b r : List UInt8} {s : Os}
end
end Ver
end Go.Proofs.YtekbdedpombgcaaGreatDoor

namespace Go.Proofs.YtekbdedpombgcaaGreatDoor
open Go.RowKit Go.Maps

--MAIN
namespace Ver
def zeroEd : Array Value := #[.slice none 0 0, .slice none 0 0, .int .i64 0, .int .i64 0]
/-- While an edit's bytes are read. -/
structure De (w0 : World) (s : Os) (OA : Option Addr) (oc : Nat) (L : List Vf) (DA : Option Addr) (dc : Nat) (D : List Int) (g x : Int) (W : World) : Prop where
  cu : Cu W w0.heap.size w0.heap.size (w0.heap.size + 2) s
  rb : W.heap[w0.heap.size + 1]? = some (.cells zeroEd 186)
  ob : W.heap[w0.heap.size + 3]? = some (.cells #[.slice OA L.length oc, .slice DA D.length dc, .int .i64 g, .int .i64 x] 186)
  ow : OwV W w0.heap.size OA oc L
  dw : OwnS Sto.I1 1 W w0.heap.size 3 DA dc D
  below : Below w0.heap.size w0 W
section
variable {w0 W W' : World} {s s' : Os} {OA DA : Option Addr} {oc dc : Nat} {L : List Vf} {D : List Int} {g x : Int} {base gb ga : Nat}
theorem Cu.low (h : Cu W base gb ga s) (hb : Below W.heap.size W W') : Cu W' base gb ga s := by
  obtain ⟨hbs, hgb, hga, A, c, b, am, hx, hy, hk, h1, h2, h3, hs⟩ := h
  exact ⟨Nat.le_trans hbs hb.size, hgb, hga, A, c, b, am, (hb.block _ (Array.getElem?_eq_some_iff.1 hx).1).trans hx, (hb.block _ (Array.getElem?_eq_some_iff.1 hy).1).trans hy, hk.below hbs hb, h1, h2, h3, hs⟩
/-- .. what it leans on stands. -/
theorem Cu.kept (h : Cu W base gb ga s) (hs : W.heap.size ≤ W'.heap.size) (hk : ∀ q, q < W.heap.size → (q < base ∨ Sto.Tag W q 5 ∨ Sto.Tag W q 34 ∨ Sto.Tag W q 4) → W'.heap[q]? = W.heap[q]?) : Cu W' base gb ga s := by
  obtain ⟨hbs, hgb, hga, A, c, b, am, hx, hy, hkk, h1, h2, h3, hs'⟩ := h
  exact ⟨Nat.le_trans hbs hs, hgb, hga, A, c, b, am, (hk _ (Array.getElem?_eq_some_iff.1 hx).1 (.inr (.inr (.inl ⟨_, _, hx⟩)))).trans hx, (hk _ (Array.getElem?_eq_some_iff.1 hy).1 (.inr (.inr (.inr ⟨_, _, hy⟩)))).trans hy,
    hkk.keep hs (fun hn k e => hk k (hkk.lt hn hbs e) ((hkk.at_ hn k e).imp id .inl)), h1, h2, h3, hs'⟩
theorem De.bs (h : De w0 s OA oc L DA dc D g x W) : w0.heap.size + 3 < W.heap.size := (Array.getElem?_eq_some_iff.1 h.ob).1
theorem De.aft (h : De w0 s OA oc L DA dc D g x W) (hc : Cu W' w0.heap.size w0.heap.size (w0.heap.size + 2) s') (ha : AftN W W' w0.heap.size) : De w0 s' OA oc L DA dc D g x W' := by
  have hb := h.bs
  refine ⟨hc, (Ref.Aft.tag ha ⟨_, _, h.rb⟩ (by decide)).trans h.rb, (Ref.Aft.tag ha ⟨_, _, h.ob⟩ (by decide)).trans h.ob, h.ow.keep ha.size (fun q e => ?_), h.dw.keep (fun q e => Ref.Aft.tag ha (Sto.ownTagS h.dw e) (by decide)), h.below.trans ⟨ha.os, ha.tape, ha.output, ha.size, fun k hk => ha.block k (by omega) (.inl hk)⟩⟩
  rcases e with e | ⟨v, hv, e⟩
  · exact Ref.Aft.tag ha (Sto.ownTagS h.ow.row e) (by decide)
  · exact Ref.Aft.tag ha ((h.ow.own v hv).at_ e).2 (by decide)
theorem De.low (h : De w0 s OA oc L DA dc D g x W) (hb : Below W.heap.size W W') : De w0 s OA oc L DA dc D g x W' := h.aft (h.cu.low hb) (AftN.of_below hb)
theorem De.alloc (h : De w0 s OA oc L DA dc D g x W) (o : Obj) : De w0 s OA oc L DA dc D g x (W.alloc o) := h.low ((Below.refl _ _).alloc (Nat.le_refl _) o)
theorem De.o (h : De w0 s OA oc L DA dc D g x W) : W.cell? ⟨w0.heap.size + 3, 0, none⟩ = some (.slice OA L.length oc) ∧ W.cell? ⟨w0.heap.size + 3, 1, none⟩ = some (.slice DA D.length dc) ∧ W.cell? ⟨w0.heap.size + 3, 2, none⟩ = some (.int .i64 g) ∧ W.cell? ⟨w0.heap.size + 3, 3, none⟩ = some (.int .i64 x) := by
  have h1 := h.ob
  refine ⟨?_, ?_, ?_, ?_⟩ <;> (rw [cell_of_row _ _ _ _ _ (0, 0) h1]; rfl)
theorem De.f (h : De w0 s OA oc L DA dc D g x W) (j : Nat) : W.frozen? ⟨w0.heap.size + 3, j, none⟩ = false := frozen_of_row _ _ _ _ _ h.ob
theorem De.fin (h : De w0 s OA oc L DA dc D g x W) (g' x' : Int) : De w0 s OA oc L DA dc D g' x' ((W.setCell ⟨w0.heap.size + 3, 2, none⟩ (.int .i64 g')).setCell ⟨w0.heap.size + 3, 3, none⟩ (.int .i64 x')) := by
  have hb := h.bs
  have ht : Sto.Tag W (w0.heap.size + 3) 186 := ⟨_, _, h.ob⟩
  have hoth : ∀ q, q ≠ w0.heap.size + 3 → ((W.setCell ⟨w0.heap.size + 3, 2, none⟩ (.int .i64 g')).setCell ⟨w0.heap.size + 3, 3, none⟩ (.int .i64 x')).heap[q]? = W.heap[q]? := fun q hq => (heap_setCell_other _ ⟨w0.heap.size + 3, 3, none⟩ q _ hq).trans (heap_setCell_other W ⟨w0.heap.size + 3, 2, none⟩ q _ hq)
  refine ⟨h.cu.kept (by simp) (fun q hq hc => hoth q ?_), (hoth _ (by omega)).trans h.rb, ?_, h.ow.keep (by simp) (fun q e => hoth q ?_), h.dw.keep (fun q e => hoth q ((Sto.ownTagS h.dw e).ne ht (by decide))), (h.below.setCell (by simp) _).setCell (by simp) _⟩
  · rcases hc with hc | hc | hc | hc
    · omega
    · exact hc.ne ht (by decide)
    · exact hc.ne ht (by decide)
    · exact hc.ne ht (by decide)
  · have h1 := heap_setCell_same W (w0.heap.size + 3) 2 _ _ (.int .i64 g') h.ob
    have h2 := heap_setCell_same _ (w0.heap.size + 3) 3 _ _ (.int .i64 x') h1
    simpa using h2
  · rcases e with e | ⟨v', hv', e⟩
    · exact (Sto.ownTagS h.ow.row e).ne ht (by decide)
    · exact ((h.ow.own v' hv').at_ e).2.ne ht (by decide)
/-- One more file. -/
theorem De.app {v : Vf} {A' : Option Addr} {c' : Nat} {L' : List Vf} (h : De w0 s OA oc L DA dc D g x W) (hv : VfOwn W w0.heap.size v) (hg : W.grownBy W' (blk OA)) (hL : L' = L ++ [v]) (ho : OwnS Vf.cells 6 W' w0.heap.size 66 A' c' L') :
    De w0 s A' c' (L ++ [v]) DA dc D g x (W'.setCell ⟨w0.heap.size + 3, 0, none⟩ (.slice A' L'.length c')) ∧ W'.heap[w0.heap.size + 3]? = W.heap[w0.heap.size + 3]? := by
  subst hL
  have hb := h.bs
  have key : ∀ q T, Sto.Tag W q T → T ≠ 66 → W'.heap[q]? = W.heap[q]? := fun q T t hn => hg.block q t.lt (fun e => (Sto.ownTagS h.ow.row e.symm).ne t (fun e => hn e.symm) rfl)
  have hlow : ∀ q, q < w0.heap.size → W'.heap[q]? = W.heap[q]? := fun q hq => hg.block q (by omega) (fun e => by have := (h.ow.row.blk_ge q e.symm).1; omega)
  have e3 := key _ _ ⟨_, _, h.ob⟩ (by decide)
  have e4 := e3.trans h.ob
  have hOw := h.ow.app hg ho (fun v' hv' => by rw [List.mem_singleton] at hv'; subst hv'; exact hv)
  have hoth : ∀ q, q ≠ w0.heap.size + 3 → (W'.setCell ⟨w0.heap.size + 3, 0, none⟩ (.slice A' (L ++ [v]).length c')).heap[q]? = W'.heap[q]? := fun q hq => box_set_other hq _
  have ht4 : Sto.Tag W' (w0.heap.size + 3) 186 := ⟨_, _, e4⟩
  refine ⟨⟨h.cu.kept (by have := hg.size; simp; omega) (fun q hq hc => ?_), ?_, ?_, hOw.keep (by simp) (fun q e => ?_), ?_, ?_⟩, e3⟩
  · rcases hc with hc | hc | hc | hc
    · exact (hoth q (by omega)).trans (hlow q hc)
    · exact (hoth q (hc.ne ⟨_, _, h.ob⟩ (by decide))).trans (key q _ hc (by decide))
    · exact (hoth q (hc.ne ⟨_, _, h.ob⟩ (by decide))).trans (key q _ hc (by decide))
    · exact (hoth q (hc.ne ⟨_, _, h.ob⟩ (by decide))).trans (key q _ hc (by decide))
  · exact (hoth _ (by omega)).trans ((key _ _ ⟨_, _, h.rb⟩ (by decide)).trans h.rb)
  · have := heap_setCell_same W' (w0.heap.size + 3) 0 _ _ (.slice A' (L ++ [v]).length c') e4
    simpa using this
  · rcases e with e | ⟨v', hv', e⟩
    · exact hoth q ((Sto.ownTagS hOw.row e).ne ht4 (by decide))
    · exact hoth q (((hOw.own v' hv').at_ e).2.ne ht4 (by decide))
  · exact (h.dw.keep (fun q e => key q _ (Sto.ownTagS h.dw e) (by decide))).keep (fun q e => hoth q ((Sto.Tag.keep (Sto.ownTagS h.dw e) (key q _ (Sto.ownTagS h.dw e) (by decide))).ne ht4 (by decide)))
  · exact (below_grow h.below hg (fun g e => (h.ow.row.blk_ge g e).1) (by omega)).setCell (by simp) _
end
end Ver
end Go.Proofs.YtekbdedpombgcaaGreatDoor
