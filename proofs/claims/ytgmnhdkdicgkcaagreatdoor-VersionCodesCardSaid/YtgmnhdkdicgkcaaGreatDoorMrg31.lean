/- Parts of the proof, one behind the other: Contract: the reference's Decode. -/
import Derived.Test.YtgmnhdkdicgkcaaGreatDoorMrg30
import Derived.Deep.CutBlock
namespace Go.Proofs.YtgmnhdkdicgkcaaGreatDoor
open Go.RowKit Go.Maps

namespace Ver
theorem filesP_mono {a c : Nat} {s : Os} : ∀ (d k : Nat), (filesP a c k s).2 = none → (filesP a c (k + d) s).2 = none
  | 0, _, h => h
  | d + 1, k, h => by
    show (filesP a c (k + d + 1) s).2 = none
    rw [filesP, filesP_mono d k h]; rfl
theorem numsP_mono {a : Nat} {s : Os} : ∀ (d k : Nat), (numsP a k s).2 = none → (numsP a (k + d) s).2 = none
  | 0, _, h => h
  | d + 1, k, h => by
    show (numsP a (k + d + 1) s).2 = none
    rw [numsP, numsP_mono d k h]; rfl
/-- While an edit's bytes are read. -/
structure Dr (w0 : World) (s : Os) (OA : Option Addr) (oc : Nat) (L : List Vf) (DA : Option Addr) (dc : Nat) (D : List Int) (g x : Int) (W : World) : Prop where
  cu : Ct W w0.heap.size (w0.heap.size + 1) s
  rb : W.heap[w0.heap.size]? = some (.cells zeroEd 27)
  ob : W.heap[w0.heap.size + 2]? = some (.cells #[.slice OA L.length oc, .slice DA D.length dc, .int .i64 g, .int .i64 x] 27)
  ow : OwV W w0.heap.size OA oc L
  dw : OwnS Sto.I1 1 W w0.heap.size 3 DA dc D
  below : Below w0.heap.size w0 W
section
variable {w0 W W' : World} {s s' : Os} {OA DA : Option Addr} {oc dc : Nat} {L : List Vf} {D : List Int} {g x : Int} {base gc : Nat}
/-- .. what it leans on stands. -/
theorem Ct.kept (h : Ct W base gc s) (hs : W.heap.size ≤ W'.heap.size) (hk : ∀ q, q < W.heap.size → (q < base ∨ Sto.Tag W q 5 ∨ Sto.Tag W q 100) → W'.heap[q]? = W.heap[q]?) : Ct W' base gc s := by
  obtain ⟨hbs, hgc, A, c, b, am, hx, hkk, h1, h2, h3, hs'⟩ := h
  exact ⟨Nat.le_trans hbs hs, hgc, A, c, b, am, (hk _ (Array.getElem?_eq_some_iff.1 hx).1 (.inr (.inr ⟨_, _, hx⟩))).trans hx,
    hkk.keep hs (fun hn k e => hk k (hkk.lt hn hbs e) ((hkk.at_ hn k e).imp id .inl)), h1, h2, h3, hs'⟩
theorem Dr.bs (h : Dr w0 s OA oc L DA dc D g x W) : w0.heap.size + 2 < W.heap.size := (Array.getElem?_eq_some_iff.1 h.ob).1
theorem Dr.aft (h : Dr w0 s OA oc L DA dc D g x W) (hc : Ct W' w0.heap.size (w0.heap.size + 1) s') (ha : AftC W W' w0.heap.size) : Dr w0 s' OA oc L DA dc D g x W' := by
  have hb := h.bs
  refine ⟨hc, (Ref.Aft.tag ha ⟨_, _, h.rb⟩ (by decide)).trans h.rb, (Ref.Aft.tag ha ⟨_, _, h.ob⟩ (by decide)).trans h.ob, h.ow.keep ha.size (fun q e => ?_), h.dw.keep (fun q e => Ref.Aft.tag ha (Sto.ownTagS h.dw e) (by decide)), h.below.trans ⟨ha.os, ha.tape, ha.output, ha.size, fun k hk => ha.block k (by omega) (.inl hk)⟩⟩
  rcases e with e | ⟨v, hv, e⟩
  · exact Ref.Aft.tag ha (Sto.ownTagS h.ow.row e) (by decide)
  · exact Ref.Aft.tag ha ((h.ow.own v hv).at_ e).2 (by decide)
theorem Dr.low (h : Dr w0 s OA oc L DA dc D g x W) (hb : Below W.heap.size W W') : Dr w0 s OA oc L DA dc D g x W' := h.aft (h.cu.low hb) (AftC.of_below hb)
theorem Dr.alloc (h : Dr w0 s OA oc L DA dc D g x W) (o : Obj) : Dr w0 s OA oc L DA dc D g x (W.alloc o) := h.low ((Below.refl _ _).alloc (Nat.le_refl _) o)
theorem Dr.o (h : Dr w0 s OA oc L DA dc D g x W) : W.cell? ⟨w0.heap.size + 2, 0, none⟩ = some (.slice OA L.length oc) ∧ W.cell? ⟨w0.heap.size + 2, 1, none⟩ = some (.slice DA D.length dc) ∧ W.cell? ⟨w0.heap.size + 2, 2, none⟩ = some (.int .i64 g) ∧ W.cell? ⟨w0.heap.size + 2, 3, none⟩ = some (.int .i64 x) := by
  have h1 := h.ob
  refine ⟨?_, ?_, ?_, ?_⟩ <;> (rw [cell_of_row _ _ _ _ _ (0, 0) h1]; rfl)
theorem Dr.f (h : Dr w0 s OA oc L DA dc D g x W) (j : Nat) : W.frozen? ⟨w0.heap.size + 2, j, none⟩ = false := frozen_of_row _ _ _ _ _ h.ob
theorem Dr.fin (h : Dr w0 s OA oc L DA dc D g x W) (g' x' : Int) : Dr w0 s OA oc L DA dc D g' x' ((W.setCell ⟨w0.heap.size + 2, 2, none⟩ (.int .i64 g')).setCell ⟨w0.heap.size + 2, 3, none⟩ (.int .i64 x')) := by
  have hb := h.bs
  have ht : Sto.Tag W (w0.heap.size + 2) 27 := ⟨_, _, h.ob⟩
  have hoth : ∀ q, q ≠ w0.heap.size + 2 → ((W.setCell ⟨w0.heap.size + 2, 2, none⟩ (.int .i64 g')).setCell ⟨w0.heap.size + 2, 3, none⟩ (.int .i64 x')).heap[q]? = W.heap[q]? := fun q hq => (heap_setCell_other _ ⟨w0.heap.size + 2, 3, none⟩ q _ hq).trans (heap_setCell_other W ⟨w0.heap.size + 2, 2, none⟩ q _ hq)
  refine ⟨h.cu.kept (by simp) (fun q hq hc => hoth q ?_), (hoth _ (by omega)).trans h.rb, ?_, h.ow.keep (by simp) (fun q e => hoth q ?_), h.dw.keep (fun q e => hoth q ((Sto.ownTagS h.dw e).ne ht (by decide))), (h.below.setCell (by simp) _).setCell (by simp) _⟩
  · rcases hc with hc | hc | hc
    · omega
    · exact hc.ne ht (by decide)
    · exact hc.ne ht (by decide)
  · have h1 := heap_setCell_same W (w0.heap.size + 2) 2 _ _ (.int .i64 g') h.ob
    have h2 := heap_setCell_same _ (w0.heap.size + 2) 3 _ _ (.int .i64 x') h1
    simpa using h2
  · rcases e with e | ⟨v', hv', e⟩
    · exact (Sto.ownTagS h.ow.row e).ne ht (by decide)
    · exact ((h.ow.own v' hv').at_ e).2.ne ht (by decide)
/-- One more file. -/
theorem Dr.app {v : Vf} {A' : Option Addr} {c' : Nat} {L' : List Vf} (h : Dr w0 s OA oc L DA dc D g x W) (hv : VfOwn W w0.heap.size v) (hg : W.grownBy W' (blk OA)) (hL : L' = L ++ [v]) (ho : OwnS Vf.cells 6 W' w0.heap.size 43 A' c' L') :
    Dr w0 s A' c' (L ++ [v]) DA dc D g x (W'.setCell ⟨w0.heap.size + 2, 0, none⟩ (.slice A' L'.length c')) ∧ W'.heap[w0.heap.size + 2]? = W.heap[w0.heap.size + 2]? := by
  subst hL
  have hb := h.bs
  have key : ∀ q T, Sto.Tag W q T → T ≠ 43 → W'.heap[q]? = W.heap[q]? := fun q T t hn => hg.block q t.lt (fun e => (Sto.ownTagS h.ow.row e.symm).ne t (fun e => hn e.symm) rfl)
  have hlow : ∀ q, q < w0.heap.size → W'.heap[q]? = W.heap[q]? := fun q hq => hg.block q (by omega) (fun e => by have := (h.ow.row.blk_ge q e.symm).1; omega)
  have e3 := key _ _ ⟨_, _, h.ob⟩ (by decide)
  have e4 := e3.trans h.ob
  have hOw := h.ow.app hg ho (fun v' hv' => by rw [List.mem_singleton] at hv'; subst hv'; exact hv)
  have hoth : ∀ q, q ≠ w0.heap.size + 2 → (W'.setCell ⟨w0.heap.size + 2, 0, none⟩ (.slice A' (L ++ [v]).length c')).heap[q]? = W'.heap[q]? := fun q hq => box_set_other hq _
  have ht4 : Sto.Tag W' (w0.heap.size + 2) 27 := ⟨_, _, e4⟩
  refine ⟨⟨h.cu.kept (by have := hg.size; simp; omega) (fun q hq hc => ?_), ?_, ?_, hOw.keep (by simp) (fun q e => ?_), ?_, ?_⟩, e3⟩
  · rcases hc with hc | hc | hc
    · exact (hoth q (by omega)).trans (hlow q hc)
    · exact (hoth q (hc.ne ⟨_, _, h.ob⟩ (by decide))).trans (key q _ hc (by decide))
    · exact (hoth q (hc.ne ⟨_, _, h.ob⟩ (by decide))).trans (key q _ hc (by decide))
  · exact (hoth _ (by omega)).trans ((key _ _ ⟨_, _, h.rb⟩ (by decide)).trans h.rb)
  · have := heap_setCell_same W' (w0.heap.size + 2) 0 _ _ (.slice A' (L ++ [v]).length c') e4
    simpa using this
  · rcases e with e | ⟨v', hv', e⟩
    · exact hoth q ((Sto.ownTagS hOw.row e).ne ht4 (by decide))
    · exact hoth q (((hOw.own v' hv').at_ e).2.ne ht4 (by decide))
  · exact (h.dw.keep (fun q e => key q _ (Sto.ownTagS h.dw e) (by decide))).keep (fun q e => hoth q ((Sto.Tag.keep (Sto.ownTagS h.dw e) (key q _ (Sto.ownTagS h.dw e) (by decide))).ne ht4 (by decide)))
  · exact (below_grow h.below hg (fun g e => (h.ow.row.blk_ge g e).1) (by omega)).setCell (by simp) _
/-- One more number. -/
theorem Dr.appN {n : Int} {A' : Option Addr} {c' : Nat} {D' : List Int} (h : Dr w0 s OA oc L DA dc D g x W) (hg : W.grownBy W' (blk DA)) (hL : D' = D ++ [n]) (ho : OwnS Sto.I1 1 W' w0.heap.size 3 A' c' D') :
    Dr w0 s OA oc L A' c' (D ++ [n]) g x (W'.setCell ⟨w0.heap.size + 2, 1, none⟩ (.slice A' D'.length c')) ∧ W'.heap[w0.heap.size + 2]? = W.heap[w0.heap.size + 2]? := by
  subst hL
  have hb := h.bs
  have key : ∀ q T, Sto.Tag W q T → T ≠ 3 → W'.heap[q]? = W.heap[q]? := fun q T t hn => hg.block q t.lt (fun e => (Sto.ownTagS h.dw e.symm).ne t (fun e => hn e.symm) rfl)
  have hlow : ∀ q, q < w0.heap.size → W'.heap[q]? = W.heap[q]? := fun q hq => hg.block q (by omega) (fun e => by have := (h.dw.blk_ge q e.symm).1; omega)
  have e3 := key _ _ ⟨_, _, h.ob⟩ (by decide)
  have e4 := e3.trans h.ob
  have hoth : ∀ q, q ≠ w0.heap.size + 2 → (W'.setCell ⟨w0.heap.size + 2, 1, none⟩ (.slice A' (D ++ [n]).length c')).heap[q]? = W'.heap[q]? := fun q hq => heap_setCell_other W' ⟨w0.heap.size + 2, 1, none⟩ q _ hq
  have ht4 : Sto.Tag W' (w0.heap.size + 2) 27 := ⟨_, _, e4⟩
  have kk : ∀ q T, Sto.Tag W q T → T ≠ 3 → T ≠ 27 → (W'.setCell ⟨w0.heap.size + 2, 1, none⟩ (.slice A' (D ++ [n]).length c')).heap[q]? = W.heap[q]? := fun q T t h1 h2 => (hoth q (t.ne ⟨_, _, h.ob⟩ h2)).trans (key q T t h1)
  refine ⟨⟨h.cu.kept (by have := hg.size; simp; omega) (fun q hq hc => ?_), ?_, ?_, h.ow.keep (by have := hg.size; simp; omega) (fun q e => ?_), ?_, ?_⟩, e3⟩
  · rcases hc with hc | hc | hc
    · exact (hoth q (by omega)).trans (hlow q hc)
    · exact kk q _ hc (by decide) (by decide)
    · exact kk q _ hc (by decide) (by decide)
  · exact (hoth _ (by omega)).trans ((key _ _ ⟨_, _, h.rb⟩ (by decide)).trans h.rb)
  · have := heap_setCell_same W' (w0.heap.size + 2) 1 _ _ (.slice A' (D ++ [n]).length c') e4
    simpa using this
  · rcases e with e | ⟨v', hv', e⟩
    · exact kk q _ (Sto.ownTagS h.ow.row e) (by decide) (by decide)
    · exact kk q _ ((h.ow.own v' hv').at_ e).2 (by decide) (by decide)
  · exact ho.keep (fun q e => hoth q ((Sto.ownTagS ho e).ne ht4 (by decide)))
  · exact (below_grow h.below hg (fun g e => (h.dw.blk_ge g e).1) (by omega)).setCell (by simp) _
theorem Dr.setf {gf j : Nat} {v : Value} (h : Dr w0 s OA oc L DA dc D g x W) (ht : Sto.Tag W gf 43) (hg : w0.heap.size ≤ gf) (hne : ∀ q, blk OA = some q → q < gf) : Dr w0 s OA oc L DA dc D g x (W.setCell ⟨gf, j, none⟩ v) := by
  have hoth : ∀ q, q ≠ gf → (W.setCell ⟨gf, j, none⟩ v).heap[q]? = W.heap[q]? := fun q hq => heap_setCell_other W ⟨gf, j, none⟩ q _ hq
  refine ⟨h.cu.kept (by simp) (fun q hq hc => hoth q ?_), (hoth _ (Sto.Tag.ne ⟨_, _, h.rb⟩ ht (by decide))).trans h.rb, (hoth _ (Sto.Tag.ne ⟨_, _, h.ob⟩ ht (by decide))).trans h.ob, h.ow.keep (by simp) (fun q e => hoth q ?_), h.dw.keep (fun q e => hoth q ((Sto.ownTagS h.dw e).ne ht (by decide))), h.below.setCell hg _⟩
  · rcases hc with hc | hc | hc
    · omega
    · exact hc.ne ht (by decide)
    · exact hc.ne ht (by decide)
  · rcases e with e | ⟨v', hv', e⟩
    · have := hne q e; omega
    · exact ((h.ow.own v' hv').at_ e).2.ne ht (by decide)
theorem Dr.set2 (h : Dr w0 s OA oc L DA dc D g x W) (g' : Int) : Dr w0 s OA oc L DA dc D g' x (W.setCell ⟨w0.heap.size + 2, 2, none⟩ (.int .i64 g')) := by
  have hb := h.bs
  have ht : Sto.Tag W (w0.heap.size + 2) 27 := ⟨_, _, h.ob⟩
  have hoth : ∀ q, q ≠ w0.heap.size + 2 → (W.setCell ⟨w0.heap.size + 2, 2, none⟩ (.int .i64 g')).heap[q]? = W.heap[q]? := fun q hq => heap_setCell_other W ⟨w0.heap.size + 2, 2, none⟩ q _ hq
  refine ⟨h.cu.kept (by simp) (fun q hq hc => hoth q ?_), (hoth _ (by omega)).trans h.rb, ?_, h.ow.keep (by simp) (fun q e => hoth q ?_), h.dw.keep (fun q e => hoth q ((Sto.ownTagS h.dw e).ne ht (by decide))), h.below.setCell (by simp) _⟩
  · rcases hc with hc | hc | hc
    · omega
    · exact hc.ne ht (by decide)
    · exact hc.ne ht (by decide)
  · have h1 := heap_setCell_same W (w0.heap.size + 2) 2 _ _ (.int .i64 g') h.ob
    simpa using h1
  · rcases e with e | ⟨v', hv', e⟩
    · exact (Sto.ownTagS h.ow.row e).ne ht (by decide)
    · exact ((h.ow.own v' hv').at_ e).2.ne ht (by decide)
theorem Dr.set3 (h : Dr w0 s OA oc L DA dc D g x W) (x' : Int) : Dr w0 s OA oc L DA dc D g x' (W.setCell ⟨w0.heap.size + 2, 3, none⟩ (.int .i64 x')) := by
  have hb := h.bs
  have ht : Sto.Tag W (w0.heap.size + 2) 27 := ⟨_, _, h.ob⟩
  have hoth : ∀ q, q ≠ w0.heap.size + 2 → (W.setCell ⟨w0.heap.size + 2, 3, none⟩ (.int .i64 x')).heap[q]? = W.heap[q]? := fun q hq => heap_setCell_other W ⟨w0.heap.size + 2, 3, none⟩ q _ hq
  refine ⟨h.cu.kept (by simp) (fun q hq hc => hoth q ?_), (hoth _ (by omega)).trans h.rb, ?_, h.ow.keep (by simp) (fun q e => hoth q ?_), h.dw.keep (fun q e => hoth q ((Sto.ownTagS h.dw e).ne ht (by decide))), h.below.setCell (by simp) _⟩
  · rcases hc with hc | hc | hc
    · omega
    · exact hc.ne ht (by decide)
    · exact hc.ne ht (by decide)
  · have h1 := heap_setCell_same W (w0.heap.size + 2) 3 _ _ (.int .i64 x') h.ob
    simpa using h1
  · rcases e with e | ⟨v', hv', e⟩
    · exact (Sto.ownTagS h.ow.row e).ne ht (by decide)
    · exact ((h.ow.own v' hv').at_ e).2.ne ht (by decide)
end
set_option maxHeartbeats 4000000 in
set_option maxRecDepth 100000 in
theorem rdecode_any (A : Option Addr) (c : Nat) (b : List UInt8) (w : World) (h : RdB w w.heap.size A b) (hl : b.length ≤ 1000000) (hc : b.length ≤ c) (hcc : c ≤ 9223372036854775807) :
    Calls Tryz.prog 20 #[.slice A b.length c] w (SaysDec w (dec b)) := by
  obtain ⟨W0, hW0⟩ : ∃ W0, W0 = ((w.alloc (.cells zeroEd 27)).alloc (.cells #[.slice A b.length c, .bool false] 100)).alloc (.cells zeroEd 27) := ⟨_, rfl⟩
  have HD0 : Hid (Dr w (some b) none 0 [] none 0 [] 0 0 W0) := Lib.hid (by
    obtain ⟨w1, h1⟩ : ∃ w1, w1 = w.alloc (.cells zeroEd 27) := ⟨_, rfl⟩
    obtain ⟨w2, h2⟩ : ∃ w2, w2 = w1.alloc (.cells #[.slice A b.length c, .bool false] 100) := ⟨_, rfl⟩
    have h4 : W0 = w2.alloc (.cells zeroEd 27) := by rw [hW0, h2, h1]
    have z1 : w1.heap.size = w.heap.size + 1 := by rw [h1]; simp
    have z2 : w2.heap.size = w.heap.size + 2 := by rw [h2]; simp [z1]
    have z4 : W0.heap.size = w.heap.size + 3 := by rw [h4]; simp [z2]
    have a1 := heap_alloc_new w (.cells zeroEd 27)
    have a2 := heap_alloc_new w1 (.cells #[.slice A b.length c, .bool false] 100)
    have a4 := heap_alloc_new w2 (.cells zeroEd 27)
    rw [← h1] at a1
    rw [← h2, z1] at a2
    rw [← h4, z2] at a4
    have b2 : Below w1.heap.size w1 w2 := by rw [h2]; exact (Below.refl _ _).alloc (Nat.le_refl _) _
    have b4 : Below w2.heap.size w2 W0 := by rw [h4]; exact (Below.refl _ _).alloc (Nat.le_refl _) _
    have b1 : Below w.heap.size w w1 := by rw [h1]; exact (Below.refl _ _).alloc (Nat.le_refl _) _
    have hall : Below w.heap.size w W0 := (b1.trans (b2.mono (by omega))).trans (b4.mono (by omega))
    have x1 : W0.heap[w.heap.size]? = _ := (b4.block _ (by omega)).trans ((b2.block _ (by omega)).trans a1)
    have x2 : W0.heap[w.heap.size + 1]? = _ := (b4.block _ (by omega)).trans a2
    exact ⟨⟨by omega, by omega, A, c, b, false, x2, ⟨(h.below hall (Nat.le_refl _)).more hall.size, fun hn g e => by
      rcases b with _ | ⟨b0, bs⟩
      · exact absurd rfl hn
      · obtain ⟨ad, hA, hlt, _⟩ := h.cell (k := 0) (by simp)
        subst hA
        have e : ad.block = g := by simpa [blk] using e
        exact .inl (by omega)⟩, hc, hcc, by omega, rfl⟩, x1, a4, OwV.nil _ _, OwnS.nil _ _ _, hall⟩)
  unfold zeroEd at hW0
  go_enter Tryz.func20, Tryz.ntmps20
  go_wp2_with fail
  rw [← hW0]
  obtain ⟨y0, hy0⟩ : ∃ y, y = numP 1099511627776 (some b) := ⟨_, rfl⟩
  have K0 := rnumber_in W0 _ _ _ HD0.out.cu
  rw [← hy0] at K0
  have HK0 := Lib.hid K0
  have HY0 := Lib.hid hy0
  clear K0 hy0
  refine HK0.out.mono ?_
  rintro e w1 ⟨rfl, hc1, ha1⟩
  have HD1 := Lib.hid (HD0.out.aft hc1 ha1)
  have HNB : Hid (y0.1 ≤ 1099511627776) := Lib.hid (by rw [HY0.out]; exact numP_bd)
  obtain ⟨n, s1⟩ := y0
  simp only at HD1 HNB
  clear HD0 hW0 hc1 ha1 HK0
  have hnb := HNB.out
  go_upto_block 0 with fail
  go_cut [] from 19 to 57 (fun wx => ∃ (k oc : Nat) (OA : Option Addr) (L : List Vf) (s : Os), Hid (Dr w s OA oc L none 0 [] 0 0 wx) ∧ Hid (L.map Vf.fi = (filesP 1099511627776 1099511627776 k s1).1 ∧ s = (filesP 1099511627776 1099511627776 k s1).2) ∧ Hid (L.length = k ∧ k ≤ 51) ∧ Hid (k ≤ min n 51 ∧ (s = none ∨ k = min n 51)))
  case first =>
    go_wp2_with fail
    go_loopw [7] (fun i wr => ∃ (k oc : Nat) (OA : Option Addr) (L : List Vf) (s : Os), k ≤ n ∧ k ≤ 51 ∧ i = .int .i64 (k : Int) ∧ Hid (L.length = k) ∧ Hid (Dr w s OA oc L none 0 [] 0 0 wr) ∧ Hid (L.map Vf.fi = (filesP 1099511627776 1099511627776 k s1).1 ∧ s = (filesP 1099511627776 1099511627776 k s1).2)) (fun i _ => n - (intOf i).toNat)
    case atStart => exact ⟨0, 0, none, [], s1, by omega, by omega, rfl, Lib.hid rfl, HD1, Lib.hid ⟨rfl, rfl⟩⟩
    case round =>
      obtain ⟨k, oc, OA, L, s, hk, hk51, rfl, HLL, HE, HP⟩ := hrel
      obtain ⟨-, -, A5, c5, b5, am, hx5, -, -, -, -, hs5⟩ := HE.out.cu
      have y5 := cell_of_row _ _ 1 _ _ (0, 0) hx5
      simp only [List.getElem?_toArray, List.getElem?_cons_zero, List.getElem?_cons_succ] at y5
      clear hx5
      by_cases hlt : k < n
      · have hlt' : (k : Int) < (n : Int) := by omega
        have hlt2 : decide ((k : Int) < (n : Int)) = true := decide_eq_true hlt'
        by_cases hlk : k ≤ 50
        · have hlk1 : (k : Int) ≤ 50 := by omega
          have hlk2 : decide ((k : Int) ≤ 50) = true := decide_eq_true hlk1
          cases am with
          | true =>
            have HX : Hid (s = none) := Lib.hid (by rw [hs5]; rfl)
            clear hs5
            go_wp2_with fail
            go_meet
            exact ⟨k, oc, OA, L, s, HE, HP, Lib.hid ⟨HLL.out, hk51⟩, Lib.hid ⟨by omega, .inl HX.out⟩⟩
          | false =>
            clear hs5
            obtain ⟨y1, hy1⟩ : ∃ y, y = numP 1099511627776 s := ⟨_, rfl⟩
            obtain ⟨y2, hy2⟩ : ∃ y, y = numP 1099511627776 y1.2 := ⟨_, rfl⟩
            obtain ⟨y3, hy3⟩ : ∃ y, y = textP y2.2 := ⟨_, rfl⟩
            obtain ⟨y4, hy4⟩ : ∃ y, y = textP y3.2 := ⟨_, rfl⟩
            obtain ⟨y5, hy5⟩ : ∃ y, y = numP 1099511627776 y4.2 := ⟨_, rfl⟩
            obtain ⟨y6, hy6⟩ : ∃ y, y = numP 1099511627776 y5.2 := ⟨_, rfl⟩
            have HFP : Hid (fileP 1099511627776 1099511627776 s = (⟨y1.1, y2.1, y3.1, y4.1, y5.1, y6.1⟩, y6.2)) := Lib.hid (by rw [hy6, hy5, hy4, hy3, hy2, hy1]; rfl)
            have G1 : Hid (∀ W, Ct W w.heap.size (w.heap.size + 1) s → _) := Lib.hid (fun W h => rnumber_in W _ _ _ h)
            have G2 : Hid (∀ W, Ct W w.heap.size (w.heap.size + 1) y1.2 → _) := Lib.hid (fun W h => rnumber_in W _ _ _ h)
            have G3 : Hid (∀ W, Ct W w.heap.size (w.heap.size + 1) y2.2 → _) := Lib.hid (fun W h => rtext_in W _ _ _ h)
            have G4 : Hid (∀ W, Ct W w.heap.size (w.heap.size + 1) y3.2 → _) := Lib.hid (fun W h => rtext_in W _ _ _ h)
            have G5 : Hid (∀ W, Ct W w.heap.size (w.heap.size + 1) y4.2 → _) := Lib.hid (fun W h => rnumber_in W _ _ _ h)
            have G6 : Hid (∀ W, Ct W w.heap.size (w.heap.size + 1) y5.2 → _) := Lib.hid (fun W h => rnumber_in W _ _ _ h)
            rw [← hy1] at G1
            rw [← hy2] at G2
            rw [← hy3] at G3
            rw [← hy4] at G4
            rw [← hy5] at G5
            rw [← hy6] at G6
            clear hy1 hy2 hy3 hy4 hy5 hy6
            go_wp2_with fail
            refine (G1.out wr HE.out.cu).mono ?_
            rintro e v1 ⟨rfl, hc, ha⟩
            have E1 := Lib.hid (HE.out.aft hc ha)
            clear hc ha
            go_wp2_with fail
            refine (G2.out v1 E1.out.cu).mono ?_
            rintro e v2 ⟨rfl, hc, ha⟩
            have E2 := Lib.hid (E1.out.aft hc ha)
            clear hc ha
            have hbs2 := E2.out.bs
            obtain ⟨gf, hgf⟩ : ∃ gf, gf = v2.heap.size := ⟨_, rfl⟩
            have HGB : Hid (w.heap.size ≤ gf) := Lib.hid (by omega)
            have HGN : Hid (∀ q, blk OA = some q → q < gf) := Lib.hid (fun q e => by rw [hgf]; exact (E2.out.ow.row.blk_ge q e).2)
            have HGF := Lib.hid hgf
            have E3 := Lib.hid (E2.out.alloc (.cells #[.int .i64 y1.1, .int .i64 y2.1, .slice none 0 0, .slice none 0 0, .int .i64 0, .int .i64 0] 43))
            have F3 : Hid ((v2.alloc (.cells #[.int .i64 y1.1, .int .i64 y2.1, .slice none 0 0, .slice none 0 0, .int .i64 0, .int .i64 0] 43)).heap[gf]? = some (.cells #[.int .i64 y1.1, .int .i64 y2.1, .slice none 0 0, .slice none 0 0, .int .i64 0, .int .i64 0] 43)) := Lib.hid (by rw [hgf]; exact heap_alloc_new v2 _)
            have BA3 : Hid (Below v2.heap.size v2 (v2.alloc (.cells #[.int .i64 y1.1, .int .i64 y2.1, .slice none 0 0, .slice none 0 0, .int .i64 0, .int .i64 0] 43))) := Lib.hid ((Below.refl _ _).alloc (Nat.le_refl _) _)
            clear hgf hbs2
            go_wp2_with fail
            refine (G3.out (v2.alloc (.cells #[.int .i64 y1.1, .int .i64 y2.1, .slice none 0 0, .slice none 0 0, .int .i64 0, .int .i64 0] 43)) E3.out.cu).mono ?_
            rintro e v3 ⟨T3, t3, rfl, hr, hcap, hc, ha⟩
            rw [← HGF.out]
            have Ea3 := Lib.hid (E3.out.aft hc ha)
            have Fa3 : Hid (v3.heap[gf]? = some (.cells #[.int .i64 y1.1, .int .i64 y2.1, .slice none 0 0, .slice none 0 0, .int .i64 0, .int .i64 0] 43)) := Lib.hid ((Ref.Aft.tag ha ⟨_, _, F3.out⟩ (by decide)).trans F3.out)
            have Rn3 : Hid (Ref.Rby v3 w.heap.size T3 y3.1) := Lib.hid ⟨hr.rd, fun q e => ⟨Nat.le_trans (Nat.le_of_lt (by have := E3.out.bs; omega)) (hr.at_ q e).1, (hr.at_ q e).2⟩⟩
            have C3 := Lib.hid hcap
            have p3 : v3.cell? ⟨gf, 2, none⟩ = some (.slice none 0 0) := by rw [cell_of_row _ _ _ _ _ (0, 0) Fa3.out]; rfl
            have f3 : v3.frozen? ⟨gf, 2, none⟩ = false := frozen_of_row _ _ _ _ _ Fa3.out
            have E3x := Lib.hid (Ea3.out.setf (j := 2) (v := .slice T3 y3.1.length t3) ⟨_, _, Fa3.out⟩ HGB.out HGN.out)
            have F3x : Hid ((v3.setCell ⟨gf, 2, none⟩ (.slice T3 y3.1.length t3)).heap[gf]? = some (.cells #[.int .i64 y1.1, .int .i64 y2.1, .slice T3 y3.1.length t3, .slice none 0 0, .int .i64 0, .int .i64 0] 43)) := Lib.hid (by have := heap_setCell_same v3 gf 2 _ _ (.slice T3 y3.1.length t3) Fa3.out; simpa using this)
            have R3 := Lib.hid (Rn3.out.keep (w' := v3.setCell ⟨gf, 2, none⟩ (.slice T3 y3.1.length t3)) (by simp) (fun q e => heap_setCell_other v3 ⟨gf, 2, none⟩ q _ ((Rn3.out.at_ q e).2.ne ⟨_, _, Fa3.out⟩ (by decide))))
            clear hc ha hr hcap
            go_wp2_with fail
            clear p3 f3
            refine (G4.out (v3.setCell ⟨gf, 2, none⟩ (.slice T3 y3.1.length t3)) E3x.out.cu).mono ?_
            rintro e v4 ⟨T4, t4, rfl, hr, hcap, hc, ha⟩
            have Ea4 := Lib.hid (E3x.out.aft hc ha)
            have Fa4 : Hid (v4.heap[gf]? = some (.cells #[.int .i64 y1.1, .int .i64 y2.1, .slice T3 y3.1.length t3, .slice none 0 0, .int .i64 0, .int .i64 0] 43)) := Lib.hid ((Ref.Aft.tag ha ⟨_, _, F3x.out⟩ (by decide)).trans F3x.out)
            have Ra3 := Lib.hid (R3.out.aft ha (by decide))
            have Rn4 : Hid (Ref.Rby v4 w.heap.size T4 y4.1) := Lib.hid ⟨hr.rd, fun q e => ⟨Nat.le_trans (Nat.le_of_lt (by have := E3x.out.bs; omega)) (hr.at_ q e).1, (hr.at_ q e).2⟩⟩
            have C4 := Lib.hid hcap
            have p4 : v4.cell? ⟨gf, 3, none⟩ = some (.slice none 0 0) := by rw [cell_of_row _ _ _ _ _ (0, 0) Fa4.out]; rfl
            have f4 : v4.frozen? ⟨gf, 3, none⟩ = false := frozen_of_row _ _ _ _ _ Fa4.out
            have E4x := Lib.hid (Ea4.out.setf (j := 3) (v := .slice T4 y4.1.length t4) ⟨_, _, Fa4.out⟩ HGB.out HGN.out)
            have F4x : Hid ((v4.setCell ⟨gf, 3, none⟩ (.slice T4 y4.1.length t4)).heap[gf]? = some (.cells #[.int .i64 y1.1, .int .i64 y2.1, .slice T3 y3.1.length t3, .slice T4 y4.1.length t4, .int .i64 0, .int .i64 0] 43)) := Lib.hid (by have := heap_setCell_same v4 gf 3 _ _ (.slice T4 y4.1.length t4) Fa4.out; simpa using this)
            have Rb3 := Lib.hid (Ra3.out.keep (w' := v4.setCell ⟨gf, 3, none⟩ (.slice T4 y4.1.length t4)) (by simp) (fun q e => heap_setCell_other v4 ⟨gf, 3, none⟩ q _ ((Ra3.out.at_ q e).2.ne ⟨_, _, Fa4.out⟩ (by decide))))
            have Rb4 := Lib.hid (Rn4.out.keep (w' := v4.setCell ⟨gf, 3, none⟩ (.slice T4 y4.1.length t4)) (by simp) (fun q e => heap_setCell_other v4 ⟨gf, 3, none⟩ q _ ((Rn4.out.at_ q e).2.ne ⟨_, _, Fa4.out⟩ (by decide))))
            clear hc ha hr hcap
            go_wp2_with fail
            clear p4 f4
            refine (G5.out (v4.setCell ⟨gf, 3, none⟩ (.slice T4 y4.1.length t4)) E4x.out.cu).mono ?_
            rintro e v5 ⟨rfl, hc, ha⟩
            have Ea5 := Lib.hid (E4x.out.aft hc ha)
            have Fa5 : Hid (v5.heap[gf]? = some (.cells #[.int .i64 y1.1, .int .i64 y2.1, .slice T3 y3.1.length t3, .slice T4 y4.1.length t4, .int .i64 0, .int .i64 0] 43)) := Lib.hid ((Ref.Aft.tag ha ⟨_, _, F4x.out⟩ (by decide)).trans F4x.out)
            have Ra3 := Lib.hid (Rb3.out.aft ha (by decide))
            have Ra4 := Lib.hid (Rb4.out.aft ha (by decide))
            have p5 : v5.cell? ⟨gf, 4, none⟩ = some (.int .i64 0) := by rw [cell_of_row _ _ _ _ _ (0, 0) Fa5.out]; rfl
            have f5 : v5.frozen? ⟨gf, 4, none⟩ = false := frozen_of_row _ _ _ _ _ Fa5.out
            have E5x := Lib.hid (Ea5.out.setf (j := 4) (v := .int .i64 (y5.1 : Int)) ⟨_, _, Fa5.out⟩ HGB.out HGN.out)
            have F5x : Hid ((v5.setCell ⟨gf, 4, none⟩ (.int .i64 (y5.1 : Int))).heap[gf]? = some (.cells #[.int .i64 y1.1, .int .i64 y2.1, .slice T3 y3.1.length t3, .slice T4 y4.1.length t4, .int .i64 y5.1, .int .i64 0] 43)) := Lib.hid (by have := heap_setCell_same v5 gf 4 _ _ (.int .i64 (y5.1 : Int)) Fa5.out; simpa using this)
            clear Rb3 Rb4
            have Rb3 := Lib.hid (Ra3.out.keep (w' := v5.setCell ⟨gf, 4, none⟩ (.int .i64 (y5.1 : Int))) (by simp) (fun q e => heap_setCell_other v5 ⟨gf, 4, none⟩ q _ ((Ra3.out.at_ q e).2.ne ⟨_, _, Fa5.out⟩ (by decide))))
            have Rb4 := Lib.hid (Ra4.out.keep (w' := v5.setCell ⟨gf, 4, none⟩ (.int .i64 (y5.1 : Int))) (by simp) (fun q e => heap_setCell_other v5 ⟨gf, 4, none⟩ q _ ((Ra4.out.at_ q e).2.ne ⟨_, _, Fa5.out⟩ (by decide))))
            clear hc ha
            go_wp2_with fail
            clear p5 f5
            refine (G6.out (v5.setCell ⟨gf, 4, none⟩ (.int .i64 (y5.1 : Int))) E5x.out.cu).mono ?_
            rintro e v6 ⟨rfl, hc, ha⟩
            have Ea6 := Lib.hid (E5x.out.aft hc ha)
            have Fa6 : Hid (v6.heap[gf]? = some (.cells #[.int .i64 y1.1, .int .i64 y2.1, .slice T3 y3.1.length t3, .slice T4 y4.1.length t4, .int .i64 y5.1, .int .i64 0] 43)) := Lib.hid ((Ref.Aft.tag ha ⟨_, _, F5x.out⟩ (by decide)).trans F5x.out)
            have Ra3 := Lib.hid (Rb3.out.aft ha (by decide))
            have Ra4 := Lib.hid (Rb4.out.aft ha (by decide))
            have p6 : v6.cell? ⟨gf, 5, none⟩ = some (.int .i64 0) := by rw [cell_of_row _ _ _ _ _ (0, 0) Fa6.out]; rfl
            have f6 : v6.frozen? ⟨gf, 5, none⟩ = false := frozen_of_row _ _ _ _ _ Fa6.out
            have E6x := Lib.hid (Ea6.out.setf (j := 5) (v := .int .i64 (y6.1 : Int)) ⟨_, _, Fa6.out⟩ HGB.out HGN.out)
            have F6x : Hid ((v6.setCell ⟨gf, 5, none⟩ (.int .i64 (y6.1 : Int))).heap[gf]? = some (.cells #[.int .i64 y1.1, .int .i64 y2.1, .slice T3 y3.1.length t3, .slice T4 y4.1.length t4, .int .i64 y5.1, .int .i64 y6.1] 43)) := Lib.hid (by have := heap_setCell_same v6 gf 5 _ _ (.int .i64 (y6.1 : Int)) Fa6.out; simpa using this)
            clear Rb3 Rb4
            have Rb3 := Lib.hid (Ra3.out.keep (w' := v6.setCell ⟨gf, 5, none⟩ (.int .i64 (y6.1 : Int))) (by simp) (fun q e => heap_setCell_other v6 ⟨gf, 5, none⟩ q _ ((Ra3.out.at_ q e).2.ne ⟨_, _, Fa6.out⟩ (by decide))))
            have Rb4 := Lib.hid (Ra4.out.keep (w' := v6.setCell ⟨gf, 5, none⟩ (.int .i64 (y6.1 : Int))) (by simp) (fun q e => heap_setCell_other v6 ⟨gf, 5, none⟩ q _ ((Ra4.out.at_ q e).2.ne ⟨_, _, Fa6.out⟩ (by decide))))
            clear hc ha
            have hz6 : w.heap.size + 1 + 1 < v6.heap.size := Ea6.out.bs
            have E7 := Lib.hid (E6x.out.alloc (.cells #[.int .i64 y1.1, .int .i64 y2.1, .slice T3 y3.1.length t3, .slice T4 y4.1.length t4, .int .i64 y5.1, .int .i64 y6.1] 43))
            have q0 := cell_of_row _ _ 0 _ _ (0, 0) F6x.out
            have q1 := cell_of_row _ _ 1 _ _ (0, 0) F6x.out
            have q2 := cell_of_row _ _ 2 _ _ (0, 0) F6x.out
            have q3 := cell_of_row _ _ 3 _ _ (0, 0) F6x.out
            have q4 := cell_of_row _ _ 4 _ _ (0, 0) F6x.out
            have q5 := cell_of_row _ _ 5 _ _ (0, 0) F6x.out
            simp only [List.getElem?_toArray, List.getElem?_cons_zero, List.getElem?_cons_succ] at q0 q1 q2 q3 q4 q5
            have d0 : (v6.setCell ⟨gf, 5, none⟩ (.int .i64 (y6.1 : Int))).cell? ⟨w.heap.size + 1 + 1, 0, none⟩ = some (.slice OA L.length oc) := E6x.out.o.1
            have HBA : Hid (Below (v6.setCell ⟨gf, 5, none⟩ (.int .i64 (y6.1 : Int))).heap.size (v6.setCell ⟨gf, 5, none⟩ (.int .i64 (y6.1 : Int))) ((v6.setCell ⟨gf, 5, none⟩ (.int .i64 (y6.1 : Int))).alloc (.cells #[.int .i64 y1.1, .int .i64 y2.1, .slice T3 y3.1.length t3, .slice T4 y4.1.length t4, .int .i64 y5.1, .int .i64 y6.1] 43))) := Lib.hid ((Below.refl _ _).alloc (Nat.le_refl _) _)
            have HV : Hid (VfOwn ((v6.setCell ⟨gf, 5, none⟩ (.int .i64 (y6.1 : Int))).alloc (.cells #[.int .i64 y1.1, .int .i64 y2.1, .slice T3 y3.1.length t3, .slice T4 y4.1.length t4, .int .i64 y5.1, .int .i64 y6.1] 43)) w.heap.size ⟨y1.1, y2.1, T3, t3, y3.1, T4, t4, y4.1, y5.1, y6.1⟩) := Lib.hid ⟨Rb3.out.below HBA.out, Rb4.out.below HBA.out, C3.out, C4.out⟩
            clear G1 G2 G3 G4 G5 G6
            go_wp2_with (at_builtin; (refine wpList_append_s _ rfl _ _ vfT rfl w.heap.size OA oc L rfl E7.out.ow.row (v6.heap.size + 1) (some ⟨v6.heap.size, 0, none⟩) 1 1 [⟨y1.1, y2.1, T3, t3, y3.1, T4, t4, y4.1, y5.1, y6.1⟩] rfl rfl (rd_vf_newN _ ⟨y1.1, y2.1, T3, t3, y3.1, T4, t4, y4.1, y5.1, y6.1⟩ (by simp)) (by have := HLL.out; simp; omega) (by have := HLL.out; unfold maxLen; simp; omega) (by simp; omega) ?_); intro A3 c3 L3 w8 hl3 ho3 hg3 hat3; have HAP := Lib.hid (E7.out.app HV.out hg3 hl3 ho3); have ob8 := HAP.out.2.trans E7.out.ob; have p8 : w8.cell? ⟨w.heap.size + 1 + 1, 0, none⟩ = some (.slice OA L.length oc) := (by rw [cell_of_row _ _ _ _ _ (0, 0) ob8]; rfl); have f8 : w8.frozen? ⟨w.heap.size + 1 + 1, 0, none⟩ = false := frozen_of_row _ _ _ _ _ ob8; clear hl3 ho3 hg3 hat3 ob8 hz6 d0)
            exact ⟨⟨k + 1, c3, A3, L ++ [⟨y1.1, y2.1, T3, t3, y3.1, T4, t4, y4.1, y5.1, y6.1⟩], y6.2, hlt, by omega, by simp, Lib.hid (by have := HLL.out; simp; omega), Lib.hid HAP.out.1, Lib.hid (by
              obtain ⟨q1, q2⟩ := HP.out
              rw [filesP, ← q2, HFP.out, ← q1]
              exact ⟨by simp [Vf.fi], rfl⟩)⟩, by simp only [intOf]; omega⟩
        · have hlk1 : ¬ (k : Int) ≤ 50 := by omega
          have hlk2 : decide ((k : Int) ≤ 50) = false := decide_eq_false hlk1
          clear hs5
          go_wp2_with fail
          go_meet
          exact ⟨k, oc, OA, L, s, HE, HP, Lib.hid ⟨HLL.out, hk51⟩, Lib.hid ⟨by omega, .inr (by omega)⟩⟩
      · have hlt' : ¬ (k : Int) < (n : Int) := by omega
        have hlt2 : decide ((k : Int) < (n : Int)) = false := decide_eq_false hlt'
        clear hs5
        go_wp2_with fail
        go_meet
        exact ⟨k, oc, OA, L, s, HE, HP, Lib.hid ⟨HLL.out, hk51⟩, Lib.hid ⟨by omega, .inr (by omega)⟩⟩
  case rest =>
    obtain ⟨k, oc, OA, L, s, HE, HP, HLK, HX⟩ := hcut
    obtain ⟨z0, hz0⟩ : ∃ z, z = numP 1099511627776 s := ⟨_, rfl⟩
    have hb0 : z0.1 ≤ 1099511627776 := by rw [hz0]; exact numP_bd
    have G1 : Hid (∀ W, Ct W w.heap.size (w.heap.size + 1) s → _) := Lib.hid (fun W h => rnumber_in W _ _ _ h)
    rw [← hz0] at G1
    have HZ0 := Lib.hid hz0
    clear hz0
    go_wp2_with fail
    refine (G1.out _ HE.out.cu).mono ?_
    rintro e v1 ⟨rfl, hc, ha⟩
    have E1 := Lib.hid (HE.out.aft hc ha)
    obtain ⟨m, s2⟩ := z0
    simp only at E1 hb0
    clear hc ha G1 HE
    go_upto_block 2 with fail
    go_cut [] from 60 to 82 (fun wx => ∃ (j dc : Nat) (DA : Option Addr) (D : List Int) (s' : Os), Hid (Dr w s' OA oc L DA dc D 0 0 wx) ∧ Hid (D = (numsP 1099511627776 j s2).1 ∧ s' = (numsP 1099511627776 j s2).2) ∧ Hid (D.length = j ∧ j ≤ 51) ∧ Hid (j ≤ min m 51 ∧ (s' = none ∨ j = min m 51)))
    case first =>
      go_wp2_with fail
      go_loopw [10] (fun i wr => ∃ (j dc : Nat) (DA : Option Addr) (D : List Int) (s' : Os), j ≤ m ∧ j ≤ 51 ∧ i = .int .i64 (j : Int) ∧ Hid (D.length = j) ∧ Hid (Dr w s' OA oc L DA dc D 0 0 wr) ∧ Hid (D = (numsP 1099511627776 j s2).1 ∧ s' = (numsP 1099511627776 j s2).2)) (fun i _ => m - (intOf i).toNat)
      case atStart => exact ⟨0, 0, none, [], s2, by omega, by omega, rfl, Lib.hid rfl, E1, Lib.hid ⟨rfl, rfl⟩⟩
      case round =>
        obtain ⟨j, dc, DA, D, s', hj, hj51, rfl, HDL, HE, HQ⟩ := hrel
        obtain ⟨-, -, A5, c5, b5, am, hx5, -, -, -, -, hs5⟩ := HE.out.cu
        have y5 := cell_of_row _ _ 1 _ _ (0, 0) hx5
        simp only [List.getElem?_toArray, List.getElem?_cons_zero, List.getElem?_cons_succ] at y5
        clear hx5
        by_cases hlt : j < m
        · have hlt' : (j : Int) < (m : Int) := by omega
          have hlt2 : decide ((j : Int) < (m : Int)) = true := decide_eq_true hlt'
          by_cases hlk : j ≤ 50
          · have hlk1 : (j : Int) ≤ 50 := by omega
            have hlk2 : decide ((j : Int) ≤ 50) = true := decide_eq_true hlk1
            cases am with
            | true =>
              have HX2 : Hid (s' = none) := Lib.hid (by rw [hs5]; rfl)
              clear hs5
              go_wp2_with fail
              go_meet
              exact ⟨j, dc, DA, D, s', HE, HQ, Lib.hid ⟨HDL.out, hj51⟩, Lib.hid ⟨by omega, .inl HX2.out⟩⟩
            | false =>
              clear hs5
              obtain ⟨y1, hy1⟩ : ∃ y, y = numP 1099511627776 s' := ⟨_, rfl⟩
              have G1 : Hid (∀ W, Ct W w.heap.size (w.heap.size + 1) s' → _) := Lib.hid (fun W h => rnumber_in W _ _ _ h)
              rw [← hy1] at G1
              have HY1 := Lib.hid hy1
              clear hy1
              go_wp2_with fail
              obtain ⟨V, hV⟩ : ∃ V, V = wr.drew := ⟨_, rfl⟩
              have EV : Hid (Dr w s' OA oc L DA dc D 0 0 V) := Lib.hid (by rw [hV]; exact HE.out.low (Below.refl _ _).drew)
              have HSV : V.cell? ⟨w.heap.size + 1 + 1, 1, none⟩ = some (.slice DA D.length dc) := EV.out.o.2.1
              refine wp_region_E 7 (fun w' => w'.cell? ⟨w.heap.size + 1 + 1, 1, none⟩ = some (.slice DA D.length dc)) (by kernel_rfl) ?_
              rw [← hV]
              clear hV HE y5
              refine wpAnyE_take (i := 0) (v := ?_) rfl (by kernel_rfl) (by kernel_rfl) (by kernel_rfl) (by kernel_rfl) (fun _ _ _ h => h) (Or.inl ⟨by rfl, ?_⟩) HSV ?_
              rotate_left
              · (intro wy hSw; go_simp; try with_reducible rfl)
              try simp only [Act.put, List.setIfInBounds_toArray]
              refine wpAnyE_take (i := 1) (v := ?_) rfl (by kernel_rfl) (by kernel_rfl) (by kernel_rfl) (by kernel_rfl) (fun _ _ _ h => h) (Or.inl ⟨by rfl, ?_⟩) HSV ?_
              rotate_left
              · (intro wy hSw; go_simp; try with_reducible rfl)
              try simp only [Act.put]
              refine wpAnyE_take (i := 2) (v := ?_) rfl (by kernel_rfl) (by kernel_rfl) (by kernel_rfl) (by kernel_rfl) (fun _ _ _ h => h) (Or.inl ⟨by rfl, ?_⟩) HSV ?_
              rotate_left
              · (intro wy hSw; go_simp; try with_reducible rfl)
              simp only [Act.put, List.getElem_toArray, List.getElem_cons_succ, List.getElem_cons_zero, List.setIfInBounds_toArray, List.set_cons_succ, List.set_cons_zero]
              refine wpAnyE_one (i := 3) (by kernel_rfl) rfl (fun K hK => ?_)
              refine step_call1_dv (by rfl) (some 79) (by rfl) (.tmp 78) (by rfl) (.pointer (some ⟨w.heap.size + 1, 0, none⟩)) rfl (enters_of Tryz.func62 (by kernel_rfl) rfl) _ (G1.out V EV.out.cu) ?_
              rintro e v2 ⟨rfl, hc, ha⟩
              have E2 := Lib.hid (EV.out.aft hc ha)
              have HS2 : v2.cell? ⟨w.heap.size + 1 + 1, 1, none⟩ = some (.slice DA D.length dc) := E2.out.o.2.1
              have hz2 : w.heap.size + 1 + 1 < v2.heap.size := E2.out.bs
              refine ⟨_, rfl, ?_⟩
              refine hK _ _ HS2 ?_
              clear hc ha HSV EV G1
              simp only [Act.put, List.setIfInBounds_toArray, List.set_cons_succ, List.set_cons_zero]
              refine wpAnyE_one (i := 4) (by kernel_rfl) rfl (fun K hK => ?_)
              go_simp
              have HS3 : (v2.alloc (.cells #[.int .i64 (y1.1 : Int)] 3)).cell? ⟨w.heap.size + 1 + 1, 1, none⟩ = some (.slice DA D.length dc) := (E2.out.alloc _).o.2.1
              refine hK _ _ HS3 ?_
              have E3 := Lib.hid (E2.out.alloc (.cells #[.int .i64 (y1.1 : Int)] 3))
              refine wpAnyE_one (i := 5) (by kernel_rfl) rfl (fun K hK => ?_)
              refine step_append_sd _ (by rfl) (some 81) (by rfl) (.tmp 77) (.tmp 80) intT (by rfl) w.heap.size DA dc D rfl E3.out.dw (v2.heap.size + 1) (some ⟨v2.heap.size, 0, none⟩) 1 1 [(y1.1 : Int)] rfl rfl (rd_intN v2 (y1.1 : Int) rfl) (by have := HDL.out; simp; omega) (by have := HDL.out; unfold maxLen; simp; omega) (by simp; omega) ?_
              intro A3 c3 L3 w8 hl3 ho3 hg3 hat3
              have HAP := Lib.hid (E3.out.appN hg3 hl3 ho3)
              have ob8 := HAP.out.2.trans E3.out.ob
              have p8 : w8.cell? ⟨w.heap.size + 1 + 1, 1, none⟩ = some (.slice DA D.length dc) := by rw [cell_of_row _ _ _ _ _ (0, 0) ob8]; rfl
              have f8 : w8.frozen? ⟨w.heap.size + 1 + 1, 1, none⟩ = false := frozen_of_row _ _ _ _ _ ob8
              refine hK _ _ p8 ?_
              clear hl3 ho3 hg3 hat3 ob8 HS3 HS2 hz2
              simp only [Act.put, List.setIfInBounds_toArray, List.set_cons_succ, List.set_cons_zero]
              refine wpAnyE_one (i := 6) (by kernel_rfl) rfl (fun K hK => ?_)
              go_simp
              refine hK _ _ p8 ?_
              refine wpAnyE_last (by kernel_rfl) (by kernel_rfl) rfl (fun K hK => ?_)
              go_simp
              refine hK _ _ ?_
              obtain ⟨W, hW⟩ : ∃ W, W = w8.setCell ⟨w.heap.size + 1 + 1, 1, none⟩ (.slice A3 L3.length c3) := ⟨_, rfl⟩
              have E4 : Hid (Dr w y1.2 OA oc L A3 c3 (D ++ [(y1.1 : Int)]) 0 0 W) := Lib.hid (by rw [hW]; exact HAP.out.1)
              rw [← hW]
              clear hW HAP p8 f8 E2 E3
              go_wp2_with fail
              exact ⟨⟨j + 1, c3, A3, D ++ [(y1.1 : Int)], y1.2, hlt, by omega, by simp, Lib.hid (by have := HDL.out; simp; omega), E4, Lib.hid (by
                obtain ⟨q1, q2⟩ := HQ.out
                rw [numsP, ← q2, ← HY1.out, ← q1]
                exact ⟨rfl, rfl⟩)⟩, by simp only [intOf]; omega⟩
          · have hlk1 : ¬ (j : Int) ≤ 50 := by omega
            have hlk2 : decide ((j : Int) ≤ 50) = false := decide_eq_false hlk1
            clear hs5
            go_wp2_with fail
            go_meet
            exact ⟨j, dc, DA, D, s', HE, HQ, Lib.hid ⟨HDL.out, hj51⟩, Lib.hid ⟨by omega, .inr (by omega)⟩⟩
        · have hlt' : ¬ (j : Int) < (m : Int) := by omega
          have hlt2 : decide ((j : Int) < (m : Int)) = false := decide_eq_false hlt'
          clear hs5
          go_wp2_with fail
          go_meet
          exact ⟨j, dc, DA, D, s', HE, HQ, Lib.hid ⟨HDL.out, hj51⟩, Lib.hid ⟨by omega, .inr (by omega)⟩⟩
    case rest =>
      obtain ⟨j, dc, DA, D, s', HE, HQ, HDK, HX2⟩ := hcut
      obtain ⟨a1, ha1⟩ : ∃ z, z = numP 1099511627776 s' := ⟨_, rfl⟩
      obtain ⟨a2, ha2⟩ : ∃ z, z = numP 1099511627776 a1.2 := ⟨_, rfl⟩
      have HED : Hid ((a2.2 = none ∧ (edP 1099511627776 51 1099511627776 1099511627776 b).2 = none) ∨ edP 1099511627776 51 1099511627776 1099511627776 b = (⟨L.map Vf.fi, D, a1.1, a2.1⟩, a2.2)) := Lib.hid (by
        by_cases hs' : s' = none
        · left
          rw [ha2, ha1, hs']
          refine ⟨rfl, ?_⟩
          unfold edP
          rw [← HY0.out]
          simp only
          by_cases hs : s = none
          · have h1 : (filesP 1099511627776 1099511627776 (min n 51) s1).2 = none := by
              have := filesP_mono (a := 1099511627776) (c := 1099511627776) (s := s1) (min n 51 - k) k (by rw [← HP.out.2]; exact hs)
              rwa [show k + (min n 51 - k) = min n 51 by have := HX.out.1; omega] at this
            rw [h1]
            simp only [numP_none, Nat.zero_min, numsP]
          · have hkm : k = min n 51 := HX.out.2.resolve_left hs
            rw [← hkm, ← HP.out.2, ← HZ0.out]
            simp only
            have h2 : (numsP 1099511627776 (min m 51) s2).2 = none := by
              have := numsP_mono (a := 1099511627776) (s := s2) (min m 51 - j) j (by rw [← HQ.out.2]; exact hs')
              rwa [show j + (min m 51 - j) = min m 51 by have := HX2.out.1; omega] at this
            rw [h2]
            simp only [numP_none]
        · right
          have hjm : j = min m 51 := HX2.out.2.resolve_left hs'
          have hs : s ≠ none := fun e => by
            have : s2 = none := by
              have := HZ0.out
              rw [e] at this
              injection this
            rw [HQ.out.2, this] at hs'
            exact hs' (numsP_none _)
          have hkm : k = min n 51 := HX.out.2.resolve_left hs
          unfold edP
          rw [← HY0.out]
          simp only
          rw [← hkm, ← HP.out.1, ← HP.out.2, ← HZ0.out]
          simp only
          rw [← hjm, ← HQ.out.1, ← HQ.out.2, ← ha1, ← ha2])
      have G1 : Hid (∀ W, Ct W w.heap.size (w.heap.size + 1) s' → _) := Lib.hid (fun W h => rnumber_in W _ _ _ h)
      have G2 : Hid (∀ W, Ct W w.heap.size (w.heap.size + 1) a1.2 → _) := Lib.hid (fun W h => rnumber_in W _ _ _ h)
      rw [← ha1] at G1
      rw [← ha2] at G2
      clear ha1 ha2
      have HRB0 : Hid (RdB w w.heap.size A b) := Lib.hid h
      clear h
      go_wp2_with fail
      refine (G1.out _ HE.out.cu).mono ?_
      rintro e v2 ⟨rfl, hc, ha⟩
      have E2 := Lib.hid (HE.out.aft hc ha)
      have p2 : v2.cell? ⟨w.heap.size + 1 + 1, 2, none⟩ = some (.int .i64 0) := E2.out.o.2.2.1
      have f2 : v2.frozen? ⟨w.heap.size + 1 + 1, 2, none⟩ = false := E2.out.f 2
      have E3 := Lib.hid (E2.out.set2 (a1.1 : Int))
      clear hc ha G1 HE
      go_wp2_with fail
      refine (G2.out _ E3.out.cu).mono ?_
      rintro e v4 ⟨rfl, hc, ha⟩
      have E4 := Lib.hid (E3.out.aft hc ha)
      have p4 : v4.cell? ⟨w.heap.size + 1 + 1, 3, none⟩ = some (.int .i64 0) := E4.out.o.2.2.2
      have f4 : v4.frozen? ⟨w.heap.size + 1 + 1, 3, none⟩ = false := E4.out.f 3
      obtain ⟨W, hW⟩ : ∃ W, W = v4.setCell ⟨w.heap.size + 1 + 1, 3, none⟩ (.int .i64 (a2.1 : Int)) := ⟨_, rfl⟩
      have E5 : Hid (Dr w a2.2 OA oc L DA dc D a1.1 a2.1 W) := Lib.hid (by rw [hW]; exact E4.out.set3 (a2.1 : Int))
      obtain ⟨o0, o1, o2, o3⟩ := E5.out.o
      have HEVO : Hid (EvOk W W.heap.size ⟨OA, oc, L, DA, dc, D, a1.1, a2.1⟩) := Lib.hid ⟨E5.out.ow.rd, E5.out.dw.rd⟩
      have KE := rencode_any ⟨OA, oc, L, DA, dc, D, a1.1, a2.1⟩ W HEVO.out (by have := HLK.out; simp only; omega) (by have := HDK.out; simp only; omega)
      unfold Ev.val at KE
      simp only at KE
      rw [hW] at o0 o1 o2 o3 KE
      have HKE := Lib.hid KE
      have HW := Lib.hid hW
      clear hc ha G2 p2 f2 E2 E3 E4 hW KE HEVO
      go_wp2_with fail
      refine HKE.out.mono ?_
      rintro e w6 ⟨hb6, hr6⟩
      rw [← HW.out] at hb6
      have E6 := Lib.hid (E5.out.low hb6)
      obtain ⟨o0, o1, o2, o3⟩ := E6.out.o
      have rbX := E6.out.rb
      have HRB := Lib.hid rbX
      have r0 := cell_of_row _ _ 0 _ _ (0, 0) rbX
      have r1 := cell_of_row _ _ 1 _ _ (0, 0) rbX
      have r2 := cell_of_row _ _ 2 _ _ (0, 0) rbX
      have r3 := cell_of_row _ _ 3 _ _ (0, 0) rbX
      have t0 := frozen_of_row _ _ 0 _ _ rbX
      have t1 := frozen_of_row _ _ 1 _ _ rbX
      have t2 := frozen_of_row _ _ 2 _ _ rbX
      have t3 := frozen_of_row _ _ 3 _ _ rbX
      simp only [zeroEd, List.getElem?_toArray, List.getElem?_cons_zero, List.getElem?_cons_succ] at r0 r1 r2 r3
      obtain ⟨-, -, A5, c5, b5, am, hx5, -, -, -, -, hs5⟩ := E6.out.cu
      have y5 := cell_of_row _ _ 1 _ _ (0, 0) hx5
      simp only [List.getElem?_toArray, List.getElem?_cons_zero, List.getElem?_cons_succ] at y5
      have HDX := Lib.hid ((rdec_eq b).symm.trans (rdec_edP b))
      have HS5 := Lib.hid hs5
      have HNO : Hid (SaysDec w none (.returned (.tuple #[.agg zeroEd, .int .i64 3])) ((((w6.setCell ⟨w.heap.size, 0, none⟩ (.slice none 0 0)).setCell ⟨w.heap.size, 1, none⟩ (.slice none 0 0)).setCell ⟨w.heap.size, 2, none⟩ (.int .i64 0)).setCell ⟨w.heap.size, 3, none⟩ (.int .i64 0))) := Lib.hid ⟨(((E6.out.below.setCell (by simp) _).setCell (by simp) _).setCell (by simp) _).setCell (by simp) _, rfl⟩
      have HC2 : ∀ Y, (⟨b.toArray⟩ : ByteArray) = Y → (convert 37 9 (.slice A b.length c)).run Tryz.prog w6 = .ok (.string Y) w6 := fun Y hY => strB_to (c := c) (HRB0.out.below E6.out.below (Nat.le_refl _)) hY
      clear hb6 hx5 rbX hs5 HKE
      rcases hr6 with ⟨hok, rfl⟩ | ⟨hok, A6, c6, rfl, ho6⟩
      · have HDN : Hid (dec b = none) := Lib.hid (by
          have hok' : okE ⟨L.map Vf.fi, D, a1.1, a2.1⟩ = false := hok
          rw [HDX.out]
          rcases HED.out with ⟨-, h2⟩ | h2
          · rw [h2]; simp
          · rw [h2]; simp [hok'])
        clear hok HC2
        cases am with
        | true =>
          go_wp2_with fail
          refine bodyPost_ret (results_c2v rfl _ _ w.heap.size 27 zeroEd (0, 0) _ rfl (heap4v HRB.out) Tryz.underlying27 rfl edit_size) rfl ?_
          rw [HDN.out]
          exact HNO.out
        | false =>
          go_wp2_with fail
          refine bodyPost_ret (results_c2v rfl _ _ w.heap.size 27 zeroEd (0, 0) _ rfl (heap4v HRB.out) Tryz.underlying27 rfl edit_size) rfl ?_
          rw [HDN.out]
          exact HNO.out
      have HOK := Lib.hid hok
      obtain ⟨ed, hed⟩ : ∃ ed, ed = enc (Ev.ed ⟨OA, oc, L, DA, dc, D, a1.1, a2.1⟩) := ⟨_, rfl⟩
      rw [← hed] at ho6 ⊢
      have HEQ := Lib.hid hed
      clear hok hed
      obtain ⟨X, hX⟩ : ∃ X, (⟨ed.toArray⟩ : ByteArray) = X := ⟨_, rfl⟩
      obtain ⟨Y, hY⟩ : ∃ Y, (⟨b.toArray⟩ : ByteArray) = Y := ⟨_, rfl⟩
      have cv1 := strB_to (c := c6) ho6.rd hX
      have cv2 := HC2 Y hY
      have HXY : Hid (X = Y ↔ ed = b) := Lib.hid (by
        rw [← hX, ← hY]
        constructor
        · intro e
          injection e with e
          simpa using congrArg Array.toList e
        · intro e; rw [e])
      have HTL := Lib.hid (less_to hX hY).2
      clear HC2 hX hY ho6
      cases am with
      | true =>
        have HDN : Hid (dec b = none) := Lib.hid (by
          have h5 : a2.2 = none := by rw [HS5.out]; rfl
          rw [HDX.out]
          rcases HED.out with ⟨-, h2⟩ | h2
          · rw [h2]; simp
          · rw [h2, h5]; simp)
        go_wp2_with fail
        refine bodyPost_ret (results_c2v rfl _ _ w.heap.size 27 zeroEd (0, 0) _ rfl (heap4v HRB.out) Tryz.underlying27 rfl edit_size) rfl ?_
        rw [HDN.out]
        exact HNO.out
      | false =>
        have h5 : a2.2 = some b5 := by rw [HS5.out]; rfl
        have HE2 : Hid (edP 1099511627776 51 1099511627776 1099511627776 b = (⟨L.map Vf.fi, D, a1.1, a2.1⟩, some b5)) := Lib.hid (by
          rcases HED.out with ⟨h1, -⟩ | h2
          · rw [h5] at h1; cases h1
          · rw [h2, h5])
        clear h5
        by_cases hxy : ed = b
        · have hx1 : X = Y := HXY.out.2 hxy
          have HDN : Hid (dec b = some ⟨L.map Vf.fi, D, a1.1, a2.1⟩) := Lib.hid (by
            have q1 : okE ⟨L.map Vf.fi, D, a1.1, a2.1⟩ = true := HOK.out
            have q2 : enc ⟨L.map Vf.fi, D, a1.1, a2.1⟩ = b := by rw [← hxy, HEQ.out]; rfl
            rw [HDX.out, HE2.out]; simp [q1, q2])
          subst hx1
          clear hxy
          go_wp2_with fail
          refine bodyPost_ret (results_c2v rfl _ _ w.heap.size 27 #[.slice OA L.length oc, .slice DA D.length dc, .int .i64 (a1.1 : Int), .int .i64 (a2.1 : Int)] (0, 0) _ rfl (heap4v HRB.out) Tryz.underlying27 rfl edit_size) rfl ?_
          rw [HDN.out]
          have hne : ∀ {q : Nat} {T : TypeId}, Sto.Tag w6 q T → T ≠ 27 → ((((w6.setCell ⟨w.heap.size, 0, none⟩ (.slice OA L.length oc)).setCell ⟨w.heap.size, 1, none⟩ (.slice DA D.length dc)).setCell ⟨w.heap.size, 2, none⟩ (.int .i64 (a1.1 : Int))).setCell ⟨w.heap.size, 3, none⟩ (.int .i64 (a2.1 : Int))).heap[q]? = w6.heap[q]? := fun {q T} t hT => by
            have hq := t.ne ⟨_, _, HRB.out⟩ hT
            rw [heap_setCell_other _ ⟨w.heap.size, 3, none⟩ _ _ hq, heap_setCell_other _ ⟨w.heap.size, 2, none⟩ _ _ hq, heap_setCell_other _ ⟨w.heap.size, 1, none⟩ _ _ hq, heap_setCell_other _ ⟨w.heap.size, 0, none⟩ _ _ hq]
          refine ⟨(((E6.out.below.setCell (by simp) _).setCell (by simp) _).setCell (by simp) _).setCell (by simp) _, ⟨OA, oc, L, DA, dc, D, a1.1, a2.1⟩, rfl, rfl, E6.out.ow.keep (by simp) (fun q e => ?_), E6.out.dw.keep (fun q e => hne (Sto.ownTagS E6.out.dw e) (by decide))⟩
          rcases e with e | ⟨v', hv', e⟩
          · exact hne (Sto.ownTagS E6.out.ow.row e) (by decide)
          · exact hne ((E6.out.ow.own v' hv').at_ e).2 (by decide)
        · have hx1 : ¬ X = Y := fun e => hxy (HXY.out.1 e)
          have HDN : Hid (dec b = none) := Lib.hid (by
            have q2 : ¬ enc ⟨L.map Vf.fi, D, a1.1, a2.1⟩ = b := fun e => hxy (by rw [HEQ.out]; exact e)
            rw [HDX.out, HE2.out]; simp [q2])
          have hx2 : (X.toList == Y.toList) = false := by rw [HTL.out]; simpa using hxy
          have hx3 : (!X.toList == Y.toList) = true := by rw [hx2]; rfl
          clear hxy
          go_wp2_with fail
          refine bodyPost_ret (results_c2v rfl _ _ w.heap.size 27 zeroEd (0, 0) _ rfl (heap4v HRB.out) Tryz.underlying27 rfl edit_size) rfl ?_
          rw [HDN.out]
          exact HNO.out
end Ver
end Go.Proofs.YtgmnhdkdicgkcaaGreatDoor
