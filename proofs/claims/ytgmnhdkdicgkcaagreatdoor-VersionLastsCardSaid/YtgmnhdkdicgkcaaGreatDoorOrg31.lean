/- Parts of the proof, one behind the other: Contract: the reference's Decode. -/
import Derived.Test.YtgmnhdkdicgkcaaGreatDoorOrg30
import Derived.Deep.CutBlock
namespace Go.Proofs.YtgmnhdkdicgkcaaGreatDoor
open Go.RowKit Go.Maps
namespace Ver
structure Dr (w0 : World) (s : Os) (OA : Option Addr) (oc : Nat) (L : List Vf) (DA : Option Addr) (dc : Nat) (D : List Int) (g x : Int) (W : World) : Prop where
 cu : Ct W w0.heap.size (w0.heap.size + 1) s
 rb : W.heap[w0.heap.size]? = some (.cells zeroEd 27)
 ob : W.heap[w0.heap.size + 2]? = some (.cells #[.slice OA L.length oc, .slice DA D.length dc, .int .i64 g, .int .i64 x] 27)
 ow : OwV W w0.heap.size OA oc L
 dw : OwnS Sto.I1 1 W w0.heap.size 3 DA dc D
 below : Below w0.heap.size w0 W
section
variable {w0 W W' : World} {s s' : Os} {OA DA : Option Addr} {oc dc : Nat} {L : List Vf} {D : List Int} {g x : Int} {base gc : Nat}
theorem Ct.kept (h : Ct W base gc s) (hs : W.heap.size ≤ W'.heap.size) (hk : ∀ q, q < W.heap.size → (q < base ∨ Sto.Tag W q 5 ∨ Sto.Tag W q 100) → W'.heap[q]? = W.heap[q]?) : Ct W' base gc s := by
 obtain ⟨hbs, hgc, A, c, b, am, hx, hkk, h1, h2, h3, hs'⟩ := h
 exact ⟨Nat.le_trans hbs hs, hgc, A, c, b, am, (hk _ (Array.getElem?_eq_some_iff.1 hx).1 (.inr (.inr ⟨_, _, hx⟩))).trans hx,
   hkk.keep hs (fun hn k e => hk k (hkk.lt hn hbs e) ((hkk.at_ hn k e).imp id .inl)), h1, h2, h3, hs'⟩
theorem Dr.bs (h : Dr w0 s OA oc L DA dc D g x W) : w0.heap.size + 2 < W.heap.size := (Array.getElem?_eq_some_iff.1 h.ob).1
theorem Dr.aft (h : Dr w0 s OA oc L DA dc D g x W) (hc : Ct W' w0.heap.size (w0.heap.size + 1) s') (ha : AftC W W' w0.heap.size) : Dr w0 s' OA oc L DA dc D g x W' := by
 have hb := h.bs
 refine ⟨hc, (Ref.Aft.tag ha ⟨_, _, h.rb⟩ (by decide)).trans h.rb, (Ref.Aft.tag ha ⟨_, _, h.ob⟩ (by decide)).trans h.ob, h.ow.keep ha.size (fun q e => ?_), h.dw.keep (fun q e => Ref.Aft.tag ha (Sto.ownTagS h.dw e) (by decide)), h.below.trans ⟨ha.os, ha.tape, ha.output, ha.size, fun k hk => ha.block k (by omega) (.inl hk)⟩⟩
 rcases e with e | ⟨v, hv, e⟩
 · exact Ref.Aft.tag ha (Sto.ownTagS h.ow.row e) (by decide)
 · exact Ref.Aft.tag ha ((h.ow.own v hv).at_ e).2 (by decide)
theorem Dr.low (h : Dr w0 s OA oc L DA dc D g x W) (hb : Below W.heap.size W W') : Dr w0 s OA oc L DA dc D g x W' := h.aft (h.cu.low hb) (AftC.of_below hb)
theorem Dr.alloc (h : Dr w0 s OA oc L DA dc D g x W) (o : Obj) : Dr w0 s OA oc L DA dc D g x (W.alloc o) := h.low ((Below.refl _ _).alloc (Nat.le_refl _) o)
theorem Dr.o (h : Dr w0 s OA oc L DA dc D g x W) : W.cell? ⟨w0.heap.size + 2, 0, none⟩ = some (.slice OA L.length oc) ∧ W.cell? ⟨w0.heap.size + 2, 1, none⟩ = some (.slice DA D.length dc) ∧ W.cell? ⟨w0.heap.size + 2, 2, none⟩ = some (.int .i64 g) ∧ W.cell? ⟨w0.heap.size + 2, 3, none⟩ = some (.int .i64 x) := by
 have h1 := h.ob
 refine ⟨?_, ?_, ?_, ?_⟩ <;> (rw [cell_of_row _ _ _ _ _ (0, 0) h1]; rfl)
theorem Dr.f (h : Dr w0 s OA oc L DA dc D g x W) (j : Nat) : W.frozen? ⟨w0.heap.size + 2, j, none⟩ = false := frozen_of_row _ _ _ _ _ h.ob
theorem Dr.fin (h : Dr w0 s OA oc L DA dc D g x W) (g' x' : Int) : Dr w0 s OA oc L DA dc D g' x' ((W.setCell ⟨w0.heap.size + 2, 2, none⟩ (.int .i64 g')).setCell ⟨w0.heap.size + 2, 3, none⟩ (.int .i64 x')) := by
 have hb := h.bs
 have ht : Sto.Tag W (w0.heap.size + 2) 27 := ⟨_, _, h.ob⟩
 have hoth : ∀ q, q ≠ w0.heap.size + 2 → ((W.setCell ⟨w0.heap.size + 2, 2, none⟩ (.int .i64 g')).setCell ⟨w0.heap.size + 2, 3, none⟩ (.int .i64 x')).heap[q]? = W.heap[q]? := fun q hq => (heap_setCell_other _ ⟨w0.heap.size + 2, 3, none⟩ q _ hq).trans (heap_setCell_other W ⟨w0.heap.size + 2, 2, none⟩ q _ hq)
 refine ⟨h.cu.kept (by simp) (fun q hq hc => hoth q ?_), (hoth _ (by omega)).trans h.rb, ?_, h.ow.keep (by simp) (fun q e => hoth q ?_), h.dw.keep (fun q e => hoth q ((Sto.ownTagS h.dw e).ne ht (by decide))), (h.below.setCell (by simp) _).setCell (by simp) _⟩
 · rcases hc with hc | hc | hc
   · omega
   · exact hc.ne ht (by decide)
   · exact hc.ne ht (by decide)
 · have h1 := heap_setCell_same W (w0.heap.size + 2) 2 _ _ (.int .i64 g') h.ob
   have h2 := heap_setCell_same _ (w0.heap.size + 2) 3 _ _ (.int .i64 x') h1
   simpa using h2
 · rcases e with e | ⟨v', hv', e⟩
   · exact (Sto.ownTagS h.ow.row e).ne ht (by decide)
   · exact ((h.ow.own v' hv').at_ e).2.ne ht (by decide)
theorem Dr.app {v : Vf} {A' : Option Addr} {c' : Nat} {L' : List Vf} (h : Dr w0 s OA oc L DA dc D g x W) (hv : VfOwn W w0.heap.size v) (hg : W.grownBy W' (blk OA)) (hL : L' = L ++ [v]) (ho : OwnS Vf.cells 6 W' w0.heap.size 43 A' c' L') :
   Dr w0 s A' c' (L ++ [v]) DA dc D g x (W'.setCell ⟨w0.heap.size + 2, 0, none⟩ (.slice A' L'.length c')) ∧ W'.heap[w0.heap.size + 2]? = W.heap[w0.heap.size + 2]? := by
 subst hL
 have hb := h.bs
 have key : ∀ q T, Sto.Tag W q T → T ≠ 43 → W'.heap[q]? = W.heap[q]? := fun q T t hn => hg.block q t.lt (fun e => (Sto.ownTagS h.ow.row e.symm).ne t (fun e => hn e.symm) rfl)
 have hlow : ∀ q, q < w0.heap.size → W'.heap[q]? = W.heap[q]? := fun q hq => hg.block q (by omega) (fun e => by have := (h.ow.row.blk_ge q e.symm).1; omega)
 have e3 := key _ _ ⟨_, _, h.ob⟩ (by decide)
 have e4 := e3.trans h.ob
 have hOw := h.ow.app hg ho (fun v' hv' => by rw [List.mem_singleton] at hv'; subst hv'; exact hv)
 have hoth : ∀ q, q ≠ w0.heap.size + 2 → (W'.setCell ⟨w0.heap.size + 2, 0, none⟩ (.slice A' (L ++ [v]).length c')).heap[q]? = W'.heap[q]? := fun q hq => box_set_other hq _
 have ht4 : Sto.Tag W' (w0.heap.size + 2) 27 := ⟨_, _, e4⟩
 refine ⟨⟨h.cu.kept (by have := hg.size; simp; omega) (fun q hq hc => ?_), ?_, ?_, hOw.keep (by simp) (fun q e => ?_), ?_, ?_⟩, e3⟩
 · rcases hc with hc | hc | hc
   · exact (hoth q (by omega)).trans (hlow q hc)
   · exact (hoth q (hc.ne ⟨_, _, h.ob⟩ (by decide))).trans (key q _ hc (by decide))
   · exact (hoth q (hc.ne ⟨_, _, h.ob⟩ (by decide))).trans (key q _ hc (by decide))
 · exact (hoth _ (by omega)).trans ((key _ _ ⟨_, _, h.rb⟩ (by decide)).trans h.rb)
 · have := heap_setCell_same W' (w0.heap.size + 2) 0 _ _ (.slice A' (L ++ [v]).length c') e4
   simpa using this
 · rcases e with e | ⟨v', hv', e⟩
   · exact hoth q ((Sto.ownTagS hOw.row e).ne ht4 (by decide))
   · exact hoth q (((hOw.own v' hv').at_ e).2.ne ht4 (by decide))
 · exact (h.dw.keep (fun q e => key q _ (Sto.ownTagS h.dw e) (by decide))).keep (fun q e => hoth q ((Sto.Tag.keep (Sto.ownTagS h.dw e) (key q _ (Sto.ownTagS h.dw e) (by decide))).ne ht4 (by decide)))
 · exact (below_grow h.below hg (fun g e => (h.ow.row.blk_ge g e).1) (by omega)).setCell (by simp) _
theorem Dr.appN {n : Int} {A' : Option Addr} {c' : Nat} {D' : List Int} (h : Dr w0 s OA oc L DA dc D g x W) (hg : W.grownBy W' (blk DA)) (hL : D' = D ++ [n]) (ho : OwnS Sto.I1 1 W' w0.heap.size 3 A' c' D') :
   Dr w0 s OA oc L A' c' (D ++ [n]) g x (W'.setCell ⟨w0.heap.size + 2, 1, none⟩ (.slice A' D'.length c')) ∧ W'.heap[w0.heap.size + 2]? = W.heap[w0.heap.size + 2]? := by
 subst hL
 have hb := h.bs
 have key : ∀ q T, Sto.Tag W q T → T ≠ 3 → W'.heap[q]? = W.heap[q]? := fun q T t hn => hg.block q t.lt (fun e => (Sto.ownTagS h.dw e.symm).ne t (fun e => hn e.symm) rfl)
 have hlow : ∀ q, q < w0.heap.size → W'.heap[q]? = W.heap[q]? := fun q hq => hg.block q (by omega) (fun e => by have := (h.dw.blk_ge q e.symm).1; omega)
 have e3 := key _ _ ⟨_, _, h.ob⟩ (by decide)
 have e4 := e3.trans h.ob
 have hoth : ∀ q, q ≠ w0.heap.size + 2 → (W'.setCell ⟨w0.heap.size + 2, 1, none⟩ (.slice A' (D ++ [n]).length c')).heap[q]? = W'.heap[q]? := fun q hq => heap_setCell_other W' ⟨w0.heap.size + 2, 1, none⟩ q _ hq
 have ht4 : Sto.Tag W' (w0.heap.size + 2) 27 := ⟨_, _, e4⟩
 have kk : ∀ q T, Sto.Tag W q T → T ≠ 3 → T ≠ 27 → (W'.setCell ⟨w0.heap.size + 2, 1, none⟩ (.slice A' (D ++ [n]).length c')).heap[q]? = W.heap[q]? := fun q T t h1 h2 => (hoth q (t.ne ⟨_, _, h.ob⟩ h2)).trans (key q T t h1)
 refine ⟨⟨h.cu.kept (by have := hg.size; simp; omega) (fun q hq hc => ?_), ?_, ?_, h.ow.keep (by have := hg.size; simp; omega) (fun q e => ?_), ?_, ?_⟩, e3⟩
 · rcases hc with hc | hc | hc
   · exact (hoth q (by omega)).trans (hlow q hc)
   · exact kk q _ hc (by decide) (by decide)
   · exact kk q _ hc (by decide) (by decide)
 · exact (hoth _ (by omega)).trans ((key _ _ ⟨_, _, h.rb⟩ (by decide)).trans h.rb)
 · have := heap_setCell_same W' (w0.heap.size + 2) 1 _ _ (.slice A' (D ++ [n]).length c') e4
   simpa using this
 · rcases e with e | ⟨v', hv', e⟩
   · exact kk q _ (Sto.ownTagS h.ow.row e) (by decide) (by decide)
   · exact kk q _ ((h.ow.own v' hv').at_ e).2 (by decide) (by decide)
 · exact ho.keep (fun q e => hoth q ((Sto.ownTagS ho e).ne ht4 (by decide)))
 · exact (below_grow h.below hg (fun g e => (h.dw.blk_ge g e).1) (by omega)).setCell (by simp) _
end
end Ver
end Go.Proofs.YtgmnhdkdicgkcaaGreatDoor
