/- Parts of the proof, one behind the other: Contract: version.Decode.; The reference's Cut: Number and Text. -/
import Derived.Test.YtgmnhdkdicgkcaaGreatDoorOrg29
namespace Go.Proofs.YtgmnhdkdicgkcaaGreatDoor
open Go.RowKit Go.Maps
open Lib (hid)
theorem results_c2v {P : Program} {fn : Func} {p u : Tmp} {ty : TypeId} (h : fn.results = #[.cell p ty, .tmp u]) (tmps : Array Value) (w : World) (g : Nat) (t : TypeId) (cs : Array Value) (fr : Nat × Nat) (d : TypeDesc)
   (hp : tmps.getD p undef = .pointer (some ⟨g, 0, none⟩)) (hg : w.heap[g]? = some (.cells cs t fr)) (hu : P.underlying ty = some d) (hd : (match d, hu with | .struct _, _ => true | .array _ _, _ => true | _, _ => false) = true) (hs : (P.info? ty).map (fun x => x.size) = some cs.size) :
   (results fn tmps).run P w = .ok (.tuple #[.agg cs, tmps.getD u undef]) w := by
 have h1 := results_cell_row (P := P) (fn := { fn with results := #[.cell p ty] }) (p := p) (ty := ty) rfl tmps w g t cs fr d hp hg hu hd hs
 have h2 : ((asAddr (tmps.getD p undef)).run P w).andThen (fun a w1 => (loadVar ty a).run P w1) = .ok (.agg cs) w := by
   simpa [results] using h1
 rw [hp] at h2
 have h3 : (loadVar ty ⟨g, 0, none⟩).run P w = .ok (.agg cs) w := by simpa [asAddr] using h2
 have hp2 := hp
 simp at hp2
 simp [results, h, asAddr, hp2, h3]
theorem edit_size : (Tryz.prog.info? 27).map (fun x => x.size) = some 4 := by kernel_rfl
theorem step_callc_dv {P : Program} {w : World} {ops : Array Oper} {o : Oper} {a : Act} {K : Act → World → Prop} {Q : Exit → Act → World → Prop} {E : Prop} (hgd : o.guard = none) (d : Option Tmp) (hd : o.dst = d) {f : Nat} {cb : List Value} (y x : Operand) {ats : Array TypeId}
   (ho : o.op = .call { callee := .value y, args := #[x], argTypes := ats }) (hy : a.eval y = .func (.func f) #[] cb.toArray) (vx : Value) (hx : a.eval x = vx) (hen : ∀ args w, (callFunc f args).run P w = .ok (.enter f args) w) (R : Ending → World → Prop) (hc : Calls P f (vx :: cb).toArray w R)
   (h : ∀ e w', R e w' → ∃ v, e = .returned v ∧ K (a.put d v) w') : if Region.wanted o (yielded ops a.tmps) = true then Oper.wp P o a w K Q else E := by
 subst hd hx
 have hw : Region.wanted o (yielded ops a.tmps) = true := by simp [Region.wanted, hgd]
 rw [if_pos hw]
 unfold Oper.wp execOp
 have e1 : a.eval y = .func (.func f) #[] cb.toArray := hy
 simp [ho, resolve, invoke, Deferred.ofValue, e1, hen]
 rw [Oper.upon_enter]
 refine hc.mono ?_
 intro e w' hr
 obtain ⟨v, rfl, hk⟩ := h e w' hr
 exact hk
--MAIN
namespace Ver
def zeroEd : Array Value := #[.slice none 0 0, .slice none 0 0, .int .i64 0, .int .i64 0]
structure De (w0 : World) (s : Os) (OA : Option Addr) (oc : Nat) (L : List Vf) (DA : Option Addr) (dc : Nat) (D : List Int) (g x : Int) (W : World) : Prop where
 cu : Cu W w0.heap.size w0.heap.size (w0.heap.size + 2) s
 rb : W.heap[w0.heap.size + 1]? = some (.cells zeroEd 27)
 ob : W.heap[w0.heap.size + 3]? = some (.cells #[.slice OA L.length oc, .slice DA D.length dc, .int .i64 g, .int .i64 x] 27)
 ow : OwV W w0.heap.size OA oc L
 dw : OwnS Sto.I1 1 W w0.heap.size 3 DA dc D
 below : Below w0.heap.size w0 W
section
variable {w0 W W' : World} {s s' : Os} {OA DA : Option Addr} {oc dc : Nat} {L : List Vf} {D : List Int} {g x : Int} {base gb ga : Nat}
theorem Cu.low (h : Cu W base gb ga s) (hb : Below W.heap.size W W') : Cu W' base gb ga s := by
 obtain ⟨hbs, hgb, hga, A, c, b, am, hx, hy, hk, h1, h2, h3, hs⟩ := h
 exact ⟨Nat.le_trans hbs hb.size, hgb, hga, A, c, b, am, (hb.block _ (Array.getElem?_eq_some_iff.1 hx).1).trans hx, (hb.block _ (Array.getElem?_eq_some_iff.1 hy).1).trans hy, hk.below hbs hb, h1, h2, h3, hs⟩
theorem Cu.kept (h : Cu W base gb ga s) (hs : W.heap.size ≤ W'.heap.size) (hk : ∀ q, q < W.heap.size → (q < base ∨ Sto.Tag W q 5 ∨ Sto.Tag W q 37 ∨ Sto.Tag W q 4) → W'.heap[q]? = W.heap[q]?) : Cu W' base gb ga s := by
 obtain ⟨hbs, hgb, hga, A, c, b, am, hx, hy, hkk, h1, h2, h3, hs'⟩ := h
 exact ⟨Nat.le_trans hbs hs, hgb, hga, A, c, b, am, (hk _ (Array.getElem?_eq_some_iff.1 hx).1 (.inr (.inr (.inl ⟨_, _, hx⟩)))).trans hx, (hk _ (Array.getElem?_eq_some_iff.1 hy).1 (.inr (.inr (.inr ⟨_, _, hy⟩)))).trans hy,
   hkk.keep hs (fun hn k e => hk k (hkk.lt hn hbs e) ((hkk.at_ hn k e).imp id .inl)), h1, h2, h3, hs'⟩
theorem De.bs (h : De w0 s OA oc L DA dc D g x W) : w0.heap.size + 3 < W.heap.size := (Array.getElem?_eq_some_iff.1 h.ob).1
theorem De.aft (h : De w0 s OA oc L DA dc D g x W) (hc : Cu W' w0.heap.size w0.heap.size (w0.heap.size + 2) s') (ha : AftN W W' w0.heap.size) : De w0 s' OA oc L DA dc D g x W' := by
 have hb := h.bs
 refine ⟨hc, (Ref.Aft.tag ha ⟨_, _, h.rb⟩ (by decide)).trans h.rb, (Ref.Aft.tag ha ⟨_, _, h.ob⟩ (by decide)).trans h.ob, h.ow.keep ha.size (fun q e => ?_), h.dw.keep (fun q e => Ref.Aft.tag ha (Sto.ownTagS h.dw e) (by decide)), h.below.trans ⟨ha.os, ha.tape, ha.output, ha.size, fun k hk => ha.block k (by omega) (.inl hk)⟩⟩
 rcases e with e | ⟨v, hv, e⟩
 · exact Ref.Aft.tag ha (Sto.ownTagS h.ow.row e) (by decide)
 · exact Ref.Aft.tag ha ((h.ow.own v hv).at_ e).2 (by decide)
theorem De.low (h : De w0 s OA oc L DA dc D g x W) (hb : Below W.heap.size W W') : De w0 s OA oc L DA dc D g x W' := h.aft (h.cu.low hb) (AftN.of_below hb)
theorem De.alloc (h : De w0 s OA oc L DA dc D g x W) (o : Obj) : De w0 s OA oc L DA dc D g x (W.alloc o) := h.low ((Below.refl _ _).alloc (Nat.le_refl _) o)
theorem De.o (h : De w0 s OA oc L DA dc D g x W) : W.cell? ⟨w0.heap.size + 3, 0, none⟩ = some (.slice OA L.length oc) ∧ W.cell? ⟨w0.heap.size + 3, 1, none⟩ = some (.slice DA D.length dc) ∧ W.cell? ⟨w0.heap.size + 3, 2, none⟩ = some (.int .i64 g) ∧ W.cell? ⟨w0.heap.size + 3, 3, none⟩ = some (.int .i64 x) := by
 have h1 := h.ob
 refine ⟨?_, ?_, ?_, ?_⟩ <;> (rw [cell_of_row _ _ _ _ _ (0, 0) h1]; rfl)
theorem De.f (h : De w0 s OA oc L DA dc D g x W) (j : Nat) : W.frozen? ⟨w0.heap.size + 3, j, none⟩ = false := frozen_of_row _ _ _ _ _ h.ob
theorem De.fin (h : De w0 s OA oc L DA dc D g x W) (g' x' : Int) : De w0 s OA oc L DA dc D g' x' ((W.setCell ⟨w0.heap.size + 3, 2, none⟩ (.int .i64 g')).setCell ⟨w0.heap.size + 3, 3, none⟩ (.int .i64 x')) := by
 have hb := h.bs
 have ht : Sto.Tag W (w0.heap.size + 3) 27 := ⟨_, _, h.ob⟩
 have hoth : ∀ q, q ≠ w0.heap.size + 3 → ((W.setCell ⟨w0.heap.size + 3, 2, none⟩ (.int .i64 g')).setCell ⟨w0.heap.size + 3, 3, none⟩ (.int .i64 x')).heap[q]? = W.heap[q]? := fun q hq => (heap_setCell_other _ ⟨w0.heap.size + 3, 3, none⟩ q _ hq).trans (heap_setCell_other W ⟨w0.heap.size + 3, 2, none⟩ q _ hq)
 refine ⟨h.cu.kept (by simp) (fun q hq hc => hoth q ?_), (hoth _ (by omega)).trans h.rb, ?_, h.ow.keep (by simp) (fun q e => hoth q ?_), h.dw.keep (fun q e => hoth q ((Sto.ownTagS h.dw e).ne ht (by decide))), (h.below.setCell (by simp) _).setCell (by simp) _⟩
 · rcases hc with hc | hc | hc | hc
   · omega
   · exact hc.ne ht (by decide)
   · exact hc.ne ht (by decide)
   · exact hc.ne ht (by decide)
 · have h1 := heap_setCell_same W (w0.heap.size + 3) 2 _ _ (.int .i64 g') h.ob
   have h2 := heap_setCell_same _ (w0.heap.size + 3) 3 _ _ (.int .i64 x') h1
   simpa using h2
 · rcases e with e | ⟨v', hv', e⟩
   · exact (Sto.ownTagS h.ow.row e).ne ht (by decide)
   · exact ((h.ow.own v' hv').at_ e).2.ne ht (by decide)
theorem De.app {v : Vf} {A' : Option Addr} {c' : Nat} {L' : List Vf} (h : De w0 s OA oc L DA dc D g x W) (hv : VfOwn W w0.heap.size v) (hg : W.grownBy W' (blk OA)) (hL : L' = L ++ [v]) (ho : OwnS Vf.cells 6 W' w0.heap.size 43 A' c' L') :
   De w0 s A' c' (L ++ [v]) DA dc D g x (W'.setCell ⟨w0.heap.size + 3, 0, none⟩ (.slice A' L'.length c')) ∧ W'.heap[w0.heap.size + 3]? = W.heap[w0.heap.size + 3]? := by
 subst hL
 have hb := h.bs
 have key : ∀ q T, Sto.Tag W q T → T ≠ 43 → W'.heap[q]? = W.heap[q]? := fun q T t hn => hg.block q t.lt (fun e => (Sto.ownTagS h.ow.row e.symm).ne t (fun e => hn e.symm) rfl)
 have hlow : ∀ q, q < w0.heap.size → W'.heap[q]? = W.heap[q]? := fun q hq => hg.block q (by omega) (fun e => by have := (h.ow.row.blk_ge q e.symm).1; omega)
 have e3 := key _ _ ⟨_, _, h.ob⟩ (by decide)
 have e4 := e3.trans h.ob
 have hOw := h.ow.app hg ho (fun v' hv' => by rw [List.mem_singleton] at hv'; subst hv'; exact hv)
 have hoth : ∀ q, q ≠ w0.heap.size + 3 → (W'.setCell ⟨w0.heap.size + 3, 0, none⟩ (.slice A' (L ++ [v]).length c')).heap[q]? = W'.heap[q]? := fun q hq => box_set_other hq _
 have ht4 : Sto.Tag W' (w0.heap.size + 3) 27 := ⟨_, _, e4⟩
 refine ⟨⟨h.cu.kept (by have := hg.size; simp; omega) (fun q hq hc => ?_), ?_, ?_, hOw.keep (by simp) (fun q e => ?_), ?_, ?_⟩, e3⟩
 · rcases hc with hc | hc | hc | hc
   · exact (hoth q (by omega)).trans (hlow q hc)
   · exact (hoth q (hc.ne ⟨_, _, h.ob⟩ (by decide))).trans (key q _ hc (by decide))
   · exact (hoth q (hc.ne ⟨_, _, h.ob⟩ (by decide))).trans (key q _ hc (by decide))
   · exact (hoth q (hc.ne ⟨_, _, h.ob⟩ (by decide))).trans (key q _ hc (by decide))
 · exact (hoth _ (by omega)).trans ((key _ _ ⟨_, _, h.rb⟩ (by decide)).trans h.rb)
 · have := heap_setCell_same W' (w0.heap.size + 3) 0 _ _ (.slice A' (L ++ [v]).length c') e4
   simpa using this
 · rcases e with e | ⟨v', hv', e⟩
   · exact hoth q ((Sto.ownTagS hOw.row e).ne ht4 (by decide))
   · exact hoth q (((hOw.own v' hv').at_ e).2.ne ht4 (by decide))
 · exact (h.dw.keep (fun q e => key q _ (Sto.ownTagS h.dw e) (by decide))).keep (fun q e => hoth q ((Sto.Tag.keep (Sto.ownTagS h.dw e) (key q _ (Sto.ownTagS h.dw e) (by decide))).ne ht4 (by decide)))
 · exact (below_grow h.below hg (fun g e => (h.ow.row.blk_ge g e).1) (by omega)).setCell (by simp) _
theorem De.appN {n : Int} {A' : Option Addr} {c' : Nat} {D' : List Int} (h : De w0 s OA oc L DA dc D g x W) (hg : W.grownBy W' (blk DA)) (hL : D' = D ++ [n]) (ho : OwnS Sto.I1 1 W' w0.heap.size 3 A' c' D') :
   De w0 s OA oc L A' c' (D ++ [n]) g x (W'.setCell ⟨w0.heap.size + 3, 1, none⟩ (.slice A' D'.length c')) ∧ W'.heap[w0.heap.size + 3]? = W.heap[w0.heap.size + 3]? := by
 subst hL
 have hb := h.bs
 have key : ∀ q T, Sto.Tag W q T → T ≠ 3 → W'.heap[q]? = W.heap[q]? := fun q T t hn => hg.block q t.lt (fun e => (Sto.ownTagS h.dw e.symm).ne t (fun e => hn e.symm) rfl)
 have hlow : ∀ q, q < w0.heap.size → W'.heap[q]? = W.heap[q]? := fun q hq => hg.block q (by omega) (fun e => by have := (h.dw.blk_ge q e.symm).1; omega)
 have e3 := key _ _ ⟨_, _, h.ob⟩ (by decide)
 have e4 := e3.trans h.ob
 have hoth : ∀ q, q ≠ w0.heap.size + 3 → (W'.setCell ⟨w0.heap.size + 3, 1, none⟩ (.slice A' (D ++ [n]).length c')).heap[q]? = W'.heap[q]? := fun q hq => heap_setCell_other W' ⟨w0.heap.size + 3, 1, none⟩ q _ hq
 have ht4 : Sto.Tag W' (w0.heap.size + 3) 27 := ⟨_, _, e4⟩
 have kk : ∀ q T, Sto.Tag W q T → T ≠ 3 → T ≠ 27 → (W'.setCell ⟨w0.heap.size + 3, 1, none⟩ (.slice A' (D ++ [n]).length c')).heap[q]? = W.heap[q]? := fun q T t h1 h2 => (hoth q (t.ne ⟨_, _, h.ob⟩ h2)).trans (key q T t h1)
 refine ⟨⟨h.cu.kept (by have := hg.size; simp; omega) (fun q hq hc => ?_), ?_, ?_, h.ow.keep (by have := hg.size; simp; omega) (fun q e => ?_), ?_, ?_⟩, e3⟩
 · rcases hc with hc | hc | hc | hc
   · exact (hoth q (by omega)).trans (hlow q hc)
   · exact kk q _ hc (by decide) (by decide)
   · exact kk q _ hc (by decide) (by decide)
   · exact kk q _ hc (by decide) (by decide)
 · exact (hoth _ (by omega)).trans ((key _ _ ⟨_, _, h.rb⟩ (by decide)).trans h.rb)
 · have := heap_setCell_same W' (w0.heap.size + 3) 1 _ _ (.slice A' (D ++ [n]).length c') e4
   simpa using this
 · rcases e with e | ⟨v', hv', e⟩
   · exact kk q _ (Sto.ownTagS h.ow.row e) (by decide) (by decide)
   · exact kk q _ ((h.ow.own v' hv').at_ e).2 (by decide) (by decide)
 · exact ho.keep (fun q e => hoth q ((Sto.ownTagS ho e).ne ht4 (by decide)))
 · exact (below_grow h.below hg (fun g e => (h.dw.blk_ge g e).1) (by omega)).setCell (by simp) _
end
theorem rd_vf_newN (w : World) (v : Vf) {N : Nat} (hN : w.heap.size = N) : RdS Vf.cells 6 (w.alloc (.cells v.cells.toArray 43)) (N + 1) (some ⟨N, 0, none⟩) [v] := by
 subst hN
 exact rd_vf_new w v
theorem rd_intN (w : World) (n : Int) {N : Nat} (hN : w.heap.size = N) : RdS Sto.I1 1 (w.alloc (.cells #[.int .i64 n] 3)) (N + 1) (some ⟨N, 0, none⟩) [n] := by
 subst hN
 have := rd_ints (W := w.alloc (.cells #[.int .i64 n] 3)) (q := w.heap.size) (l := [n]) (T := 3) (heap_alloc_new w _)
 simpa using this
theorem heap4v {w : World} {g : Nat} {x y z u a b c d : Value} {T : TypeId} (h : w.heap[g]? = some (.cells #[x, y, z, u] T)) : ((((w.setCell ⟨g, 0, none⟩ a).setCell ⟨g, 1, none⟩ b).setCell ⟨g, 2, none⟩ c).setCell ⟨g, 3, none⟩ d).heap[g]? = some (.cells #[a, b, c, d] T) := by
 have h1 := heap_setCell_same w g 0 _ T a h
 have h2 := heap_setCell_same _ g 1 _ T b h1
 have h3 := heap_setCell_same _ g 2 _ T c h2
 have h4 := heap_setCell_same _ g 3 _ T d h3
 simpa using h4
def SaysDec (w : World) (d : Option Ed) (r : Ending) (w' : World) : Prop := Below w.heap.size w w' ∧ match d with
 | none => r = .returned (.tuple #[.agg zeroEd, .int .i64 3])
 | some e => ∃ ev : Ev, r = .returned (.tuple #[ev.val, .int .i64 0]) ∧ ev.ed = e ∧ OwV w' w.heap.size ev.A ev.c ev.add ∧ OwnS Sto.I1 1 w' w.heap.size 3 ev.DA ev.dc ev.drop
set_option maxHeartbeats 4000000 in
set_option maxRecDepth 100000 in
theorem decode_any (A : Option Addr) (c : Nat) (b : List UInt8) (w : World) (h : RdB w w.heap.size A b) (hl : b.length ≤ 140737488355328) (hc : b.length ≤ c) (hcc : c ≤ 9223372036854775807) :
   Calls Tryz.prog 17 #[.slice A b.length c] w (SaysDec w (dec b)) := by
 obtain ⟨W0, hW0⟩ : ∃ W0, W0 = (((w.alloc (.cells #[.slice A b.length c] 37)).alloc (.cells zeroEd 27)).alloc (.cells #[.bool false] 4)).alloc (.cells zeroEd 27) := ⟨_, rfl⟩
 have HD0 : Hid (De w (some b) none 0 [] none 0 [] 0 0 W0) := hid (by
   obtain ⟨w1, h1⟩ : ∃ w1, w1 = w.alloc (.cells #[.slice A b.length c] 37) := ⟨_, rfl⟩
   obtain ⟨w2, h2⟩ : ∃ w2, w2 = w1.alloc (.cells zeroEd 27) := ⟨_, rfl⟩
   obtain ⟨w3, h3⟩ : ∃ w3, w3 = w2.alloc (.cells #[.bool false] 4) := ⟨_, rfl⟩
   have h4 : W0 = w3.alloc (.cells zeroEd 27) := by rw [hW0, h3, h2, h1]
   have z1 : w1.heap.size = w.heap.size + 1 := by rw [h1]; simp
   have z2 : w2.heap.size = w.heap.size + 2 := by rw [h2]; simp [z1]
   have z3 : w3.heap.size = w.heap.size + 3 := by rw [h3]; simp [z2]
   have z4 : W0.heap.size = w.heap.size + 4 := by rw [h4]; simp [z3]
   have a1 := heap_alloc_new w (.cells #[.slice A b.length c] 37)
   have a2 := heap_alloc_new w1 (.cells zeroEd 27)
   have a3 := heap_alloc_new w2 (.cells #[.bool false] 4)
   have a4 := heap_alloc_new w3 (.cells zeroEd 27)
   rw [← h1] at a1
   rw [← h2, z1] at a2
   rw [← h3, z2] at a3
   rw [← h4, z3] at a4
   have b2 : Below w1.heap.size w1 w2 := by rw [h2]; exact (Below.refl _ _).alloc (Nat.le_refl _) _
   have b3 : Below w2.heap.size w2 w3 := by rw [h3]; exact (Below.refl _ _).alloc (Nat.le_refl _) _
   have b4 : Below w3.heap.size w3 W0 := by rw [h4]; exact (Below.refl _ _).alloc (Nat.le_refl _) _
   have b1 : Below w.heap.size w w1 := by rw [h1]; exact (Below.refl _ _).alloc (Nat.le_refl _) _
   have hall : Below w.heap.size w W0 := ((b1.trans (b2.mono (by omega))).trans (b3.mono (by omega))).trans (b4.mono (by omega))
   have x1 : W0.heap[w.heap.size]? = _ := (b4.block _ (by omega)).trans ((b3.block _ (by omega)).trans ((b2.block _ (by omega)).trans a1))
   have x2 : W0.heap[w.heap.size + 1]? = _ := (b4.block _ (by omega)).trans ((b3.block _ (by omega)).trans a2)
   have x3 : W0.heap[w.heap.size + 2]? = _ := (b4.block _ (by omega)).trans a3
   exact ⟨⟨by omega, Nat.le_refl _, by omega, A, c, b, false, x1, x3, ⟨(h.below hall (Nat.le_refl _)).more hall.size, fun hn g e => by
     rcases b with _ | ⟨b0, bs⟩
     · exact absurd rfl hn
     · obtain ⟨ad, hA, hlt, _⟩ := h.cell (k := 0) (by simp)
       subst hA
       have e : ad.block = g := by simpa [blk] using e
       exact .inl (by omega)⟩, hc, hcc, hl, rfl⟩, x2, a4, OwV.nil _ _, OwnS.nil _ _ _, hall⟩)
 have HDX := hid (dec_edP b)
 obtain ⟨dd, hdd⟩ : ∃ dd, dd = dec b := ⟨_, rfl⟩
 rw [← hdd] at HDX ⊢
 clear hdd
 unfold zeroEd at hW0
 go_enter Tryz.func17, Tryz.ntmps17
 go_wp2_with fail
 rw [← hW0]
 have HLB : Hid ((numP 50 (some b)).1 ≤ 50) := hid numP_bd
 obtain ⟨y0, hy0⟩ : ∃ y, y = numP 50 (some b) := ⟨_, rfl⟩
 have K0 := number_in 50 W0 _ _ _ _ HD0.out.cu (by omega)
 rw [← hy0] at K0 HLB
 have HK0 := hid K0
 have HY0 := hid hy0
 clear K0 hy0
 refine HK0.out.mono ?_
 rintro e w1 ⟨rfl, hc1, ha1⟩
 have HD1 := hid (HD0.out.aft hc1 ha1)
 obtain ⟨n, s1⟩ := y0
 simp only at HD1 HLB
 clear HD0 hW0 hc1 ha1 HK0
 have hn50 := HLB.out
 go_wp2_with fail
 go_loopw [13] (fun i wr => ∃ (k oc : Nat) (OA : Option Addr) (L : List Vf) (s : Os), k ≤ n ∧ i = .int .i64 (k : Int) ∧ Hid (L.length = k) ∧ Hid (De w s OA oc L none 0 [] 0 0 wr) ∧ Hid (L.map Vf.fi = (filesP 999999 3 k s1).1 ∧ s = (filesP 999999 3 k s1).2)) (fun i _ => n - (intOf i).toNat)
 case atStart => exact ⟨0, 0, none, [], s1, by omega, rfl, hid rfl, HD1, hid ⟨rfl, rfl⟩⟩
 case round =>
   obtain ⟨k, oc, OA, L, s, hk, rfl, HLL, HE, HP⟩ := hrel
   by_cases hlt : k < n
   · obtain ⟨y1, hy1⟩ : ∃ y, y = numP 999999 s := ⟨_, rfl⟩
     obtain ⟨y2, hy2⟩ : ∃ y, y = numP 3 y1.2 := ⟨_, rfl⟩
     obtain ⟨y3, hy3⟩ : ∃ y, y = textP y2.2 := ⟨_, rfl⟩
     obtain ⟨y4, hy4⟩ : ∃ y, y = textP y3.2 := ⟨_, rfl⟩
     obtain ⟨y5, hy5⟩ : ∃ y, y = numP 1099511627776 y4.2 := ⟨_, rfl⟩
     obtain ⟨y6, hy6⟩ : ∃ y, y = numP 1099511627776 y5.2 := ⟨_, rfl⟩
     have HFP : Hid (fileP 999999 3 s = (⟨y1.1, y2.1, y3.1, y4.1, y5.1, y6.1⟩, y6.2)) := hid (by rw [hy6, hy5, hy4, hy3, hy2, hy1]; rfl)
     have G1 : Hid (∀ W, Cu W w.heap.size w.heap.size (w.heap.size + 2) s → _) := hid (fun W h => number_in 999999 W _ _ _ _ h (by omega))
     have G2 : Hid (∀ W, Cu W w.heap.size w.heap.size (w.heap.size + 2) y1.2 → _) := hid (fun W h => number_in 3 W _ _ _ _ h (by omega))
     have G3 : Hid (∀ W, Cu W w.heap.size w.heap.size (w.heap.size + 2) y2.2 → _) := hid (fun W h => text_in W _ _ _ _ h)
     have G4 : Hid (∀ W, Cu W w.heap.size w.heap.size (w.heap.size + 2) y3.2 → _) := hid (fun W h => text_in W _ _ _ _ h)
     have G5 : Hid (∀ W, Cu W w.heap.size w.heap.size (w.heap.size + 2) y4.2 → _) := hid (fun W h => number_in 1099511627776 W _ _ _ _ h (by omega))
     have G6 : Hid (∀ W, Cu W w.heap.size w.heap.size (w.heap.size + 2) y5.2 → _) := hid (fun W h => number_in 1099511627776 W _ _ _ _ h (by omega))
     rw [← hy1] at G1
     rw [← hy2] at G2
     rw [← hy3] at G3
     rw [← hy4] at G4
     rw [← hy5] at G5
     rw [← hy6] at G6
     clear hy1 hy2 hy3 hy4 hy5 hy6
     go_wp2_with fail
     refine (G1.out wr HE.out.cu).mono ?_
     rintro e v1 ⟨rfl, hc, ha⟩
     have E1 := hid (HE.out.aft hc ha)
     clear hc ha
     go_wp2_with fail
     refine (G2.out v1 E1.out.cu).mono ?_
     rintro e v2 ⟨rfl, hc, ha⟩
     have E2 := hid (E1.out.aft hc ha)
     clear hc ha
     go_wp2_with fail
     refine (G3.out v2 E2.out.cu).mono ?_
     rintro e v3 ⟨T3, t3, rfl, hr, hcap3, hc, ha⟩
     have E3 := hid (E2.out.aft hc ha)
     have R3 : Hid (Ref.Rby v3 w.heap.size T3 y3.1) := hid ⟨hr.rd, fun q e => ⟨Nat.le_trans (by have := E2.out.bs; omega) (hr.at_ q e).1, (hr.at_ q e).2⟩⟩
     have C3 := hid hcap3
     clear hc ha hr hcap3
     go_wp2_with fail
     refine (G4.out v3 E3.out.cu).mono ?_
     rintro e v4 ⟨T4, t4, rfl, hr, hcap4, hc, ha⟩
     have E4 := hid (E3.out.aft hc ha)
     have R34 := hid (R3.out.aft ha (by decide))
     have R4 : Hid (Ref.Rby v4 w.heap.size T4 y4.1) := hid ⟨hr.rd, fun q e => ⟨Nat.le_trans (by have := E3.out.bs; omega) (hr.at_ q e).1, (hr.at_ q e).2⟩⟩
     have C4 := hid hcap4
     clear hc ha hr hcap4
     go_wp2_with fail
     refine (G5.out v4 E4.out.cu).mono ?_
     rintro e v5 ⟨rfl, hc, ha⟩
     have E5 := hid (E4.out.aft hc ha)
     have R35 := hid (R34.out.aft ha (by decide))
     have R45 := hid (R4.out.aft ha (by decide))
     clear hc ha
     go_wp2_with fail
     refine (G6.out v5 E5.out.cu).mono ?_
     rintro e v6 ⟨rfl, hc, ha⟩
     have E6 := hid (E5.out.aft hc ha)
     have R36 := hid (R35.out.aft ha (by decide))
     have R46 := hid (R45.out.aft ha (by decide))
     have HBA : Hid (Below v6.heap.size v6 ((v6.alloc (.cells #[.int .i64 y1.1, .int .i64 y2.1, .slice T3 y3.1.length t3, .slice T4 y4.1.length t4, .int .i64 y5.1, .int .i64 y6.1] 43)).alloc (.cells #[.int .i64 y1.1, .int .i64 y2.1, .slice T3 y3.1.length t3, .slice T4 y4.1.length t4, .int .i64 y5.1, .int .i64 y6.1] 43))) := hid (((Below.refl _ _).alloc (Nat.le_refl _) _).alloc (by simp) _)
     have E7 := hid (E6.out.alloc (.cells #[.int .i64 y1.1, .int .i64 y2.1, .slice T3 y3.1.length t3, .slice T4 y4.1.length t4, .int .i64 y5.1, .int .i64 y6.1] 43))
     have E8 := hid (E7.out.alloc (.cells #[.int .i64 y1.1, .int .i64 y2.1, .slice T3 y3.1.length t3, .slice T4 y4.1.length t4, .int .i64 y5.1, .int .i64 y6.1] 43))
     have d0 : (v6.alloc (.cells #[.int .i64 y1.1, .int .i64 y2.1, .slice T3 y3.1.length t3, .slice T4 y4.1.length t4, .int .i64 y5.1, .int .i64 y6.1] 43)).cell? ⟨w.heap.size + 1 + 1 + 1, 0, none⟩ = some (.slice OA L.length oc) := E7.out.o.1
     have d0' : v6.cell? ⟨w.heap.size + 1 + 1 + 1, 0, none⟩ = some (.slice OA L.length oc) := E6.out.o.1
     have hz6 : w.heap.size + 1 + 1 + 1 < v6.heap.size := E6.out.bs
     have HV : Hid (VfOwn ((v6.alloc (.cells #[.int .i64 y1.1, .int .i64 y2.1, .slice T3 y3.1.length t3, .slice T4 y4.1.length t4, .int .i64 y5.1, .int .i64 y6.1] 43)).alloc (.cells #[.int .i64 y1.1, .int .i64 y2.1, .slice T3 y3.1.length t3, .slice T4 y4.1.length t4, .int .i64 y5.1, .int .i64 y6.1] 43)) w.heap.size ⟨y1.1, y2.1, T3, t3, y3.1, T4, t4, y4.1, y5.1, y6.1⟩) := hid ⟨R36.out.below HBA.out, R46.out.below HBA.out, C3.out, C4.out⟩
     clear hc ha G1 G2 G3 G4 G5 G6 E1 E2 E3 E4 E5 R3 R34 R35 R4 R45 R36 R46 C3 C4 HE HBA
     go_wp2_with (at_builtin; (refine wpList_append_s _ rfl _ _ vfT rfl w.heap.size OA oc L rfl E8.out.ow.row (v6.heap.size + 1 + 1) (some ⟨v6.heap.size + 1, 0, none⟩) 1 1 [⟨y1.1, y2.1, T3, t3, y3.1, T4, t4, y4.1, y5.1, y6.1⟩] rfl rfl (rd_vf_newN _ ⟨y1.1, y2.1, T3, t3, y3.1, T4, t4, y4.1, y5.1, y6.1⟩ (by simp)) (by have := HLL.out; simp; omega) (by have := HLL.out; unfold maxLen; simp; omega) (by simp; omega) ?_); intro A3 c3 L3 w8 hl3 ho3 hg3 hat3; have HAP := hid (E8.out.app HV.out hg3 hl3 ho3); have ob8 := HAP.out.2.trans E8.out.ob; have p8 : w8.cell? ⟨w.heap.size + 1 + 1 + 1, 0, none⟩ = some (.slice OA L.length oc) := (by rw [cell_of_row _ _ _ _ _ (0, 0) ob8]; rfl); have f8 : w8.frozen? ⟨w.heap.size + 1 + 1 + 1, 0, none⟩ = false := frozen_of_row _ _ _ _ _ ob8; clear hl3 ho3 hg3 hat3 ob8 hz6 d0 d0')
     exact ⟨⟨k + 1, c3, A3, L ++ [⟨y1.1, y2.1, T3, t3, y3.1, T4, t4, y4.1, y5.1, y6.1⟩], y6.2, hlt, by simp, hid (by have := HLL.out; simp; omega), hid HAP.out.1, hid (by
       obtain ⟨q1, q2⟩ := HP.out
       rw [filesP, ← q2, HFP.out, ← q1]
       exact ⟨by simp [Vf.fi], rfl⟩)⟩, by simp only [intOf]; omega⟩
   · have hke : k = n := by omega
     subst hke
     have HL1 : Hid (L.map Vf.fi = (filesP 999999 3 k s1).1 ∧ s = (filesP 999999 3 k s1).2) := HP
     obtain ⟨z0, hz0⟩ : ∃ z, z = numP 50 s := ⟨_, rfl⟩
     have hb0 : z0.1 ≤ 50 := by rw [hz0]; exact numP_bd
     have G1 : Hid (∀ W, Cu W w.heap.size w.heap.size (w.heap.size + 2) s → _) := hid (fun W h => number_in 50 W _ _ _ _ h (by omega))
     rw [← hz0] at G1
     have HZ0 := hid hz0
     clear hz0
     go_wp2_with fail
     refine (G1.out wr HE.out.cu).mono ?_
     rintro e v1 ⟨rfl, hc, ha⟩
     have E1 := hid (HE.out.aft hc ha)
     obtain ⟨m, s2⟩ := z0
     simp only at E1 hb0
     clear hc ha G1 HE
     go_wp2_with fail
     go_loopw [37] (fun i wr => ∃ (j dc : Nat) (DA : Option Addr) (D : List Int) (s' : Os), j ≤ m ∧ i = .int .i64 (j : Int) ∧ Hid (D.length = j) ∧ Hid (De w s' OA oc L DA dc D 0 0 wr) ∧ Hid (D = (numsP 999999 j s2).1 ∧ s' = (numsP 999999 j s2).2)) (fun i _ => m - (intOf i).toNat)
     case atStart => exact ⟨0, 0, none, [], s2, by omega, rfl, hid rfl, E1, hid ⟨rfl, rfl⟩⟩
     case round =>
       obtain ⟨j, dc, DA, D, s', hj, rfl, HDL, HE, HQ⟩ := hrel
       by_cases hjt : j < m
       · obtain ⟨y1, hy1⟩ : ∃ y, y = numP 999999 s' := ⟨_, rfl⟩
         have G1 : Hid (∀ W, Cu W w.heap.size w.heap.size (w.heap.size + 2) s' → _) := hid (fun W h => number_in 999999 W _ _ _ _ h (by omega))
         rw [← hy1] at G1
         have HY1 := hid hy1
         clear hy1
         go_wp2_with fail
         obtain ⟨V, hV⟩ : ∃ V, V = wr.drew := ⟨_, rfl⟩
         have EV : Hid (De w s' OA oc L DA dc D 0 0 V) := hid (by rw [hV]; exact HE.out.low (Below.refl _ _).drew)
         have HSV : V.cell? ⟨w.heap.size + 1 + 1 + 1, 1, none⟩ = some (.slice DA D.length dc) := EV.out.o.2.1
         refine wp_region_E 7 (fun w' => w'.cell? ⟨w.heap.size + 1 + 1 + 1, 1, none⟩ = some (.slice DA D.length dc)) (by kernel_rfl) ?_
         rw [← hV]
         clear hV HE
         refine wT (i := 0) (v := ?_) rfl (Or.inl ⟨by rfl, ?_⟩) HSV ?_
         rotate_left
         · (intro wy hSw; go_simp; try with_reducible rfl)
         try simp only [Act.put, List.setIfInBounds_toArray]
         refine wT (i := 1) (v := ?_) rfl (Or.inl ⟨by rfl, ?_⟩) HSV ?_
         rotate_left
         · (intro wy hSw; go_simp; try with_reducible rfl)
         try simp only [Act.put]
         refine wT (i := 2) (v := ?_) rfl (Or.inl ⟨by rfl, ?_⟩) HSV ?_
         rotate_left
         · (intro wy hSw; go_simp; try with_reducible rfl)
         simp only [Act.put, List.getElem_toArray, List.getElem_cons_succ, List.getElem_cons_zero, List.setIfInBounds_toArray, List.set_cons_succ, List.set_cons_zero]
         refine wpAnyE_one (i := 3) (by kernel_rfl) rfl (fun K hK => ?_)
         refine step_callc_dv (by rfl) (some 42) (by rfl) (cb := [.pointer (some ⟨w.heap.size, 0, none⟩), .pointer (some ⟨w.heap.size + 1 + 1, 0, none⟩)]) (.tmp 41) _ (by rfl) rfl (.int .i64 999999) rfl (enters_of Tryz.func55 (by kernel_rfl) rfl) _ (G1.out V EV.out.cu) ?_
         rintro e v2 ⟨rfl, hc, ha⟩
         have E2 := hid (EV.out.aft hc ha)
         have HS2 : v2.cell? ⟨w.heap.size + 1 + 1 + 1, 1, none⟩ = some (.slice DA D.length dc) := E2.out.o.2.1
         have hz2 : w.heap.size + 1 + 1 + 1 < v2.heap.size := E2.out.bs
         refine ⟨_, rfl, ?_⟩
         refine hK _ _ HS2 ?_
         clear hc ha HSV EV G1
         simp only [Act.put, List.setIfInBounds_toArray, List.set_cons_succ, List.set_cons_zero]
         refine wpAnyE_one (i := 4) (by kernel_rfl) rfl (fun K hK => ?_)
         go_simp
         have HS3 : (v2.alloc (.cells #[.int .i64 (y1.1 : Int)] 3)).cell? ⟨w.heap.size + 1 + 1 + 1, 1, none⟩ = some (.slice DA D.length dc) := (E2.out.alloc _).o.2.1
         refine hK _ _ HS3 ?_
         have E3 := hid (E2.out.alloc (.cells #[.int .i64 (y1.1 : Int)] 3))
         refine wpAnyE_one (i := 5) (by kernel_rfl) rfl (fun K hK => ?_)
         refine step_append_sd _ (by rfl) (some 44) (by rfl) (.tmp 40) (.tmp 43) intT (by rfl) w.heap.size DA dc D rfl E3.out.dw (v2.heap.size + 1) (some ⟨v2.heap.size, 0, none⟩) 1 1 [(y1.1 : Int)] rfl rfl (rd_intN v2 (y1.1 : Int) rfl) (by have := HDL.out; simp; omega) (by have := HDL.out; unfold maxLen; simp; omega) (by simp; omega) ?_
         intro A3 c3 L3 w8 hl3 ho3 hg3 hat3
         have HAP := hid (E3.out.appN hg3 hl3 ho3)
         have ob8 := HAP.out.2.trans E3.out.ob
         have p8 : w8.cell? ⟨w.heap.size + 1 + 1 + 1, 1, none⟩ = some (.slice DA D.length dc) := by rw [cell_of_row _ _ _ _ _ (0, 0) ob8]; rfl
         have f8 : w8.frozen? ⟨w.heap.size + 1 + 1 + 1, 1, none⟩ = false := frozen_of_row _ _ _ _ _ ob8
         refine hK _ _ p8 ?_
         clear hl3 ho3 hg3 hat3 ob8 HS3 HS2 hz2
         simp only [Act.put, List.setIfInBounds_toArray, List.set_cons_succ, List.set_cons_zero]
         refine wpAnyE_one (i := 6) (by kernel_rfl) rfl (fun K hK => ?_)
         go_simp
         refine hK _ _ p8 ?_
         refine wpAnyE_last (by kernel_rfl) (by kernel_rfl) rfl (fun K hK => ?_)
         go_simp
         refine hK _ _ ?_
         obtain ⟨W, hW⟩ : ∃ W, W = w8.setCell ⟨w.heap.size + 1 + 1 + 1, 1, none⟩ (.slice A3 L3.length c3) := ⟨_, rfl⟩
         have E4 : Hid (De w y1.2 OA oc L A3 c3 (D ++ [(y1.1 : Int)]) 0 0 W) := hid (by rw [hW]; exact HAP.out.1)
         rw [← hW]
         clear hW HAP p8 f8 E2 E3
         go_wp2_with fail
         exact ⟨⟨j + 1, c3, A3, D ++ [(y1.1 : Int)], y1.2, hjt, by simp, hid (by have := HDL.out; simp; omega), E4, hid (by
           obtain ⟨q1, q2⟩ := HQ.out
           rw [numsP, ← q2, ← HY1.out, ← q1]
           exact ⟨rfl, rfl⟩)⟩, by simp only [intOf]; omega⟩
       · have hje : j = m := by omega
         subst hje
         have HLD : Hid (D = (numsP 999999 j s2).1 ∧ s' = (numsP 999999 j s2).2) := HQ
         obtain ⟨a1, ha1⟩ : ∃ z, z = numP 1099511627776 s' := ⟨_, rfl⟩
         obtain ⟨a2, ha2⟩ : ∃ z, z = numP 1099511627776 a1.2 := ⟨_, rfl⟩
         have HED : Hid (edP 50 50 999999 3 b = (⟨L.map Vf.fi, D, a1.1, a2.1⟩, a2.2)) := hid (by
           unfold edP
           rw [← HY0.out]
           simp only
           rw [Nat.min_eq_left hn50, ← HL1.out.1, ← HL1.out.2, ← HZ0.out]
           simp only
           rw [Nat.min_eq_left hb0, ← HLD.out.1, ← HLD.out.2, ← ha1, ← ha2])
         have G1 : Hid (∀ W, Cu W w.heap.size w.heap.size (w.heap.size + 2) s' → _) := hid (fun W h => number_in 1099511627776 W _ _ _ _ h (by omega))
         have G2 : Hid (∀ W, Cu W w.heap.size w.heap.size (w.heap.size + 2) a1.2 → _) := hid (fun W h => number_in 1099511627776 W _ _ _ _ h (by omega))
         rw [← ha1] at G1
         rw [← ha2] at G2
         rw [HED.out] at HDX
         clear ha1 ha2
         go_wp2_with fail
         refine (G1.out wr HE.out.cu).mono ?_
         rintro e v2 ⟨rfl, hc, ha⟩
         have E2 := hid (HE.out.aft hc ha)
         clear hc ha
         go_wp2_with fail
         refine (G2.out v2 E2.out.cu).mono ?_
         rintro e v3 ⟨rfl, hc, ha⟩
         have E3 := hid (E2.out.aft hc ha)
         clear hc ha E2 HE G1 G2
         have p2 : v3.cell? ⟨w.heap.size + 1 + 1 + 1, 2, none⟩ = some (.int .i64 0) := E3.out.o.2.2.1
         have p3 : v3.cell? ⟨w.heap.size + 1 + 1 + 1, 3, none⟩ = some (.int .i64 0) := E3.out.o.2.2.2
         have f2 : v3.frozen? ⟨w.heap.size + 1 + 1 + 1, 2, none⟩ = false := E3.out.f 2
         have f3 : v3.frozen? ⟨w.heap.size + 1 + 1 + 1, 3, none⟩ = false := E3.out.f 3
         obtain ⟨W, hW⟩ : ∃ W, W = (v3.setCell ⟨w.heap.size + 1 + 1 + 1, 2, none⟩ (.int .i64 (a1.1 : Int))).setCell ⟨w.heap.size + 1 + 1 + 1, 3, none⟩ (.int .i64 (a2.1 : Int)) := ⟨_, rfl⟩
         have E4 : Hid (De w a2.2 OA oc L DA dc D a1.1 a2.1 W) := hid (by rw [hW]; exact E3.out.fin _ _)
         obtain ⟨o0, o1, o2, o3⟩ := E4.out.o
         have rbX := E4.out.rb
         have r0 := cell_of_row _ _ 0 _ _ (0, 0) rbX
         have r1 := cell_of_row _ _ 1 _ _ (0, 0) rbX
         have r2 := cell_of_row _ _ 2 _ _ (0, 0) rbX
         have r3 := cell_of_row _ _ 3 _ _ (0, 0) rbX
         have t0 := frozen_of_row _ _ 0 _ _ rbX
         have t1 := frozen_of_row _ _ 1 _ _ rbX
         have t2 := frozen_of_row _ _ 2 _ _ rbX
         have t3 := frozen_of_row _ _ 3 _ _ rbX
         simp only [zeroEd, List.getElem?_toArray, List.getElem?_cons_zero, List.getElem?_cons_succ] at r0 r1 r2 r3
         have HBY : Hid (∀ W', Below W.heap.size W W' → Hid (SaysDec w none (.returned (.tuple #[.agg zeroEd, .int .i64 3])) ((((W'.setCell ⟨w.heap.size + 1, 0, none⟩ (.slice none 0 0)).setCell ⟨w.heap.size + 1, 1, none⟩ (.slice none 0 0)).setCell ⟨w.heap.size + 1, 2, none⟩ (.int .i64 0)).setCell ⟨w.heap.size + 1, 3, none⟩ (.int .i64 0)))) := hid (fun W' hb => hid ⟨((((E4.out.low hb).below.setCell (by simp) _).setCell (by simp) _).setCell (by simp) _).setCell (by simp) _, rfl⟩)
         obtain ⟨-, -, -, A5, c5, b5, am, hx5, hy5, -, -, -, -, hs5⟩ := E4.out.cu
         have x5 := box_cell hx5
         have y5 : W.cell? ⟨w.heap.size + 1 + 1, 0, none⟩ = some (.bool am) := box_cell hy5
         have HRB := hid rbX
         clear hx5 hy5 E3 rbX
         have HEVO : Hid (EvOk W W.heap.size ⟨OA, oc, L, DA, dc, D, a1.1, a2.1⟩) := hid ⟨E4.out.ow.rd, E4.out.dw.rd⟩
         have HLk := HLL.out
         have HDj := HDL.out
         have KR := rightEdit_any ⟨OA, oc, L, DA, dc, D, a1.1, a2.1⟩ W HEVO.out (by simp only; omega) (by simp only; omega)
         obtain ⟨ok, hok⟩ : ∃ ok, ok = okE (Ev.ed ⟨OA, oc, L, DA, dc, D, a1.1, a2.1⟩) := ⟨_, rfl⟩
         rw [← hok] at KR
         rw [show okE (⟨L.map Vf.fi, D, a1.1, a2.1⟩ : Ed) = ok from hok.symm] at HDX
         unfold Ev.val at KR
         simp only at KR
         rw [hW] at o0 o1 o2 o3 r0 r1 r2 r3 t0 t1 t2 t3 x5 y5 KR
         have HKR := hid KR
         have HW := hid hW
         clear hW KR hok HLk HDj HEVO HED
         cases am with
         | true =>
           have HDN : Hid (dd = none) := hid (by rw [HDX.out, hs5]; simp)
           clear hs5 HDX HKR
           go_wp2_with fail
           rw [← HW.out]
           refine bodyPost_ret (results_c2v rfl _ _ (w.heap.size + 1) 27 zeroEd (0, 0) _ rfl (heap4v HRB.out) Tryz.underlying27 rfl edit_size) rfl ?_
           rw [HDN.out]
           exact (HBY.out W (Below.refl _ _)).out
         | false =>
           by_cases hb5 : b5 = []
           rotate_left
           · have hb6 : 0 < b5.length := List.length_pos_iff.2 hb5
             have hb7 : decide ((0 : Int) < (b5.length : Int)) = true := decide_eq_true (by omega)
             have HDN : Hid (dd = none) := hid (by rw [HDX.out, hs5]; simp [hb5])
             clear hs5 HDX HKR hb5
             go_wp2_with fail
             rw [← HW.out]
             refine bodyPost_ret (results_c2v rfl _ _ (w.heap.size + 1) 27 zeroEd (0, 0) _ rfl (heap4v HRB.out) Tryz.underlying27 rfl edit_size) rfl ?_
             rw [HDN.out]
             exact (HBY.out W (Below.refl _ _)).out
           subst hb5
           have hl0 : (([] : List UInt8).length) = 0 := rfl
           rw [hl0] at x5
           go_wp2_with fail
           refine HKR.out.mono ?_
           rintro e v5 ⟨rfl, hb5⟩
           rw [← HW.out] at hb5
           have E5 := hid (E4.out.low hb5)
           have HY5 := hid (HBY.out v5 hb5)
           obtain ⟨o0, o1, o2, o3⟩ := E5.out.o
           have rbX := E5.out.rb
           have HRB5 := hid rbX
           have r0 := cell_of_row _ _ 0 _ _ (0, 0) rbX
           have r1 := cell_of_row _ _ 1 _ _ (0, 0) rbX
           have r2 := cell_of_row _ _ 2 _ _ (0, 0) rbX
           have r3 := cell_of_row _ _ 3 _ _ (0, 0) rbX
           have t0 := frozen_of_row _ _ 0 _ _ rbX
           have t1 := frozen_of_row _ _ 1 _ _ rbX
           have t2 := frozen_of_row _ _ 2 _ _ rbX
           have t3 := frozen_of_row _ _ 3 _ _ rbX
           simp only [zeroEd, List.getElem?_toArray, List.getElem?_cons_zero, List.getElem?_cons_succ] at r0 r1 r2 r3
           clear hb5 rbX x5 y5
           rcases ok with _ | _
           · have HDN : Hid (dd = none) := hid (by rw [HDX.out]; simp)
             clear HDX
             go_wp2_with fail
             refine bodyPost_ret (results_c2v rfl _ _ (w.heap.size + 1) 27 zeroEd (0, 0) _ rfl (heap4v HRB5.out) Tryz.underlying27 rfl edit_size) rfl ?_
             rw [HDN.out]
             exact HY5.out.out
           · have HDN : Hid (dd = some ⟨L.map Vf.fi, D, a1.1, a2.1⟩) := hid (by rw [HDX.out, hs5]; simp)
             clear HDX hs5
             go_wp2_with fail
             refine bodyPost_ret (results_c2v rfl _ _ (w.heap.size + 1) 27 #[.slice OA L.length oc, .slice DA D.length dc, .int .i64 (a1.1 : Int), .int .i64 (a2.1 : Int)] (0, 0) _ rfl (heap4v HRB5.out) Tryz.underlying27 rfl edit_size) rfl ?_
             rw [HDN.out]
             have hne : ∀ {q : Nat} {T : TypeId}, Sto.Tag v5 q T → T ≠ 27 → ((((v5.setCell ⟨w.heap.size + 1, 0, none⟩ (.slice OA L.length oc)).setCell ⟨w.heap.size + 1, 1, none⟩ (.slice DA D.length dc)).setCell ⟨w.heap.size + 1, 2, none⟩ (.int .i64 (a1.1 : Int))).setCell ⟨w.heap.size + 1, 3, none⟩ (.int .i64 (a2.1 : Int))).heap[q]? = v5.heap[q]? := fun {q T} t hT => by
               have hq := t.ne ⟨_, _, HRB5.out⟩ hT
               rw [heap_setCell_other _ ⟨w.heap.size + 1, 3, none⟩ _ _ hq, heap_setCell_other _ ⟨w.heap.size + 1, 2, none⟩ _ _ hq, heap_setCell_other _ ⟨w.heap.size + 1, 1, none⟩ _ _ hq, heap_setCell_other _ ⟨w.heap.size + 1, 0, none⟩ _ _ hq]
             refine ⟨(((E5.out.below.setCell (by simp) _).setCell (by simp) _).setCell (by simp) _).setCell (by simp) _, ⟨OA, oc, L, DA, dc, D, a1.1, a2.1⟩, rfl, rfl, E5.out.ow.keep (by simp) (fun q e => ?_), E5.out.dw.keep (fun q e => hne (Sto.ownTagS E5.out.dw e) (by decide))⟩
             rcases e with e | ⟨v', hv', e⟩
             · exact hne (Sto.ownTagS E5.out.ow.row e) (by decide)
             · exact hne ((E5.out.ow.own v' hv').at_ e).2 (by decide)
end Ver
namespace Ver
def turnsC : List TypeId := [100]
def AftC (w w' : World) (base : Nat) : Prop := Ref.Aft turnsC w w' base (fun _ => False) (fun _ => False)
section
variable {w w' w1 : World} {base gc c d most n : Nat} {A B : Option Addr} {b r t : List UInt8} {s : Os}
structure Ct (w : World) (base gc : Nat) (s : Os) : Prop where
 bs : base ≤ w.heap.size
 gcb : base ≤ gc
 bx : ∃ A c b am, w.heap[gc]? = some (.cells #[.slice A b.length c, .bool am] 100) ∧ Bk w base A b ∧ b.length ≤ c ∧ c ≤ 9223372036854775807 ∧ b.length ≤ 140737488355328 ∧ s = (if am = true then none else some b)
theorem AftC.trans (h1 : AftC w w1 base) (h2 : AftC w1 w' base) : AftC w w' base := Ref.Aft.trans h1 h2
theorem AftC.refl (w : World) (base : Nat) : AftC w w base := Ref.Aft.refl w base _
theorem AftC.of_below (hb : Below w.heap.size w w') : AftC w w' base := Ref.Aft.of_below hb _
theorem AftC.set (h : AftC w w' base) {g j : Nat} {v : Value} (ht : Sto.Tag w' g 100) (hg : base ≤ g) : AftC w (w'.setCell ⟨g, j, none⟩ v) base :=
 AftC.trans h ⟨rfl, rfl, rfl, by simp, fun k hk hn => heap_setCell_other w' ⟨g, j, none⟩ k _ (fun e => by
   subst e
   rcases hn with hn | hn
   · omega
   · exact hn _ (by simp [turnsC]) ht), fun _ _ h => h⟩
theorem cut_set0 {W : World} {g : Nat} {x y v : Value} {T : TypeId} (h : W.heap[g]? = some (.cells #[x, y] T)) : (W.setCell ⟨g, 0, none⟩ v).heap[g]? = some (.cells #[v, y] T) := by
 have := heap_setCell_same W g 0 _ T v h
 simpa using this
theorem cut_set1 {W : World} {g : Nat} {x y v : Value} {T : TypeId} (h : W.heap[g]? = some (.cells #[x, y] T)) : (W.setCell ⟨g, 1, none⟩ v).heap[g]? = some (.cells #[x, v] T) := by
 have := heap_setCell_same W g 1 _ T v h
 simpa using this
theorem Ct.no {A : Option Addr} (hbs : base ≤ w.heap.size) (hgc : base ≤ gc) {am : Bool} (hx : w.heap[gc]? = some (.cells #[.slice A b.length c, .bool am] 100)) (hk : Bk w base A b) (h1 : b.length ≤ c) (h2 : c ≤ 9223372036854775807) (h3 : b.length ≤ 140737488355328)
   (hb : Below w.heap.size w w1) : Ct (w1.setCell ⟨gc, 1, none⟩ (.bool true)) base gc none ∧ AftC w (w1.setCell ⟨gc, 1, none⟩ (.bool true)) base := by
 have x1 := (hb.block _ (Array.getElem?_eq_some_iff.1 hx).1).trans hx
 have hk1 := hk.below hbs hb
 refine ⟨⟨by have := hb.size; simp; omega, hgc, A, c, b, true, cut_set1 x1, hk1.keep (by simp) (fun hn k e => heap_setCell_other w1 ⟨gc, 1, none⟩ k _ (fun e2 => ?_)), h1, h2, h3, rfl⟩, (AftC.of_below hb).set ⟨_, _, x1⟩ hgc⟩
 simp only at e2
 subst e2
 rcases hk1.at_ hn k e with h | t
 · omega
 · exact t.ne ⟨_, _, x1⟩ (by decide) rfl
theorem Ct.yes {A B : Option Addr} (hbs : base ≤ w.heap.size) (hgc : base ≤ gc) (hx : w.heap[gc]? = some (.cells #[.slice A b.length c, .bool false] 100)) (hk : Bk w base A b) (h3 : b.length ≤ 140737488355328)
   (hb : Below w.heap.size w w1) (hr : RdB w1 w1.heap.size B r) (h1 : r.length ≤ d) (h2 : d ≤ 9223372036854775807) (hf : Frs w1 w.heap.size A B) (hrl : r.length ≤ b.length) :
   Ct (w1.setCell ⟨gc, 0, none⟩ (.slice B r.length d)) base gc (some r) ∧ AftC w (w1.setCell ⟨gc, 0, none⟩ (.slice B r.length d)) base := by
 have x1 := (hb.block _ (Array.getElem?_eq_some_iff.1 hx).1).trans hx
 have hk1 := hk.below hbs hb
 have hkr : Bk w1 base B r := ⟨hr, fun hn g e => by
   rcases hf g e with h | ⟨_, cs, fr, h⟩
   · exact hk1.at_ (fun e => by subst e; exact hn (List.length_eq_zero_iff.1 (by simpa using hrl))) g h
   · exact .inr ⟨cs, fr, h⟩⟩
 refine ⟨⟨by have := hb.size; simp; omega, hgc, B, d, r, false, cut_set0 x1, hkr.keep (by simp) (fun hn k e => heap_setCell_other w1 ⟨gc, 0, none⟩ k _ (fun e2 => ?_)), h1, h2, by omega, rfl⟩, (AftC.of_below hb).set ⟨_, _, x1⟩ hgc⟩
 simp only at e2
 subst e2
 rcases hkr.at_ hn k e with h | t
 · omega
 · exact t.ne ⟨_, _, x1⟩ (by decide) rfl
theorem Ct.low (h : Ct w base gc s) (hb : Below w.heap.size w w') : Ct w' base gc s := by
 obtain ⟨hbs, hgc, A, c, b, am, hx, hk, h1, h2, h3, hs⟩ := h
 exact ⟨Nat.le_trans hbs hb.size, hgc, A, c, b, am, (hb.block _ (Array.getElem?_eq_some_iff.1 hx).1).trans hx, hk.below hbs hb, h1, h2, h3, hs⟩
end
end Ver
end Go.Proofs.YtgmnhdkdicgkcaaGreatDoor
