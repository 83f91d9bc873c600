/- Parts of the proof, one behind the other: A row of files in memory, turned in place: the exchange of two. -/
import Derived.Test.YtgmnhdkdicgkcaaGreatDoorOsg02
import Derived.Test.YtgmnhdkdicgkcaaGreatDoorOsg04
import Derived.Shelf.SlicesQ.Load
import Derived.Shelf.RegionOpenPlain
import Derived.Deep.Upon
import Derived.Deep.MidRow
import Derived.Lib.LazyBuf
namespace Go.Proofs.YtgmnhdkdicgkcaaGreatDoor
open Go.RowKit Go.Maps Go.Sort
instance : Inhabited Vf := ⟨⟨0, 0, none, 0, [], none, 0, [], 0, 0⟩⟩
section
variable {α : Type} {f : α → List Value} {n : Nat} {w : World} {base g c : Nat} {e : TypeId} {l : List α}
theorem setCells_row (w : World) (g o : Nat) (t : TypeId) (vs : List Value) (cur : Array Value) (hg : w.heap[g]? = some (.cells cur t (0, 0))) (hl : o + vs.length ≤ cur.size) (h1 : ∀ v ∈ vs, v.oneCell' = true) :
   w.setCells g o vs = w.setRow g (cur.toList.take o ++ vs ++ cur.toList.drop (o + vs.length)).toArray := by
 have e1 := run_storeCells_at (P := Tryz.prog) g o t vs 0 cur w hg (by omega) h1
 have e2 := run_storeCells_cells (P := Tryz.prog) g o vs 0 w (fun j hj => by simp [World.cell?, hg]; omega) (fun j hj => by simp [World.frozen?, hg]) h1
 rw [e2] at e1
 injection e1
theorem seg_take {β : Type} (X vs : List β) (a b s : Nat) (hs : vs.length = s) (hab : a + s ≤ b) (hb : b ≤ X.length) : (X.take a ++ vs ++ X.drop (a + s)).take b = (X.take b).take a ++ (vs ++ (X.take b).drop (a + s)) := by
 apply List.ext_getElem?
 intro j
 have l1 : (X.take a).length = a := by rw [List.length_take]; omega
 have l2 : ((X.take b).take a).length = a := by rw [List.length_take, List.length_take]; omega
 rw [List.append_assoc, List.getElem?_take, List.getElem?_append, List.getElem?_append, List.getElem?_append, List.getElem?_append, l1, l2, hs]
 simp only [List.getElem?_take, List.getElem?_drop]
 repeat' split
 all_goals first | rfl | (exfalso; omega)
theorem ownS_put (hf : ∀ a, (f a).length = n) (h1 : ∀ a, ∀ v ∈ f a, v.oneCell' = true) (h : OwnS f n w base e (some ⟨g, 0, none⟩) c l) {k : Nat} (hk : k < l.length) (a : α) :
   OwnS f n (w.setCells g (k * n) (f a)) base e (some ⟨g, 0, none⟩) c (l.set k a) := by
 unfold OwnS World.ownsRow at h ⊢
 obtain ⟨h0, h2⟩ := h
 refine ⟨by rw [fm_len hf], ?_⟩
 rcases h2 with ⟨h2, _⟩ | ⟨g', cap, cur, hv, hb, hg, hn, hcap, hsz, htk⟩
 · cases h2
 · injection hv with q1 q2 q3
   injection q1 with q1
   injection q1 with q1
   subst q1 q3
   have hkn : k * n + n ≤ l.length * n := by
     have := Nat.mul_le_mul_right n (show k + 1 ≤ l.length from hk)
     rwa [Nat.add_mul, Nat.one_mul] at this
   have hln : l.length * n ≤ cur.size := by rw [hsz]; exact Nat.mul_le_mul_right n hn
   refine .inr ⟨g, c, (cur.toList.take (k * n) ++ f a ++ cur.toList.drop (k * n + n)).toArray, by rw [List.length_set], hb, ?_, by rw [List.length_set]; exact hn, hcap, ?_, ?_⟩
   · rw [setCells_row w g (k * n) e (f a) cur hg (by rw [hf]; omega) (h1 a), hf]
     exact setRow_heap w g cur _ e (0, 0) hg
   · rw [List.size_toArray, List.length_append, List.length_append, List.length_take, List.length_drop, hf, Array.length_toList, ← hsz]
     omega
   · rw [List.length_set, List.toList_toArray, seg_take _ _ _ _ n (hf a) hkn (by rw [Array.length_toList]; exact hln), htk, List.set_eq_take_append_cons_drop, if_pos hk, List.flatMap_append, List.flatMap_cons, fm_take hf, fm_drop hf, Nat.add_mul, Nat.one_mul]
end
theorem vf_one (v : Vf) : ∀ u ∈ v.cells, u.oneCell' = true := fun u hu => by
 simp [Vf.cells] at hu
 rcases hu with h | h | h | h | h | h <;> (subst h; rfl)
namespace Sym
structure Tn (w w' : World) (g : Nat) : Prop where
 os : w'.os = w.os
 tape : w'.tape = w.tape
 output : w'.output = w.output
 size : w.heap.size ≤ w'.heap.size
 block : ∀ k, k < w.heap.size → k ≠ g → w'.heap[k]? = w.heap[k]?
section
variable {w w1 w' W : World} {g base c off : Nat} {d : Array Vf} {A : Option Addr}
theorem Tn.refl (w : World) (g : Nat) : Tn w w g := ⟨rfl, rfl, rfl, Nat.le_refl _, fun _ _ _ => rfl⟩
theorem Tn.trans (h1 : Tn w w1 g) (h2 : Tn w1 w' g) : Tn w w' g :=
 ⟨h2.os.trans h1.os, h2.tape.trans h1.tape, h2.output.trans h1.output, Nat.le_trans h1.size h2.size, fun k hk hn => (h2.block k (Nat.lt_of_lt_of_le hk h1.size) hn).trans (h1.block k hk hn)⟩
theorem Tn.below (h : Tn w w1 g) (hb : Below w1.heap.size w1 w') : Tn w w' g := h.trans ⟨hb.os, hb.tape, hb.output, hb.size, fun k hk _ => hb.block k hk⟩
theorem Tn.set (w : World) (g o : Nat) (vs : List Value) : Tn w (w.setCells g o vs) g := by
 have hb := below_setCells (B := 0) (Nat.zero_le g) vs o w (Below.refl 0 w)
 exact ⟨hb.os, hb.tape, hb.output, hb.size, fun k hk hn => World.heap_setCells_other w g o vs hk hn⟩
structure Lay (w : World) (base g c : Nat) (d : Array Vf) (W : World) : Prop where
 ow : OwV W base (some ⟨g, 0, none⟩) c d.toList
 tn : Tn w W g
theorem Lay.below (h : Lay w base g c d W) (hb : Below W.heap.size W w') : Lay w base g c d w' := ⟨h.ow.below hb, h.tn.below hb⟩
theorem Lay.cells (h : Lay w base g c d W) {k : Nat} (hk : k < d.size) : ∀ j u, (d[k]!.cells)[j]? = some u → W.cell? ⟨g, k * 6 + j, none⟩ = some u := by
 obtain ⟨b, off, hA, _, hc⟩ := RdS.row (f := Vf.cells) (n := 6) (fun _ => rfl) (by omega) h.ow.row.rd (by simp; omega)
 injection hA with hA
 injection hA with h1 h2
 subst h1 h2
 intro j u hu
 have := hc k (by simpa using hk) j u (by simpa [getElem!_pos d k hk] using hu)
 rwa [Nat.zero_add] at this
theorem Lay.okk (h : Lay w base g c d W) {k : Nat} (hk : k < d.size) : VfOwn W base d[k]! := by
 rw [getElem!_pos d k hk]
 exact h.ow.own _ (by simp)
theorem Lay.frz (h : Lay w base g c d W) (o : Nat) : W.frozen? ⟨g, o, none⟩ = false ∨ d.size = 0 := by
 rcases Nat.eq_zero_or_pos d.size with h0 | h0
 · exact .inr h0
 · obtain ⟨g', cur, hA, _, _, hg⟩ := h.ow.row.form (by simpa using h0)
   injection hA with hA
   injection hA with hA
   subst hA
   exact .inl (frozen_of_row W g o _ _ hg)
theorem Lay.st (h : Lay w base g c d W) {k : Nat} (hk : k < d.size) (vs : List Value) (hvs : vs.length = 6) (h1 : ∀ v ∈ vs, v.oneCell' = true) :
   Sem.run Tryz.prog (storeCells ⟨g, k * 6, none⟩ vs 0) W = .ok () (W.setCells g (k * 6) vs) := by
 have := run_storeCells_cells (P := Tryz.prog) g (k * 6) vs 0 W (fun j hj => by
   have h9 : (d[k]!.cells)[j]? = some ((d[k]!.cells)[j]'(by show j < 6; omega)) := List.getElem?_eq_getElem _
   rw [Nat.add_zero, h.cells hk j _ h9]; rfl) (fun j hj => by
   rcases h.frz (k * 6 + 0 + j) with h9 | h9
   · exact h9
   · omega) h1
 rwa [Nat.add_zero] at this
theorem Lay.rg (h : Lay w base g c d W) {k : Nat} (hk : k < d.size) : W.rangeAt g (k * 6) (d[k]!).cells := fun j u hu => h.cells hk j u hu
theorem Lay.there (h : Lay w base g c d W) {k : Nat} (hk : k < d.size) : W.there g (k * 6) 6 := fun j hj => by
 have h9 : (d[k]!.cells)[j]? = some ((d[k]!.cells)[j]'(by show j < 6; omega)) := List.getElem?_eq_getElem _
 refine ⟨by rw [h.cells hk j _ h9]; rfl, ?_⟩
 rcases h.frz (k * 6 + j) with h8 | h8
 · exact h8
 · omega
theorem Lay.put (h : Lay w base g c d W) {k : Nat} (hk : k < d.size) (v : Vf) (hv : VfOwn W base v) : Lay w base g c (d.setIfInBounds k v) (W.setCells g (k * 6) v.cells) := by
 have hro := ownS_put (f := Vf.cells) (n := 6) (fun _ => rfl) vf_one h.ow.row (k := k) (by simpa using hk) v
 have hkeep : ∀ u, VfOwn W base u → VfOwn (W.setCells g (k * 6) v.cells) base u := fun u hu => hu.keep (Tn.set W g _ _).size (fun q e => World.heap_setCells_other W g _ _ (hu.at_ e).2.lt (fun e2 => by
   have h2 := Sto.ownTagS h.ow.row (k := g) rfl
   exact (hu.at_ e).2.ne h2 (by decide) e2))
 refine ⟨⟨?_, fun u hu => ?_⟩, h.tn.trans (Tn.set W g _ _)⟩
 · rw [Array.toList_setIfInBounds]; exact hro
 · rw [Array.toList_setIfInBounds] at hu
   rcases List.mem_or_eq_of_mem_set hu with hu | rfl
   · exact hkeep u (h.ow.own u hu)
   · exact hkeep _ hv
theorem Lay.swap (h : Lay w base g c d W) {i j : Nat} (hi : i < d.size) (hj : j < d.size) :
   Lay w base g c (swp d i j) ((W.setCells g (i * 6) (d[j]!).cells).setCells g (j * 6) (d[i]!).cells) := by
 have h1 := h.put hi d[j]! (h.okk hj)
 have h2 : VfOwn (W.setCells g (i * 6) (d[j]!).cells) base d[i]! := by
   have hu := h.okk hi
   exact hu.keep (Tn.set W g _ _).size (fun q e => World.heap_setCells_other W g _ _ (hu.at_ e).2.lt (fun e2 => by
     have h2 := Sto.ownTagS h.ow.row (k := g) rfl
     exact (hu.at_ e).2.ne h2 (by decide) e2))
 exact h1.put (by simpa using hj) d[i]! h2
theorem Lay.drew (h : Lay w base g c d W) : Lay w base g c d W.drew := h.below (Below.refl _ _).drew
end
end Sym
end Go.Proofs.YtgmnhdkdicgkcaaGreatDoor
