/- The frame of a law over a schedule and a return: its arguments opened (after the guide's page of structs). -/
import Derived.Test.YtkgoaodpjeonnaaChecked
import Derived.Test.YtkgoaodpjeonnaaSch
import Derived.WalkKit
import Derived.ProofKit
import Derived.OpenShut
import Derived.ShutString
import Derived.ChangeOld
import Derived.Below
import Derived.ChangeSame
import Derived.Lib.SmallJoins
import Derived.Deep.DeepHandedRow
import Derived.Deep.Slices
import Derived.Deep.Fields
namespace Go.Proofs.Ytkgoaodpjeonnaa
open Go.ChangeShapes Go.WideShapes Go.ChangeAt Go.RowKit

namespace Frame
section
open Go.Deep
variable {H : Type} {enc : TypeId × Value → H} {P : Program} {w : World} {base : Nat} {spare : Nat → Bool} {held : Bool}
theorem open_slice_fields {t e : TypeId} {fs : Array Field} {fuel : Nat} {cs : List Value} {x : DataW H × List MemPlace} (ht : P.underlying t = some (.slice e)) (he : P.underlying e = some (.struct fs))
    (hone : oneCellFields P fs = true) (hC : P.cellsOf e = fs.size) (h : DataW.trod enc P w base spare held fuel t cs = some x) :
    (cs = [.slice none 0 0] ∧ x = (.nil, [])) ∨
    ∃ (a : Addr) (len cap m : Nat) (D : Nat → DataW H) (Pl : Nat → List MemPlace), cs = [.slice (some a) len cap] ∧ base ≤ a.block ∧ len ≤ cap ∧ cap ≤ maxLen ∧ m = (if spare a.block then cap else len) ∧
      x = (.slice ((List.range len).map D) ((List.range (m - len)).map fun j => D (len + j)), MemPlace.row a (m * fs.size) ++ (List.range m).flatMap Pl) ∧
      ∀ i, i < m → ∃ (ys : List (DataW H × List MemPlace)) (n : Nat), D i = .agg (ys.map (·.1)) ∧ Pl i = ys.flatMap (·.2) ∧ ys.length = fs.size ∧
        ∀ (j : Nat) (f : Field), fs[j]? = some f → ∃ (v : Value) (y : DataW H × List MemPlace), w.cell? (a.add (i * fs.size + j)) = some v ∧ ys[j]? = some y ∧ DataW.trod enc P w base spare held n f.type [v] = some y := by
  rcases open_slice ht h with h0 | ⟨a, len, cap, m, n, D, Pl, hcs, hb, hl, hm, hmm, hx, hi⟩
  · exact .inl h0
  · refine .inr ⟨a, len, cap, m, D, Pl, hcs, hb, hl, hm, hmm, by rw [hC] at hx; exact hx, fun i him => ?_⟩
    obtain ⟨cs', hc, ht'⟩ := hi i him
    rw [hC] at hc
    obtain ⟨ys, n', hn', hy, hlen, hyl, hf⟩ := DataW.trod_struct he ht'
    obtain ⟨_, hcl, hat⟩ := World.cells?_some hc
    simp only [Prod.mk.injEq] at hy
    refine ⟨ys, n', hy.1, hy.2, hyl, fun j f hj => ?_⟩
    obtain ⟨ho, hk⟩ := hone_of hone j f hj
    have hjl : j < fs.size := (Array.getElem?_eq_some_iff.1 hj).1
    have hcell := hat j hjl
    have hv : cs'[j]? = some (cs'[j]'(by omega)) := List.getElem?_eq_getElem (by omega)
    have h1 := hf j f hj
    rw [ho, hk] at h1
    have hone' : (cs'.drop j).take 1 = [cs'[j]'(by omega)] := by
      rw [List.drop_eq_getElem_cons (by omega)]
      rfl
    rw [hone'] at h1
    have hys : ys[j]? = some (ys[j]'(by omega)) := List.getElem?_eq_getElem (by omega)
    refine ⟨_, _, ?_, hys, h1.trans hys⟩
    rw [← Go.Deep.add_add, hcell, hv]
end

section
open Go.Joins Go.Deep
variable {H : Type} {enc : TypeId × Value → H} {P : Program} {w : World} {base : Nat} {spare : Nat → Bool} {held : Bool}
theorem open_agg5 {r : Reach} {b0 : Nat} {t : TypeId} {f0 f1 f2 f3 f4 : Field} {v : Value} {d : DataW H} {p : List MemPlace} (hs : P.underlying t = some (.struct #[f0, f1, f2, f3, f4])) (hone : oneCellFields P #[f0, f1, f2, f3, f4] = true) (hC : P.cellsOf t = 5)
    (hv : Value.okWide P w r b0 t v) (h : DataW.Trod enc P w base spare held t v d p) :
    ∃ (v0 v1 v2 v3 v4 : Value) (y0 y1 y2 y3 y4 : DataW H × List MemPlace) (n : Nat), v = .agg #[v0, v1, v2, v3, v4] ∧ d = .agg [y0.1, y1.1, y2.1, y3.1, y4.1] ∧ p = y0.2 ++ (y1.2 ++ (y2.2 ++ (y3.2 ++ y4.2))) ∧
      DataW.trod enc P w base spare held n f0.type [v0] = some y0 ∧ DataW.trod enc P w base spare held n f1.type [v1] = some y1 ∧ DataW.trod enc P w base spare held n f2.type [v2] = some y2 ∧ DataW.trod enc P w base spare held n f3.type [v3] = some y3 ∧ DataW.trod enc P w base spare held n f4.type [v4] = some y4 := by
  obtain ⟨cs, rfl, hsz⟩ := okWide_struct hs hv
  obtain ⟨l⟩ := cs
  match l, hsz.trans hC with
  | [c0, c1, c2, c3, c4], _ =>
    obtain ⟨fuel, hf⟩ := h
    obtain ⟨xs, n, _, hx, _, hlen, hg⟩ := DataW.trod_struct hs hf
    obtain ⟨o0, k0⟩ := hone_of hone 0 f0 rfl
    obtain ⟨o1, k1⟩ := hone_of hone 1 f1 rfl
    obtain ⟨o2, k2⟩ := hone_of hone 2 f2 rfl
    obtain ⟨o3, k3⟩ := hone_of hone 3 f3 rfl
    obtain ⟨o4, k4⟩ := hone_of hone 4 f4 rfl
    match xs, hlen with
    | [y0, y1, y2, y3, y4], _ =>
      simp only [Prod.mk.injEq] at hx
      exact ⟨c0, c1, c2, c3, c4, y0, y1, y2, y3, y4, n, rfl, by simpa using hx.1, by simpa using hx.2, by simpa [Value.cells, o0, k0] using hg 0 f0 rfl, by simpa [Value.cells, o1, k1] using hg 1 f1 rfl, by simpa [Value.cells, o2, k2] using hg 2 f2 rfl, by simpa [Value.cells, o3, k3] using hg 3 f3 rfl, by simpa [Value.cells, o4, k4] using hg 4 f4 rfl⟩

theorem open_agg6 {r : Reach} {b0 : Nat} {t : TypeId} {f0 f1 f2 f3 f4 f5 : Field} {v : Value} {d : DataW H} {p : List MemPlace} (hs : P.underlying t = some (.struct #[f0, f1, f2, f3, f4, f5])) (hone : oneCellFields P #[f0, f1, f2, f3, f4, f5] = true) (hC : P.cellsOf t = 6)
    (hv : Value.okWide P w r b0 t v) (h : DataW.Trod enc P w base spare held t v d p) :
    ∃ (v0 v1 v2 v3 v4 v5 : Value) (y0 y1 y2 y3 y4 y5 : DataW H × List MemPlace) (n : Nat), v = .agg #[v0, v1, v2, v3, v4, v5] ∧ d = .agg [y0.1, y1.1, y2.1, y3.1, y4.1, y5.1] ∧ p = y0.2 ++ (y1.2 ++ (y2.2 ++ (y3.2 ++ (y4.2 ++ y5.2)))) ∧
      DataW.trod enc P w base spare held n f0.type [v0] = some y0 ∧ DataW.trod enc P w base spare held n f1.type [v1] = some y1 ∧ DataW.trod enc P w base spare held n f2.type [v2] = some y2 ∧ DataW.trod enc P w base spare held n f3.type [v3] = some y3 ∧ DataW.trod enc P w base spare held n f4.type [v4] = some y4 ∧ DataW.trod enc P w base spare held n f5.type [v5] = some y5 := by
  obtain ⟨cs, rfl, hsz⟩ := okWide_struct hs hv
  obtain ⟨l⟩ := cs
  match l, hsz.trans hC with
  | [c0, c1, c2, c3, c4, c5], _ =>
    obtain ⟨fuel, hf⟩ := h
    obtain ⟨xs, n, _, hx, _, hlen, hg⟩ := DataW.trod_struct hs hf
    obtain ⟨o0, k0⟩ := hone_of hone 0 f0 rfl
    obtain ⟨o1, k1⟩ := hone_of hone 1 f1 rfl
    obtain ⟨o2, k2⟩ := hone_of hone 2 f2 rfl
    obtain ⟨o3, k3⟩ := hone_of hone 3 f3 rfl
    obtain ⟨o4, k4⟩ := hone_of hone 4 f4 rfl
    obtain ⟨o5, k5⟩ := hone_of hone 5 f5 rfl
    match xs, hlen with
    | [y0, y1, y2, y3, y4, y5], _ =>
      simp only [Prod.mk.injEq] at hx
      exact ⟨c0, c1, c2, c3, c4, c5, y0, y1, y2, y3, y4, y5, n, rfl, by simpa using hx.1, by simpa using hx.2, by simpa [Value.cells, o0, k0] using hg 0 f0 rfl, by simpa [Value.cells, o1, k1] using hg 1 f1 rfl, by simpa [Value.cells, o2, k2] using hg 2 f2 rfl, by simpa [Value.cells, o3, k3] using hg 3 f3 rfl, by simpa [Value.cells, o4, k4] using hg 4 f4 rfl, by simpa [Value.cells, o5, k5] using hg 5 f5 rfl⟩
end
end Frame
/-- A slice of brackets that came in. -/
theorem brs_of {H : Type} {enc : TypeId × Value → H} {W : World} {sp : Nat → Bool} {hd : Bool} {v : Value} {fuel : Nat} {y : DataW H × List MemPlace} (h : DataW.trod enc Try.prog W 0 sp hd fuel 22 [v] = some y) :
    ∃ (A : Option Addr) (l : List Br) (c : Nat), v = .slice A l.length c ∧ RdS W W.heap.size A l ∧ l.length ≤ 9223372036854775807 := by
  rcases Frame.open_slice_fields Try.underlying22 Try.underlying71 (by kernel_rfl) (by kernel_rfl) h with ⟨hcs, _⟩ | ⟨ad, len, cap, m, D, Pl, hcs, hb, hl, hm, hmm, hx, hi⟩
  · simp at hcs
    subst hcs
    exact ⟨none, [], 0, rfl, Reads.none_, by simp⟩
  · simp at hcs
    subst hcs
    have hpt : ∀ i, i < len → ∃ q : Br, ∀ j u, q.cells[j]? = some u → W.cell? (ad.add (i * 2 + j)) = some u := by
      intro i hil
      have hlm : len ≤ m := by rw [hmm]; split <;> omega
      obtain ⟨ys, n, _, _, _, hfld⟩ := hi i (by omega)
      obtain ⟨u0, y0, c0, _, t0⟩ := hfld 0 _ rfl
      obtain ⟨u1, y1, c1, _, t1⟩ := hfld 1 _ rfl
      obtain ⟨b0, e0, _, _⟩ := DataW.trod_int Try.underlying2 t0
      obtain ⟨b1, e1, _, _⟩ := DataW.trod_int Try.underlying3 t1
      simp at e0 e1
      subst e0 e1
      refine ⟨⟨b0, b1⟩, ?_⟩
      intro j u hu
      match j, hu with
      | 0, hu => simp [Br.cells] at hu; subst hu; exact c0
      | 1, hu => simp [Br.cells] at hu; subst hu; exact c1
      | j + 2, hu => simp [Br.cells] at hu
    let f : Nat → Br := fun i => if hil : i < len then Classical.choose (hpt i hil) else ⟨0, 0⟩
    have hfs : ∀ i, i < len → ∀ j u, (f i).cells[j]? = some u → W.cell? (ad.add (i * 2 + j)) = some u := by
      intro i hil
      have e : f i = Classical.choose (hpt i hil) := by simp only [f]; rw [dif_pos hil]
      rw [e]
      exact Classical.choose_spec (hpt i hil)
    have hll : ((List.range len).map f).length = len := by simp
    refine ⟨some ad, (List.range len).map f, cap, by rw [hll], ⟨by rw [brv_length], fun hn => ⟨ad, rfl, ?_, fun t u hu => ?_⟩⟩, by rw [hll]; unfold maxLen at hm; omega⟩
    · rw [hll] at hn
      have hc0 := hfs 0 hn 0 (.int .i64 (f 0).f) rfl
      have hb := World.block_lt_of_cell? W _ hc0
      rwa [block_of_add] at hb
    · have ht : t < (brv ((List.range len).map f)).length := by
        rcases Nat.lt_or_ge t (brv ((List.range len).map f)).length with h | h
        · exact h
        · rw [List.getElem?_eq_none h] at hu; cases hu
      rw [brv_length, hll] at ht
      have hg := brv_get ((List.range len).map f) (t / 2) (by rw [hll]; omega) (t % 2) (by omega)
      have et : t / 2 * 2 + t % 2 = t := by omega
      rw [et, hu] at hg
      simp only [List.getElem_map, List.getElem_range] at hg
      have := hfs (t / 2) (by omega) (t % 2) u hg.symm
      rw [et] at this
      exact this
set_option maxRecDepth 100000 in
theorem sched_of {H : Type} {enc : TypeId × Value → H} {W : World} {r : Reach} {b0 : Nat} {sp : Nat → Bool} {hd : Bool} {v : Value} {d : DataW H} {p : List MemPlace}
    (hv : Value.okWide Try.prog W r b0 24 v) (h : DataW.Trod enc Try.prog W 0 sp hd 24 v d p) :
    ∃ (A : Option Addr) (l : List Br) (c : Nat) (ded cred lbp most least : Int), v = .agg #[.slice A l.length c, .int .i64 ded, .int .i64 cred, .int .i64 lbp, .int .i64 most, .int .i64 least] ∧ RdS W W.heap.size A l ∧ l.length ≤ 9223372036854775807 := by
  obtain ⟨v0, v1, v2, v3, v4, v5, y0, y1, y2, y3, y4, y5, n, rfl, _, _, t0, t1, t2, t3, t4, t5⟩ := Frame.open_agg6 Try.underlying24 (by kernel_rfl) (by kernel_rfl) hv h
  obtain ⟨A, l, c, rfl, hr, hl⟩ := brs_of t0
  obtain ⟨b1, e1, _, _⟩ := DataW.trod_int Try.underlying2 t1
  obtain ⟨b2, e2, _, _⟩ := DataW.trod_int Try.underlying2 t2
  obtain ⟨b3, e3, _, _⟩ := DataW.trod_int Try.underlying3 t3
  obtain ⟨b4, e4, _, _⟩ := DataW.trod_int Try.underlying3 t4
  obtain ⟨b5, e5, _, _⟩ := DataW.trod_int Try.underlying2 t5
  simp at e1 e2 e3 e4 e5
  subst e1 e2 e3 e4 e5
  exact ⟨A, l, c, b1, b2, b3, b4, b5, rfl, hr, hl⟩
set_option maxRecDepth 100000 in
theorem ret_of {H : Type} {enc : TypeId × Value → H} {W : World} {r : Reach} {b0 : Nat} {sp : Nat → Bool} {hd : Bool} {v : Value} {d : DataW H} {p : List MemPlace}
    (hv : Value.okWide Try.prog W r b0 26 v) (h : DataW.Trod enc Try.prog W 0 sp hd 26 v d p) :
    ∃ per due filed inc wh : Int, v = .agg #[.int .i64 per, .int .i64 due, .int .i64 filed, .int .i64 inc, .int .i64 wh] := by
  obtain ⟨v0, v1, v2, v3, v4, y0, y1, y2, y3, y4, n, rfl, _, _, t0, t1, t2, t3, t4⟩ := Frame.open_agg5 Try.underlying26 (by kernel_rfl) (by kernel_rfl) hv h
  obtain ⟨b0, e0, _, _⟩ := DataW.trod_int Try.underlying3 t0
  obtain ⟨b1, e1, _, _⟩ := DataW.trod_int Try.underlying3 t1
  obtain ⟨b2, e2, _, _⟩ := DataW.trod_int Try.underlying3 t2
  obtain ⟨b3, e3, _, _⟩ := DataW.trod_int Try.underlying2 t3
  obtain ⟨b4, e4, _, _⟩ := DataW.trod_int Try.underlying2 t4
  simp at e0 e1 e2 e3 e4
  subst e0 e1 e2 e3 e4
  exact ⟨b0, b1, b2, b3, b4, rfl⟩
end Go.Proofs.Ytkgoaodpjeonnaa
