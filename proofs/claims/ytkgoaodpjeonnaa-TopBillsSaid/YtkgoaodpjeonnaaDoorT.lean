/- A pair of ints by value, opened. -/
import Derived.Test.YtkgoaodpjeonnaaDoorS
namespace Go.Proofs.Ytkgoaodpjeonnaa
open Go.ChangeShapes Go.WideShapes Go.ChangeAt Go.RowKit

set_option maxRecDepth 100000 in
theorem pair_of {H : Type} {enc : TypeId × Value → H} {W : World} {r : Reach} {b0 : Nat} {sp : Nat → Bool} {hd : Bool} {v : Value} {d : DataW H} {p : List MemPlace}
    (hv : Value.okWide Try.prog W r b0 27 v) (h : DataW.Trod enc Try.prog W 0 sp hd 27 v d p) :
    ∃ a b : Int, v = .agg #[.int .i64 a, .int .i64 b] := by
  obtain ⟨cs, rfl, hsz, _⟩ : ∃ cs, v = .agg cs ∧ cs.size = Try.prog.cellsOf 27 ∧ Row.okWide Try.prog W r b0 27 cs := by
    simpa [Value.okWide, Try.underlying27] using hv
  have h2 : Try.prog.cellsOf 27 = 2 := by kernel_rfl
  have h1 : Try.prog.cellsOf 3 = 1 := by kernel_rfl
  rw [h2] at hsz
  obtain ⟨l⟩ := cs
  match l, hsz with
  | [c0, c1], _ =>
    obtain ⟨fuel, hf⟩ := h
    obtain ⟨xs, m, _, _, _, hl, hel⟩ := DataW.trod_array Try.underlying27 hf
    have t0 := hel 0 (by omega)
    have t1 := hel 1 (by omega)
    rw [h1] at t0 t1
    rw [List.getElem?_eq_getElem (by omega)] at t0 t1
    have t0' : DataW.trod enc Try.prog W 0 sp hd m 3 [c0] = some xs[0] := t0
    have t1' : DataW.trod enc Try.prog W 0 sp hd m 3 [c1] = some xs[1] := t1
    obtain ⟨b0, e0, _, _⟩ := DataW.trod_int Try.underlying3 t0'
    obtain ⟨b1, e1, _, _⟩ := DataW.trod_int Try.underlying3 t1'
    simp at e0 e1
    subst e0 e1
    exact ⟨b0, b1, rfl⟩
end Go.Proofs.Ytkgoaodpjeonnaa
