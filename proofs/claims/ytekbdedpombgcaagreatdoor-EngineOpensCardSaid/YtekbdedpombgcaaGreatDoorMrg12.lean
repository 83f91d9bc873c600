/- Parts of the proof, one behind the other: Four ints by value, opened. -/
import Derived.Test.YtekbdedpombgcaaGreatDoorCards
import Derived.Test.YtekbdedpombgcaaGreatDoorTie
import Derived.Test.YtekbdedpombgcaaGreatDoorChecked
import Derived.Test.YtekbdedpombgcaaGreatDoorMrg02
import Derived.WalkKit
import Derived.ProofKit
import Derived.OpenShut
import Derived.ShutString
import Derived.ChangeOld
import Derived.Below
import Derived.ChangeSame
import Derived.Lib.SmallJoins
import Derived.Deep.DeepHandedRow
import Derived.Deep.Slices
import Derived.Deep.Fields
import Derived.Test.YtekbdedpombgcaaGreatDoorMrg11
namespace Go.Proofs.YtekbdedpombgcaaGreatDoor
open Go.ChangeShapes Go.WideShapes Go.ChangeAt Go.RowKit

set_option maxRecDepth 100000 in
theorem four_of {H : Type} {enc : TypeId × Value → H} {W : World} {r : Reach} {b0 : Nat} {sp : Nat → Bool} {hd : Bool} {v : Value} {d : DataW H} {p : List MemPlace}
    (hv : Value.okWide Tryz.prog W r b0 22 v) (h : DataW.Trod enc Tryz.prog W 0 sp hd 22 v d p) :
    ∃ a b c d : Int, v = .agg #[.int .i64 a, .int .i64 b, .int .i64 c, .int .i64 d] := by
  obtain ⟨cs, rfl, hsz, _⟩ : ∃ cs, v = .agg cs ∧ cs.size = Tryz.prog.cellsOf 22 ∧ Row.okWide Tryz.prog W r b0 22 cs := by
    simpa [Value.okWide, Tryz.underlying22] using hv
  have h4 : Tryz.prog.cellsOf 22 = 4 := by kernel_rfl
  have h1 : Tryz.prog.cellsOf 3 = 1 := by kernel_rfl
  rw [h4] at hsz
  obtain ⟨l⟩ := cs
  match l, hsz with
  | [c0, c1, c2, c3], _ =>
    obtain ⟨fuel, hf⟩ := h
    obtain ⟨xs, m, _, _, _, hl, hel⟩ := DataW.trod_array Tryz.underlying22 hf
    have t0 := hel 0 (by omega)
    have t1 := hel 1 (by omega)
    have t2 := hel 2 (by omega)
    have t3 := hel 3 (by omega)
    rw [h1] at t0 t1 t2 t3
    rw [List.getElem?_eq_getElem (by omega)] at t0 t1 t2 t3
    have t0' : DataW.trod enc Tryz.prog W 0 sp hd m 3 [c0] = some xs[0] := t0
    have t1' : DataW.trod enc Tryz.prog W 0 sp hd m 3 [c1] = some xs[1] := t1
    have t2' : DataW.trod enc Tryz.prog W 0 sp hd m 3 [c2] = some xs[2] := t2
    have t3' : DataW.trod enc Tryz.prog W 0 sp hd m 3 [c3] = some xs[3] := t3
    obtain ⟨b0, e0, _, _⟩ := DataW.trod_int Tryz.underlying3 t0'
    obtain ⟨b1, e1, _, _⟩ := DataW.trod_int Tryz.underlying3 t1'
    obtain ⟨b2, e2, _, _⟩ := DataW.trod_int Tryz.underlying3 t2'
    obtain ⟨b3, e3, _, _⟩ := DataW.trod_int Tryz.underlying3 t3'
    simp at e0 e1 e2 e3
    subst e0 e1 e2 e3
    exact ⟨b0, b1, b2, b3, rfl⟩
end Go.Proofs.YtekbdedpombgcaaGreatDoor
