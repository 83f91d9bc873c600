/- Parts of the proof, one behind the other: Arguments opened: a state. -/
import Derived.Test.YtgmnhdkdicgkcaaGreatDoorNrg25
namespace Go.Proofs.YtgmnhdkdicgkcaaGreatDoor
open Go.ChangeShapes Go.WideShapes Go.ChangeAt Go.RowKit

section
variable {H : Type} {enc : TypeId × Value → H} {W : World} {hd : Bool}
set_option maxRecDepth 100000 in
theorem state_of {r : Reach} {b0 : Nat} {v : Value} {d : DataW H} {p : List MemPlace} (hv : Value.okWide Tryz.prog W r b0 24 v) (h : DataW.Trod enc Tryz.prog W 0 (fun _ => true) hd 24 v d p) :
    ∃ (A : Option Addr) (l : List Vf) (c : Nat) (lg nx : Int), v = .agg #[.slice A l.length c, .int .i64 lg, .int .i64 nx] ∧ RdV W W.heap.size A l ∧ l.length ≤ 9223372036854775807 ∧ (∀ x ∈ l, x.first.length ≤ 9223372036854775807 ∧ x.last.length ≤ 9223372036854775807) := by
  obtain ⟨cs, n, rfl, hsz, hg⟩ := open_struct Tryz.underlying24 (by kernel_rfl) (by kernel_rfl) hv h
  obtain ⟨u0, y0, c0, t0⟩ := hg 0 _ rfl
  obtain ⟨u1, y1, c1, t1⟩ := hg 1 _ rfl
  obtain ⟨u2, y2, c2, t2⟩ := hg 2 _ rfl
  obtain ⟨A, l, c, rfl, hr, h1, h2⟩ := vfs_of t0
  obtain ⟨b1, e1, _, _⟩ := DataW.trod_int Tryz.underlying3 t1
  obtain ⟨b2, e2, _, _⟩ := DataW.trod_int Tryz.underlying3 t2
  simp at e1 e2
  subst e1 e2
  refine ⟨A, l, c, b1, b2, ?_, hr, h1, h2⟩
  congr 1
  obtain ⟨l⟩ := cs
  match l, hsz, c0, c1, c2 with
  | [v0, v1, v2], _, c0, c1, c2 => simp at c0 c1 c2; subst c0 c1 c2; rfl
end
end Go.Proofs.YtgmnhdkdicgkcaaGreatDoor
