/- Arguments opened: bytes. -/
import Derived.Test.YtaiokogbhfliiaaGreatDoorQDoorY
namespace Go.Proofs.YtaiokogbhfliiaaGreatDoor
open Go.ChangeShapes Go.WideShapes Go.ChangeAt Go.RowKit

/-- What a law is told of a slice of bytes that came in. -/
theorem bytes_of {H : Type} {enc : TypeId × Value → H} {W : World} {hd : Bool} {a : Option Addr} {len cap : Nat} {d : DataW H} {p : List MemPlace}
    (h : DataW.Trod enc Tryz.prog W 0 (fun _ => true) hd 23 (.slice a len cap) d p) :
    ∃ l : List UInt8, len = l.length ∧ l.length ≤ cap ∧ cap ≤ 9223372036854775807 ∧ RdB W W.heap.size a l := by
  obtain ⟨fuel, hf⟩ := h
  obtain ⟨A, l, c, hv, h1, h2, h3⟩ := byts_of hf
  injection hv with q1 q2 q3
  subst q1 q2 q3
  exact ⟨l, rfl, h1, h2, h3⟩
end Go.Proofs.YtaiokogbhfliiaaGreatDoor
