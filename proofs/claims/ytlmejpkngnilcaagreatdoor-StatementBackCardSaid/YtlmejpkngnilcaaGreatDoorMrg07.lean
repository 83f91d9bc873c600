/- Parts of the proof, one behind the other: A world for the witness in which the listed tables lie. -/
import Derived.Test.YtlmejpkngnilcaaGreatDoorCards
import Derived.ProofKit
namespace Go.Proofs.YtlmejpkngnilcaaGreatDoor
open Go.ChangeShapes Go.WideShapes Go.ChangeAt Go.RowKit
namespace Frame

/-- The cells of a listed table of integers. -/
def laidCells1 : DataW Unit → List Value
  | .lit (.int k n) => [.int k n]
  | .lit (.bool b) => [.bool b]
  | _ => []
def laidCells2 : DataW Unit → List Value
  | .agg ds => ds.flatMap laidCells1
  | d => laidCells1 d
def laidCells : DataW Unit → List Value
  | .agg ds => ds.flatMap laidCells2
  | d => laidCells1 d
/-- Block g holds the table. -/
def layAt (g : Nat) (d : DataW Unit) (h : Array Obj) : Array Obj := h.modify g fun
  | .cells _ t frozen => .cells (laidCells d).toArray t frozen
  | o => o
end Frame
end Go.Proofs.YtlmejpkngnilcaaGreatDoor
