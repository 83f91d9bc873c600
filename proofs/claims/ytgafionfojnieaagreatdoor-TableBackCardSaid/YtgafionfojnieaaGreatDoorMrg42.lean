/- Parts of the proof, one behind the other: The contract of ref11.record (written by a program). -/
import Derived.Test.YtgafionfojnieaaGreatDoorMrg40
namespace Go.Proofs.YtgafionfojnieaaGreatDoor
open Go.RowKit
end Go.Proofs.YtgafionfojnieaaGreatDoor
