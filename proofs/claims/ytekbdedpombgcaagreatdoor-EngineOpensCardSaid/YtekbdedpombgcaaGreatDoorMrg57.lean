/- Parts of the proof, one behind the other: Facts of the row, each by itself. -/
import Derived.Test.YtekbdedpombgcaaGreatDoorCards
import Derived.Test.YtekbdedpombgcaaGreatDoorTie
import Derived.JoinedCond
import Derived.ProofKit
namespace Go.Proofs.YtekbdedpombgcaaGreatDoor.engineOpens
open Go.ChangeShapes Go.WideShapes Go.ChangeAt Go.RowKit
theorem k11 : ((Rows.engineOpensRow.recurses == Tryz.pinned.checked.prog.recurses 3)) = true := by kernel_rfl
theorem k12 : ((Rows.engineOpensRow.named == Tryz.pinned.checked.prog.varsNamed 3)) = true := by kernel_rfl
end Go.Proofs.YtekbdedpombgcaaGreatDoor.engineOpens
