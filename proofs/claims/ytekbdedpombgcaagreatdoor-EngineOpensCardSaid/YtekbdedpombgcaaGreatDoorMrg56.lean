/- Parts of the proof, one behind the other: Facts of the row, each by itself. -/
import Derived.Test.YtekbdedpombgcaaGreatDoorCards
import Derived.Test.YtekbdedpombgcaaGreatDoorTie
import Derived.JoinedCond
import Derived.ProofKit
namespace Go.Proofs.YtekbdedpombgcaaGreatDoor.engineOpens
open Go.ChangeShapes Go.WideShapes Go.ChangeAt Go.RowKit
theorem k9 : ((Rows.engineOpensRow.inPlace == Tryz.pinned.checked.prog.inPlace 3)) = true := by kernel_rfl
theorem k10 : ((Rows.engineOpensRow.unfollowed == Tryz.pinned.checked.prog.unfollowed 3)) = true := by kernel_rfl
end Go.Proofs.YtekbdedpombgcaaGreatDoor.engineOpens
