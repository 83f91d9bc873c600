/- Parts of the proof, one behind the other: Facts of the row, each by itself. -/
import Derived.Test.YtekbdedpombgcaaGreatDoorCards
import Derived.Test.YtekbdedpombgcaaGreatDoorTie
import Derived.Test.YtekbdedpombgcaaGreatDoorMrg55
import Derived.Test.YtekbdedpombgcaaGreatDoorMrg56
import Derived.Test.YtekbdedpombgcaaGreatDoorMrg57
import Derived.JoinedCond
import Derived.ProofKit
namespace Go.Proofs.YtekbdedpombgcaaGreatDoor.engineOpens
open Go.ChangeShapes Go.WideShapes Go.ChangeAt Go.RowKit
theorem k13 : ((Rows.engineOpensRow.maps == (Tryz.f3.params.toList ++ (OpenSpec.ofChange Rows.engineOpensSpec).bare.plain.varTypes Tryz.pinned.checked.prog).any (Tryz.pinned.checked.prog.mapsRec ·))) = true := by kernel_rfl
theorem k14 : ((Rows.engineOpensRow.ifaces == (Tryz.f3.params.toList ++ (OpenSpec.ofChange Rows.engineOpensSpec).bare.plain.varTypes Tryz.pinned.checked.prog).any (Tryz.pinned.checked.prog.ifacesRec ·))) = true := by kernel_rfl
theorem k15 : ((Rows.engineOpensRow.mapsOut == Tryz.pinned.checked.prog.mapsAmong Tryz.f3.resultTypes.toList)) = true := by kernel_rfl
theorem k16 : ((Rows.engineOpensRow.loops == (Tryz.f3.params.toList ++ (OpenSpec.ofChange Rows.engineOpensSpec).bare.plain.varTypes Tryz.pinned.checked.prog).any (Tryz.pinned.checked.prog.loopsFrom ·))) = true := by kernel_rfl
theorem k17 : ((Rows.engineOpensRow.wideKeys == (Tryz.f3.params.toList ++ (OpenSpec.ofChange Rows.engineOpensSpec).bare.plain.varTypes Tryz.pinned.checked.prog ++ Tryz.f3.resultTypes.toList).any (Tryz.pinned.checked.prog.wideKeysFrom ·))) = true := by kernel_rfl
theorem k18 : ((OpenSpec.ofChange Rows.engineOpensSpec).bare.vars.all (Tryz.pinned.checked.prog.varReadable ·)) = true := by kernel_rfl
theorem k19 : (Tryz.f3.resultTypes.all (fun t => Tryz.pinned.checked.prog.readableRec t && decide (t < Tryz.pinned.checked.prog.types.size))) = true := by kernel_rfl
theorem k20 : ((Rows.engineOpensRow.ifacesOut == Tryz.f3.resultTypes.toList.any (Tryz.pinned.checked.prog.ifacesRec ·))) = true := by kernel_rfl
theorem k21 : ((Rows.engineOpensRow.loopsOut == Tryz.f3.resultTypes.toList.any (Tryz.pinned.checked.prog.loopsFrom ·))) = true := by kernel_rfl
theorem k22 : ((Rows.engineOpensRow.plainKeys == Tryz.pinned.checked.prog.plainKeys)) = true := by kernel_rfl
theorem k23 : (Rows.engineOpensRow.shortTexts.isNone) = true := by kernel_rfl
theorem k24 : (Tryz.pinned.checked.prog.stopsHeard) = true := by kernel_rfl
theorem k25 : (Tryz.pinned.checked.prog.mayEnter) = true := by kernel_rfl
theorem k26 : ((Rows.engineOpensRow.lifted == Tryz.pinned.checked.prog.liftsFinal)) = true := by kernel_rfl
theorem k27 : ((Tryz.pinned.checked.prog.make == some Rows.engineOpensRow.make)) = true := by kernel_rfl
theorem k28 : (kindsOk Tryz.pinned.checked.prog Tryz.f3 Rows.engineOpensRow) = true := by kernel_rfl
theorem k29 : ((Rows.engineOpensRow.pinned == Rows.engineOpensRow.pinnedBy)) = true := by kernel_rfl
theorem k30 : ((Rows.engineOpensRow.veiled == (Tryz.f3.params.toList ++ (OpenSpec.ofChange Rows.engineOpensSpec).bare.plain.varTypes Tryz.pinned.checked.prog ++ Tryz.f3.resultTypes.toList).any (Tryz.pinned.checked.prog.veiledRec ·))) = true := by kernel_rfl
theorem k31 : (Rows.engineOpensRow.veiledFits Tryz.pinned.checked.prog Tryz.f3.params.toList (Tryz.f3.params.toList ++ (OpenSpec.ofChange Rows.engineOpensSpec).bare.plain.varTypes Tryz.pinned.checked.prog ++ Tryz.f3.resultTypes.toList)) = true := by kernel_rfl
end Go.Proofs.YtekbdedpombgcaaGreatDoor.engineOpens
