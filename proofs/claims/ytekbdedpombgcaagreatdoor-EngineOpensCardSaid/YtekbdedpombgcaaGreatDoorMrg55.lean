/- Parts of the proof, one behind the other: Facts of the row, each by itself. -/
import Derived.Test.YtekbdedpombgcaaGreatDoorCards
import Derived.Test.YtekbdedpombgcaaGreatDoorTie
import Derived.JoinedCond
import Derived.ProofKit
namespace Go.Proofs.YtekbdedpombgcaaGreatDoor.engineOpens
open Go.ChangeShapes Go.WideShapes Go.ChangeAt Go.RowKit
def kindsOk (P : Program) (fn : Func) (c : OpenClaim) : Bool := (c.kinds == (if c.domain.isEmpty then [] else fn.params.toList.map fun t => match P.underlying t with | some (.int k) => some k | _ => none))
theorem k0 : (Rows.engineOpensRow.wf (OpenSpec.ofChange (OpenSpec.ofChange Rows.engineOpensSpec).bare)) = true := by kernel_rfl
theorem k1 : (laidOutB Tryz.pinned.checked.prog) = true := by kernel_rfl
theorem k2 : (mapsRowed Tryz.pinned.checked.prog) = true := by kernel_rfl
theorem k3 : (Tryz.f3.params.all (Tryz.pinned.checked.prog.readableRec ·)) = true := by kernel_rfl
theorem k4 : (namedTie Tryz.pinned.checked.prog Rows.engineOpensRow.named (OpenSpec.ofChange Rows.engineOpensSpec).bare.vars) = true := by kernel_rfl
theorem k5 : ((Rows.engineOpensRow.stops == [])) = true := by kernel_rfl
theorem k6 : ((Tryz.pinned.checked.prog.stops == [])) = true := by kernel_rfl
theorem k7 : ((Rows.engineOpensRow.knobs == [])) = true := by kernel_rfl
theorem k8 : ((Tryz.pinned.checked.prog.stopKnobs == [])) = true := by kernel_rfl
end Go.Proofs.YtekbdedpombgcaaGreatDoor.engineOpens
