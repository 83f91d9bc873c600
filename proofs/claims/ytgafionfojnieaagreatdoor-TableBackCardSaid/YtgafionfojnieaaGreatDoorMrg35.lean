/- Parts of the proof, one behind the other: Structures of Go's library at this seat's translation, laid by the kit's shelf: hasRec. No condition. -/
import Derived.Shelf.SlicesQ.IndexFunc
import Derived.Test.YtgafionfojnieaaGreatDoorProg
namespace Go.Proofs
open Go.Shelf
def Tryz.hasRec_ren : Go.Shelf.Ren := ⟨fun | 8 => 39 | 6 => 74 | n => n, fun | 22 => 23 | 23 => 35 | 25 => 99 | 4 => 4 | 3 => 3 | 0 => 0 | n => n, fun | n => n⟩
theorem Tryz.hasRec : Go.Proofs.SlLaysH0.n8 Tryz.prog Tryz.hasRec_ren := {
 mixed := by kernel_rfl
 f6 := ⟨Tryz.f74.name, by decide, Tryz.func74.trans (congrArg some (by kernel_rfl))⟩
 f8 := ⟨Tryz.f39.name, by decide, Tryz.func39.trans (congrArg some (by kernel_rfl))⟩
 t0 := Tryz.underlying0
 a0 := Tryz.isAgg0
 z0 := Tryz.sizeOf0
 v0 := Tryz.zeroValue0
 t3 := Tryz.underlying3
 a3 := Tryz.isAgg3
 z3 := Tryz.sizeOf3
 v3 := Tryz.zeroValue3
 t4 := Tryz.underlying4
 a4 := Tryz.isAgg4
 z4 := Tryz.sizeOf4
 v4 := Tryz.zeroValue4
 t22 := Tryz.underlying23
 a22 := Tryz.isAgg23
 z22 := Tryz.sizeOf23
 v22 := Tryz.zeroValue23
 t25 := Tryz.underlying99
 a25 := Tryz.isAgg99
 z25 := Tryz.sizeOf99
 v25 := Tryz.zeroValue99 }
end Go.Proofs
