/- Parts of the proof, one behind the other: Structures of Go's library at this seat's translation, laid by the kit's shelf: mclone. No condition. -/
import Derived.Shelf.SlMaps.Clone
import Derived.Test.YtgmnhdkdicgkcaaGreatDoorProg
namespace Go.Proofs
open Go.Shelf
def Tryz.mclone_ren : Go.Shelf.Ren := ⟨fun | 5 => 82 | 7 => 140 | n => n, fun | 23 => 104 | 25 => 9 | 3 => 128 | 4 => 4 | 20 => 20 | n => n, fun | n => n⟩
theorem Tryz.mclone : Go.Proofs.SlLaysW.n5 Tryz.prog Tryz.mclone_ren := {
 mixed := by kernel_rfl
 f5 := ⟨Tryz.f82.name, by decide, Tryz.func82.trans (congrArg some (by kernel_rfl))⟩
 f7 := Tryz.func140.trans (congrArg some (by kernel_rfl))
 t4 := Tryz.underlying4
 a4 := Tryz.isAgg4
 z4 := Tryz.sizeOf4
 v4 := Tryz.zeroValue4
 t20 := Tryz.underlying20
 a20 := Tryz.isAgg20
 z20 := Tryz.sizeOf20
 v20 := Tryz.zeroValue20
 t23 := Tryz.underlying104
 a23 := Tryz.isAgg104
 z23 := Tryz.sizeOf104
 v23 := Tryz.zeroValue104 }
end Go.Proofs
