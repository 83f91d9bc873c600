/- Parts of the proof, one behind the other: Structures of Go's library at this seat's translation, laid by the kit's shelf: mclone. No condition. -/
import Derived.Shelf.SlMaps.Clone
import Derived.Test.YtaiokogbhfliiaaGreatDoorProg
namespace Go.Proofs
open Go.Shelf
def Tryz.mclone_ren : Go.Shelf.Ren := ⟨fun | 5 => 64 | 7 => 96 | n => n, fun | 23 => 75 | 25 => 9 | 3 => 105 | 4 => 4 | 20 => 20 | n => n, fun | n => n⟩
theorem Tryz.mclone : Go.Proofs.SlLaysW.n5 Tryz.prog Tryz.mclone_ren := {
  mixed := by kernel_rfl
  f5 := ⟨Tryz.f64.name, by decide, Tryz.func64.trans (congrArg some (by kernel_rfl))⟩
  f7 := Tryz.func96.trans (congrArg some (by kernel_rfl))
  t4 := Tryz.underlying4
  a4 := Tryz.isAgg4
  z4 := Tryz.sizeOf4
  v4 := Tryz.zeroValue4
  t20 := Tryz.underlying20
  a20 := Tryz.isAgg20
  z20 := Tryz.sizeOf20
  v20 := Tryz.zeroValue20
  t23 := Tryz.underlying75
  a23 := Tryz.isAgg75
  z23 := Tryz.sizeOf75
  v23 := Tryz.zeroValue75 }
end Go.Proofs
