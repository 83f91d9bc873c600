/- Parts of the proof, one behind the other: Structures of Go's library at this seat's translation, laid by the kit's shelf: mclone, growB. No condition. -/
import Derived.Shelf.SlMaps.Clone
import Derived.Shelf.Spec.SlicesGrow
import Derived.Test.YtekbdedpombgcaaGreatDoorProg
namespace Go.Proofs
open Go.Shelf
def Tryz.mclone_ren : Go.Shelf.Ren := ⟨fun | 5 => 158 | 7 => 206 | n => n, fun | 23 => 41 | 25 => 9 | 3 => 103 | 4 => 4 | 20 => 20 | n => n, fun | n => n⟩
theorem Tryz.mclone : Go.Proofs.SlLaysW.n5 Tryz.prog Tryz.mclone_ren := {
  mixed := by kernel_rfl
  f5 := ⟨Tryz.f158.name, by decide, Tryz.func158.trans (congrArg some (by kernel_rfl))⟩
  f7 := Tryz.func206.trans (congrArg some (by kernel_rfl))
  t4 := Tryz.underlying4
  a4 := Tryz.isAgg4
  z4 := Tryz.sizeOf4
  v4 := Tryz.zeroValue4
  t20 := Tryz.underlying20
  a20 := Tryz.isAgg20
  z20 := Tryz.sizeOf20
  v20 := Tryz.zeroValue20
  t23 := Tryz.underlying41
  a23 := Tryz.isAgg41
  z23 := Tryz.sizeOf41
  v23 := Tryz.zeroValue41 }
def Tryz.growB_ren : Go.Shelf.Ren := ⟨fun | 4 => 181 | n => n, fun | 22 => 34 | 25 => 5 | 3 => 3 | 4 => 4 | 9 => 9 | 20 => 20 | 0 => 0 | n => n, fun | n => n⟩
theorem Tryz.growB : Go.Proofs.Lays8.n4 Tryz.prog Tryz.growB_ren := {
  mixed := by kernel_rfl
  f4 := ⟨Tryz.f181.name, by decide, Tryz.func181.trans (congrArg some (by kernel_rfl))⟩
  t0 := Tryz.underlying0
  a0 := Tryz.isAgg0
  z0 := Tryz.sizeOf0
  v0 := Tryz.zeroValue0
  t3 := Tryz.underlying3
  a3 := Tryz.isAgg3
  z3 := Tryz.sizeOf3
  v3 := Tryz.zeroValue3
  t4 := Tryz.underlying4
  a4 := Tryz.isAgg4
  z4 := Tryz.sizeOf4
  v4 := Tryz.zeroValue4
  t9 := Tryz.underlying9
  a9 := Tryz.isAgg9
  z9 := Tryz.sizeOf9
  v9 := Tryz.zeroValue9
  t20 := Tryz.underlying20
  a20 := Tryz.isAgg20
  z20 := Tryz.sizeOf20
  v20 := Tryz.zeroValue20
  t22 := Tryz.underlying34
  a22 := Tryz.isAgg34
  z22 := Tryz.sizeOf34
  v22 := Tryz.zeroValue34 }
end Go.Proofs
