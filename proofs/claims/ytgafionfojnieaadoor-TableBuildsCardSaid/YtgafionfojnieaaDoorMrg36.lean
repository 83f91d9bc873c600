/- Parts of the proof, one behind the other: Structures of Go's library at this seat's translation, laid by the kit's shelf: hasRec. No condition. -/
import Derived.Shelf.SlicesQ.IndexFunc
import Derived.Test.YtgafionfojnieaaDoorProg
namespace Go.Proofs
open Go.Shelf
def Tryd.hasRec_ren : Go.Shelf.Ren := ⟨fun | 8 => 14 | 6 => 38 | n => n, fun | 22 => 22 | 23 => 37 | 25 => 39 | 4 => 4 | 3 => 3 | 0 => 0 | n => n, fun | n => n⟩
theorem Tryd.hasRec : Go.Proofs.SlLaysH0.n8 Tryd.prog Tryd.hasRec_ren := {
  mixed := by kernel_rfl
  f6 := ⟨Tryd.f38.name, by decide, Tryd.func38.trans (congrArg some (by kernel_rfl))⟩
  f8 := ⟨Tryd.f14.name, by decide, Tryd.func14.trans (congrArg some (by kernel_rfl))⟩
  t0 := Tryd.underlying0
  a0 := Tryd.isAgg0
  z0 := Tryd.sizeOf0
  v0 := Tryd.zeroValue0
  t3 := Tryd.underlying3
  a3 := Tryd.isAgg3
  z3 := Tryd.sizeOf3
  v3 := Tryd.zeroValue3
  t4 := Tryd.underlying4
  a4 := Tryd.isAgg4
  z4 := Tryd.sizeOf4
  v4 := Tryd.zeroValue4
  t22 := Tryd.underlying22
  a22 := Tryd.isAgg22
  z22 := Tryd.sizeOf22
  v22 := Tryd.zeroValue22
  t25 := Tryd.underlying39
  a25 := Tryd.isAgg39
  z25 := Tryd.sizeOf39
  v25 := Tryd.zeroValue39 }
end Go.Proofs
