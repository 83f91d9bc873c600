/- Parts of the proof, one behind the other: Contracts of Go's library, laid by the kit's shelf at this seat's translation: strings_Count_one. No condition beyond those that each states. -/
import Derived.Shelf.Strings.Count
import Derived.Test.YtlmejpkngnilcaaGreatDoorProg
namespace Go.Proofs
open Go.Shelf
def Tryz.lays138_ren : Go.Shelf.Ren := ⟨fun | 138 => 75 | 195 => 102 | 218 => 104 | 143 => 76 | 219 => 105 | 217 => 73 | 225 => 137 | 224 => 138 | 267 => 139 | 266 => 101 | 314 => 157 | n => n, fun | 9 => 9 | 3 => 3 | 4 => 4 | 5 => 5 | 0 => 0 | 46 => 126 | 146 => 218 | 51 => 102 | n => n, fun | 1 => 3 | n => n⟩
theorem Tryz.lays138 : Go.Proofs.Lays.n138 Tryz.prog Tryz.lays138_ren := {
  mixed := by kernel_rfl
  f138 := Tryz.func75.trans (congrArg some (by kernel_rfl))
  f143 := Tryz.func76.trans (congrArg some (by kernel_rfl))
  f195 := Tryz.func102.trans (congrArg some (by kernel_rfl))
  f217 := Tryz.func73.trans (congrArg some (by kernel_rfl))
  f218 := Tryz.func104.trans (congrArg some (by kernel_rfl))
  f219 := Tryz.func105.trans (congrArg some (by kernel_rfl))
  f224 := Tryz.func138.trans (congrArg some (by kernel_rfl))
  f225 := Tryz.func137.trans (congrArg some (by kernel_rfl))
  f266 := Tryz.func101.trans (congrArg some (by kernel_rfl))
  f267 := Tryz.func139.trans (congrArg some (by kernel_rfl))
  f314 := Tryz.func157.trans (congrArg some (by kernel_rfl))
  t0 := Tryz.underlying0
  a0 := Tryz.isAgg0
  z0 := Tryz.sizeOf0
  v0 := Tryz.zeroValue0
  t3 := Tryz.underlying3
  a3 := Tryz.isAgg3
  z3 := Tryz.sizeOf3
  v3 := Tryz.zeroValue3
  t4 := Tryz.underlying4
  a4 := Tryz.isAgg4
  z4 := Tryz.sizeOf4
  v4 := Tryz.zeroValue4
  t5 := Tryz.underlying5
  a5 := Tryz.isAgg5
  z5 := Tryz.sizeOf5
  v5 := Tryz.zeroValue5
  t9 := Tryz.underlying9
  a9 := Tryz.isAgg9
  z9 := Tryz.sizeOf9
  v9 := Tryz.zeroValue9
  t46 := Tryz.underlying126
  a46 := Tryz.isAgg126
  z46 := Tryz.sizeOf126
  v46 := Tryz.zeroValue126
  t51 := Tryz.underlying102
  a51 := Tryz.isAgg102
  z51 := Tryz.sizeOf102
  v51 := Tryz.zeroValue102
  t146 := Tryz.underlying218
  a146 := Tryz.isAgg218
  z146 := Tryz.sizeOf218
  v146 := Tryz.zeroValue218
  g1 := by kernel_rfl }
open Go.RowKit Go.Lib in
/-- strings.Count AT A substr OF ONE BYTE ('hp'): "Count counts the number of non-overlapping instances of substr in s.": IT RETURNS 'Lib.countByte s (that byte)'; the world is as it was. ✋ NO CONTRACT HERE YET at an empty substr (utf8.RuneCountInString) or at a longer one (a loop over strings.Index). (LAID: no walk: one application.) -/
theorem Tryz.strings_Count_one (s : ByteArray) (c : UInt8) (w : World) :
    Calls Tryz.prog 75 #[.string s, .string ⟨#[c]⟩] w fun e w' => e = .returned (.int .i64 (Lib.countByte s.data.toList c)) ∧ w' = w := Any.strings_Count_one Tryz.lays138 s c w
end Go.Proofs
