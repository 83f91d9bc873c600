/- Parts of the proof, one behind the other: The contracts of a table's Ends, Seqs, Len. -/
import Derived.Test.YtgafionfojnieaaGreatDoorMrg46
namespace Go.Proofs.YtgafionfojnieaaGreatDoor
open Go.RowKit
theorem tlen_any (base : Nat) (F : Nat → Prop) (t : Ti) (w : World) (h : TbAt base F t w) : Calls Tryz.prog 10 #[.pointer (some ⟨t.gt, 0, none⟩)] w fun e w' => e = .returned (.int .i64 t.many) ∧ w = w' := by
 have c := h.fcell.2.2.1
 go_enter Tryz.func10, Tryz.ntmps10
 go_wp2
 go_ret
 exact ⟨rfl, rfl⟩
end Go.Proofs.YtgafionfojnieaaGreatDoor
