/- Parts of the proof, one behind the other: The frame of a law's proof over listed tables: slices of parts that come in; a world for the witness in which the tables lie. (Opening a slice of structs after the guide's page on structs.) -/
import Derived.Test.YtgafionfojnieaaGreatDoorCards
import Derived.Test.YtgafionfojnieaaGreatDoorTie
import Derived.Test.YtgafionfojnieaaGreatDoorMrg08
import Derived.Test.YtgafionfojnieaaGreatDoorMrg07
import Derived.WalkKit
import Derived.ProofKit
import Derived.OpenShut
import Derived.ShutString
import Derived.ChangeOld
import Derived.Below
import Derived.ChangeSame
import Derived.Deep.DeepHandedRow
import Derived.Deep.Slices
import Derived.Deep.Fields
namespace Go.Proofs.YtgafionfojnieaaGreatDoor
open Go.ChangeShapes Go.WideShapes Go.ChangeAt Go.RowKit
namespace Frame
section
open Go.Deep
variable {H : Type} {enc : TypeId × Value → H} {P : Program} {w : World} {base : Nat} {spare : Nat → Bool} {held : Bool}
end
end Frame
theorem bytes_of {H : Type} {enc : TypeId × Value → H} {W : World} {hd : Bool} {a : Option Addr} {len cap : Nat} {d : DataW H} {p : List MemPlace}
   (h : DataW.Trod enc Tryz.prog W 0 (fun _ => true) hd 22 (.slice a len cap) d p) :
   ∃ l : List UInt8, len = l.length ∧ l.length ≤ cap ∧ cap ≤ 9223372036854775807 ∧ RdB W W.heap.size a l := by
 obtain ⟨fuel, hf⟩ := h
 have hr : ∃ zs, IsRow .u8 W a len cap zs := by
   rcases open_ints Tryz.underlying22 Tryz.underlying5 (by kernel_rfl) hf with ⟨hcs, _⟩ | ⟨x, l, c, zs, hcs, _, hl, hm, hz, _, hcell, hwz⟩
   · simp [Value.cells] at hcs
     obtain ⟨rfl, rfl, rfl⟩ := hcs
     exact ⟨[], .inl ⟨rfl, rfl, rfl, rfl⟩⟩
   · simp [Value.cells] at hcs
     obtain ⟨rfl, rfl, rfl⟩ := hcs
     exact ⟨zs, .inr ⟨_, rfl, hl, hm, by simpa using hz, hcell, hwz⟩⟩
 obtain ⟨zs, hr⟩ := hr
 exact hr.bytes
end Go.Proofs.YtgafionfojnieaaGreatDoor
