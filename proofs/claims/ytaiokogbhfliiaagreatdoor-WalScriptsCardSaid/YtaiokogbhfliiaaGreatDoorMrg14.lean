/- Parts of the proof, one behind the other: Contracts of package bytes at one byte: IndexByte, Count, Index, and Replace, ReplaceAll of one byte by some.; bytes.Replace of one byte by two.; The contracts of the program's number and text. -/
import Derived.Test.YtaiokogbhfliiaaGreatDoorMrg03
import Derived.Test.YtaiokogbhfliiaaGreatDoorMrg12
import Derived.Lib.BytesEntry
import Derived.Deep.RegionLaw
import Derived.Deep.RegionHeld
import Derived.Test.YtaiokogbhfliiaaGreatDoorMrg01
import Derived.Deep.RegionHeldLaw
import Derived.Test.YtaiokogbhfliiaaGreatDoorMrg13
import Derived.Test.YtaiokogbhfliiaaGreatDoorMrg11
namespace Go.Proofs.YtaiokogbhfliiaaGreatDoor
open Go.RowKit

section
variable {P : Program} (w : World)
end

end Go.Proofs.YtaiokogbhfliiaaGreatDoor

namespace Go.Proofs.YtaiokogbhfliiaaGreatDoor
open Go.RowKit

end Go.Proofs.YtaiokogbhfliiaaGreatDoor

namespace Go.Proofs.YtaiokogbhfliiaaGreatDoor
open Go.RowKit

theorem results_c3 {P : Program} {fn : Func} {p u v : Tmp} {ty : TypeId} (h : fn.results = #[.cell p ty, .tmp u, .tmp v]) (tmps : Array Value) (w : World) (g : Nat) (t : TypeId) (cs : Array Value) (fr : Nat × Nat) (d : TypeDesc)
    (hp : tmps.getD p undef = .pointer (some ⟨g, 0, none⟩)) (hg : w.heap[g]? = some (.cells cs t fr)) (hu : P.underlying ty = some d) (hd : (match d, hu with | .struct _, _ => true | .array _ _, _ => true | _, _ => false) = true) (hs : (P.info? ty).map (fun x => x.size) = some cs.size) :
    (results fn tmps).run P w = .ok (.tuple #[.agg cs, tmps.getD u undef, tmps.getD v undef]) w := by
  have h1 := results_cell_row (P := P) (fn := { fn with results := #[.cell p ty] }) (p := p) (ty := ty) rfl tmps w g t cs fr d hp hg hu hd hs
  have h2 : ((asAddr (tmps.getD p undef)).run P w).andThen (fun a w1 => (loadVar ty a).run P w1) = .ok (.agg cs) w := by
    simpa [results] using h1
  rw [hp] at h2
  have h3 : (loadVar ty ⟨g, 0, none⟩).run P w = .ok (.agg cs) w := by simpa [asAddr] using h2
  have hp2 := hp
  simp at hp2
  simp [results, h, asAddr, hp2, h3]
end Go.Proofs.YtaiokogbhfliiaaGreatDoor
