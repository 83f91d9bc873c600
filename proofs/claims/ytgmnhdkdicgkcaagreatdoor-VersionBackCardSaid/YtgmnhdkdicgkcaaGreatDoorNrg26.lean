/- Parts of the proof, one behind the other: The row's last step where of the world behind the call 'Below' alone is known (after the guide's page of small lemmas). -/
import Derived.Below
import Derived.ChangeSame
namespace Go.Proofs.YtgmnhdkdicgkcaaGreatDoor
open Go.RowKit Go.WideShapes Go.ChangeShapes
section
variable {H : Type} {enc : TypeId × Value → H} {P : Program}
end
end Go.Proofs.YtgmnhdkdicgkcaaGreatDoor
