/- Parts of the proof, one behind the other: A drawn region of reads with one forced tail: the world behind the draw under a name. Over any program. -/
import Derived.Test.YtlmejpkngnilcaaGreatDoorProg
import Derived.StillTailTactics
namespace Go.Proofs.YtlmejpkngnilcaaGreatDoor


theorem region_still_tail {P : Program} {id : Nat} {Q : Exit → Act → World → Prop} {a : Act} {w V : World} {l : List Oper} (n : Nat) (hm : P.follows .mixedOrders = true) (hB : Region.lexTailB .any l.toArray n = true) (hV : w.drew = V)
    (h : wpStill P l.toArray V (fun a' => wpList P l.toArray Q (l.drop n) a' V) (l.take n) a) : (Code.region id l.toArray true).wp P Q a w := by
  subst hV
  exact wp_region_still_tail n hm hB h
end Go.Proofs.YtlmejpkngnilcaaGreatDoor
