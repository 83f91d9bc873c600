/- Parts of the proof, one behind the other: Boxes: blocks of one cell. -/
import Derived.Test.YtlmejpkngnilcaaGreatDoorMrg01
import Derived.RangeFuncNested
import Derived.Shelf.Abstract
import Derived.Shelf.RegionOpen
import Derived.OwnWalkIn
import Derived.TacticsInMore
import Derived.LoopNIn
import Derived.LoopIn
namespace Go.Proofs.YtlmejpkngnilcaaGreatDoor
open Go.RowKit

theorem box_cell {W : World} {B : Nat} {v : Value} {t : TypeId} (h : W.heap[B]? = some (.cells #[v] t)) : W.cell? ⟨B, 0, none⟩ = some v := by simp [World.cell?, h]
theorem box_frozen {W : World} {B : Nat} {v : Value} {t : TypeId} (h : W.heap[B]? = some (.cells #[v] t)) : W.frozen? ⟨B, 0, none⟩ = false := by simp [World.frozen?, h]
theorem box_set {W : World} {B : Nat} {v : Value} {t : TypeId} (h : W.heap[B]? = some (.cells #[v] t)) (u : Value) : (W.setCell ⟨B, 0, none⟩ u).heap[B]? = some (.cells #[u] t) := by
  obtain ⟨hlt, hk⟩ := Array.getElem?_eq_some_iff.1 h
  show (W.heap.modify B _)[B]? = _
  rw [Array.getElem?_eq_getElem (by rw [Array.size_modify]; exact hlt), Array.getElem_modify_self, hk]
  rfl
theorem box_set_other {W : World} {B C : Nat} (hne : B ≠ C) (u : Value) : (W.setCell ⟨C, 0, none⟩ u).heap[B]? = W.heap[B]? := Below.heap_setCell W ⟨C, 0, none⟩ u B hne
theorem grown_of_below {wr w2 : World} (hb : Below wr.heap.size wr w2) : wr.grownBy w2 none := ⟨hb.os, hb.tape, hb.output, hb.size, fun k hk _ => hb.block k hk⟩
end Go.Proofs.YtlmejpkngnilcaaGreatDoor
