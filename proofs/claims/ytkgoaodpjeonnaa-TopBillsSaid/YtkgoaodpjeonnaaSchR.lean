/- The contract of the reference's Right of a schedule. (Lines alike written by a program.) -/
import Derived.Test.YtkgoaodpjeonnaaSch
namespace Go.Proofs.Ytkgoaodpjeonnaa
open Go.RowKit

theorem heap_lt {w : World} {g : Nat} {o : Obj} (h : w.heap[g]? = some o) : g < w.heap.size := by
  rcases Nat.lt_or_ge g w.heap.size with hl | hl
  · exact hl
  · rw [Array.getElem?_eq_none hl] at h; cases h
/-- The boxed schedule. -/
def Box (w : World) (g : Nat) (A : Option Addr) (n c : Nat) (ded cred lbp most least : Int) : Prop := w.heap[g]? = some (.cells #[.slice A n c, .int .i64 ded, .int .i64 cred, .int .i64 lbp, .int .i64 most, .int .i64 least] 24)
section
variable {w w' : World} {g : Nat} {A : Option Addr} {n c : Nat} {ded cred lbp most least : Int}
theorem Box.below (h : Box w g A n c ded cred lbp most least) (hb : Below w.heap.size w w') : Box w' g A n c ded cred lbp most least := (hb.block _ (heap_lt h)).trans h
theorem Box.c0 (h : Box w g A n c ded cred lbp most least) : w.cell? ⟨g, 0, none⟩ = some (.slice A n c) := cell_of_row w g 0 _ _ (0, 0) h
theorem Box.c1 (h : Box w g A n c ded cred lbp most least) : w.cell? ⟨g, 1, none⟩ = some (.int .i64 ded) := cell_of_row w g 1 _ _ (0, 0) h
theorem Box.c2 (h : Box w g A n c ded cred lbp most least) : w.cell? ⟨g, 2, none⟩ = some (.int .i64 cred) := cell_of_row w g 2 _ _ (0, 0) h
theorem Box.c3 (h : Box w g A n c ded cred lbp most least) : w.cell? ⟨g, 3, none⟩ = some (.int .i64 lbp) := cell_of_row w g 3 _ _ (0, 0) h
theorem Box.c4 (h : Box w g A n c ded cred lbp most least) : w.cell? ⟨g, 4, none⟩ = some (.int .i64 most) := cell_of_row w g 4 _ _ (0, 0) h
theorem Box.c5 (h : Box w g A n c ded cred lbp most least) : w.cell? ⟨g, 5, none⟩ = some (.int .i64 least) := cell_of_row w g 5 _ _ (0, 0) h
theorem Box.new (w : World) : Box (w.alloc (.cells #[.slice A n c, .int .i64 ded, .int .i64 cred, .int .i64 lbp, .int .i64 most, .int .i64 least] 24)) w.heap.size A n c ded cred lbp most least := heap_alloc_new w _
end
theorem below_dr {B : Nat} {a w : World} {k : Nat} (h : Below B a w) : Below B a (w.drewN k) := ⟨h.os, h.tape, h.output, h.size, h.block⟩
end Go.Proofs.Ytkgoaodpjeonnaa
