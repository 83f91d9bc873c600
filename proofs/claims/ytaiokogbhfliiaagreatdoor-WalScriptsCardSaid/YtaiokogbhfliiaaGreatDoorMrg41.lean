/- Parts of the proof, one behind the other: Arguments opened: slices of bools, of bytes, of steps, of files. -/
import Derived.Test.YtaiokogbhfliiaaGreatDoorCards
import Derived.Test.YtaiokogbhfliiaaGreatDoorTie
import Derived.Test.YtaiokogbhfliiaaGreatDoorMrg09
import Derived.Test.YtaiokogbhfliiaaGreatDoorMrg10
import Derived.Test.YtaiokogbhfliiaaGreatDoorMrg06
import Derived.Test.YtaiokogbhfliiaaGreatDoorMrg40
namespace Go.Proofs.YtaiokogbhfliiaaGreatDoor
open Go.ChangeShapes Go.WideShapes Go.ChangeAt Go.RowKit

section
open Go.Deep
variable {H : Type} {enc : TypeId × Value → H} {P : Program} {w : World} {base : Nat} {spare : Nat → Bool} {held : Bool}
/-- A slice whose elements have one cell. -/
theorem rows1_of {α : Type} {f : α → Value} (a0 : α) (Q : α → Prop) {t e : TypeId} {fuel : Nat} {v : Value} {y : DataW H × List MemPlace} (ht : P.underlying t = some (.slice e)) (hC : P.cellsOf e = 1)
    (hel : ∀ (c : Value) (m : Nat) (y : DataW H × List MemPlace), DataW.trod enc P w base spare held m e [c] = some y → ∃ a : α, Q a ∧ f a = c)
    (h : DataW.trod enc P w base spare held fuel t [v] = some y) :
    ∃ (A : Option Addr) (l : List α) (c : Nat), v = .slice A l.length c ∧ RdS (fun a => [f a]) 1 w w.heap.size A l ∧ l.length ≤ c ∧ c ≤ maxLen ∧ ∀ a ∈ l, Q a := by
  rcases open_slice ht h with ⟨hcs, _⟩ | ⟨ad, len, cap, m, n', D, Pl, hcs, hb, hl, hm, hmm, hx, hi⟩
  · simp at hcs
    subst hcs
    exact ⟨none, [], 0, rfl, Reads.none_, Nat.le_refl _, by unfold maxLen; omega, by simp⟩
  · simp at hcs
    subst hcs
    have hlm : len ≤ m := by rw [hmm]; split <;> omega
    have hpt : ∀ i, i < len → ∃ a : α, Q a ∧ w.cell? (ad.add i) = some (f a) := by
      intro i hil
      obtain ⟨cs', hc, ht'⟩ := hi i (by omega)
      rw [hC] at hc
      obtain ⟨_, hcl, hat⟩ := World.cells?_some hc
      match cs', hcl with
      | [c], _ =>
        obtain ⟨a, hQ, ha⟩ := hel c n' _ ht'
        have hcell := hat 0 (by omega)
        have e1 : (ad.add (i * 1)).add 0 = ad.add i := by rw [Nat.mul_one]; rfl
        rw [e1] at hcell
        exact ⟨a, hQ, by rw [hcell, ha]; rfl⟩
    let g : Nat → α := fun i => if hil : i < len then Classical.choose (hpt i hil) else a0
    have hg : ∀ i, i < len → Q (g i) ∧ w.cell? (ad.add i) = some (f (g i)) := by
      intro i hil
      have e : g i = Classical.choose (hpt i hil) := by simp only [g]; rw [dif_pos hil]
      rw [e]
      exact Classical.choose_spec (hpt i hil)
    have hll : ((List.range len).map g).length = len := by simp
    refine ⟨some ad, (List.range len).map g, cap, by rw [hll], rdS_of_cells (n := 1) (fun _ => rfl) (by omega) (fun i hil j u hu => ?_), by rw [hll]; exact hl, hm, ?_⟩
    · rw [hll] at hil
      simp only [List.getElem_map, List.getElem_range] at hu
      have hj : j = 0 := by
        rcases Nat.lt_or_ge j 1 with h1 | h1
        · omega
        · rw [List.getElem?_eq_none (by simpa using h1)] at hu; cases hu
      subst hj
      injection hu with hu
      rw [Nat.mul_one, Nat.add_zero, (hg i hil).2, hu]
    · intro a ha
      simp only [List.mem_map, List.mem_range] at ha
      obtain ⟨i, hil, rfl⟩ := ha
      exact (hg i hil).1
end
section
variable {H : Type} {enc : TypeId × Value → H} {W : World} {hd : Bool}
end
end Go.Proofs.YtaiokogbhfliiaaGreatDoor
