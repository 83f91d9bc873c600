/- Parts of the proof, one behind the other: The contract of bytes.Compare. -/
import Derived.Test.YtaiokogbhfliiaaGreatDoorMrg14
import Derived.Lib.Bytealg
namespace Go.Proofs.YtaiokogbhfliiaaGreatDoor
open Go.RowKit

section
variable {P : Program} (w : World)
end
theorem compareBytes_zero (l m : List UInt8) : Lib.compareBytes l m = 0 ↔ l = m := by
  induction l generalizing m with
  | nil => cases m <;> simp [Lib.compareBytes]
  | cons a l ih =>
    cases m with
    | nil => simp [Lib.compareBytes]
    | cons b m =>
      unfold Lib.compareBytes
      by_cases h1 : a < b
      · simp [h1, UInt8.ne_of_lt h1]
      · by_cases h2 : b < a
        · simp [h1, h2, (UInt8.ne_of_lt h2).symm]
        · have e : a = b := UInt8.le_antisymm (UInt8.not_lt.1 h2) (UInt8.not_lt.1 h1)
          simp [e, ih]
theorem compareBytes_lt (l m : List UInt8) : Lib.compareBytes l m < 0 ↔ Op.bytesLess l m = true := by
  induction l generalizing m with
  | nil => cases m <;> simp [Lib.compareBytes, Op.bytesLess]
  | cons a l ih =>
    cases m with
    | nil => simp [Lib.compareBytes, Op.bytesLess]
    | cons b m =>
      unfold Lib.compareBytes Op.bytesLess
      by_cases h1 : a < b
      · simp [h1]
      · by_cases h2 : b < a
        · simp [h1, h2, (UInt8.ne_of_lt h2).symm]
        · have e : a = b := UInt8.le_antisymm (UInt8.not_lt.1 h2) (UInt8.not_lt.1 h1)
          simp [e, ih]
theorem compareBytes_neg (l m : List UInt8) : Lib.compareBytes m l = - Lib.compareBytes l m := by
  induction l generalizing m with
  | nil => cases m <;> simp [Lib.compareBytes]
  | cons a l ih =>
    cases m with
    | nil => simp [Lib.compareBytes]
    | cons b m =>
      unfold Lib.compareBytes
      by_cases h1 : a < b
      · have h3 : ¬ b < a := UInt8.lt_asymm h1
        simp [h1, h3]
      · by_cases h2 : b < a
        · simp [h1, h2]
        · simp [h1, h2, ih]
theorem compareBytes_le (l m : List UInt8) : Lib.compareBytes l m ≤ 0 ↔ Op.bytesLess m l = false := by
  have h := compareBytes_lt m l
  rw [compareBytes_neg l m] at h
  cases hb : Op.bytesLess m l with
  | true => rw [hb] at h; simp at h ⊢; omega
  | false => rw [hb] at h; simp at h ⊢; omega
theorem less_tri (a b : List UInt8) : Op.bytesLess a b = true ↔ Op.bytesLess b a = false ∧ (b == a) = false := by
  rw [← compareBytes_lt, ← compareBytes_le]
  have h0 := compareBytes_zero a b
  constructor
  · intro h
    refine ⟨by omega, ?_⟩
    rw [beq_eq_false_iff_ne]
    intro e
    have := h0.2 e.symm
    omega
  · intro ⟨h1, h2⟩
    rw [beq_eq_false_iff_ne] at h2
    have h3 : Lib.compareBytes a b ≠ 0 := fun e => h2 (h0.1 e).symm
    omega
end Go.Proofs.YtaiokogbhfliiaaGreatDoor
