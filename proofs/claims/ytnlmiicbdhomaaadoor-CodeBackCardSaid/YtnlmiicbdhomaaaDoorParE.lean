/- Plain: the reference's lenient reading of a text. -/
import Derived.Test.YtnlmiicbdhomaaaDoorPar
namespace Go.Proofs.YtnlmiicbdhomaaaDoor.Cod

theorem esc_step {s y : List UInt8} {a d : UInt8} {M : List UInt8} (h : Esc.esc 0 [0, 255] s ++ [0, 0] ++ y = a :: d :: M) :
    (a = 0 ∧ d = 0 → s = [] ∧ y = M) ∧ (¬ (a = 0 ∧ d = 0) → ∃ s2, s = a :: s2 ∧ (if a = 0 then M else d :: M) = Esc.esc 0 [0, 255] s2 ++ [0, 0] ++ y) := by
  cases s with
  | nil =>
    rw [Esc.esc_nil] at h
    injection h with h1 h2
    injection h2 with h2 h3
    refine ⟨fun _ => ⟨rfl, h3⟩, fun hn => absurd ⟨h1.symm, h2.symm⟩ hn⟩
  | cons c s =>
    rw [Esc.esc_cons] at h
    by_cases hc : c = 0
    · subst hc
      rw [if_pos rfl] at h
      injection h with h1 h2
      injection h2 with h2 h3
      subst h1 h2
      refine ⟨fun hh => absurd hh.2 (by decide), fun _ => ⟨s, rfl, ?_⟩⟩
      rw [if_pos rfl]
      exact h3.symm
    · rw [if_neg hc] at h
      injection h with h1 h2
      subst h1
      refine ⟨fun hh => absurd hh.1 hc, fun _ => ⟨s, rfl, ?_⟩⟩
      rw [if_neg hc]
      exact h2.symm
theorem esc_two (s y : List UInt8) : 2 ≤ (Esc.esc 0 [0, 255] s ++ [0, 0] ++ y).length := by simp; omega
end Go.Proofs.YtnlmiicbdhomaaaDoor.Cod
