/- The plain codes of layer 3: numbers in base 128. No Go in sight. -/
namespace Go.Proofs.YtnlmiicbdhomaaaDoor.Cod

/-- The digits ahead of the last one, the highest first, each with 128 added. -/
def hi (n : Nat) : List UInt8 := if _h : n = 0 then [] else hi (n / 128) ++ [UInt8.ofNat (n % 128 + 128)]
termination_by n
decreasing_by omega
/-- The code of a number. -/
def number (n : Nat) : List UInt8 := hi (n / 128) ++ [UInt8.ofNat (n % 128)]
theorem hi_zero : hi 0 = [] := by rw [hi]; simp
theorem hi_pos {n : Nat} (h : n ≠ 0) : hi n = hi (n / 128) ++ [UInt8.ofNat (n % 128 + 128)] := by rw [hi, dif_neg h]
theorem hi_len : ∀ (k n : Nat), n < 128 ^ k → (hi n).length ≤ k := by
  intro k
  induction k with
  | zero => intro n h; have : n = 0 := by simpa using h
            subst this; simp [hi_zero]
  | succ k ih =>
    intro n h
    by_cases h0 : n = 0
    · subst h0; simp [hi_zero]
    · rw [hi_pos h0, List.length_append]
      have := ih (n / 128) (by rw [Nat.pow_succ] at h; omega)
      simp; omega
theorem number_len {n : Nat} (h : n < 18446744073709551616) : (number n).length ≤ 10 := by
  unfold number
  have := hi_len 9 (n / 128) (by have : (128 : Nat) ^ 9 = 9223372036854775808 := by decide
                                 omega)
  rw [List.length_append]; simp; omega
theorem number_pos (n : Nat) : 0 < (number n).length := by unfold number; simp
/-- The number that Int codes. -/
def zig (x : Int) : Nat := if 0 ≤ x then (2 * x).toNat else (-2 * x - 1).toNat
/-- The code of bytes. -/
def text (b : List UInt8) : List UInt8 := number b.length ++ b
end Go.Proofs.YtnlmiicbdhomaaaDoor.Cod
