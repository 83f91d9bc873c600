/- Parts of the proof, one behind the other: The plain codes of layer 3: numbers in base 128. No Go in sight.; Plain: a number taken of bytes. -/

namespace Go.Proofs.YtgafionfojnieaaGreatDoor.Cod
def hi (n : Nat) : List UInt8 := if _h : n = 0 then [] else hi (n / 128) ++ [UInt8.ofNat (n % 128 + 128)]
termination_by n
decreasing_by omega
def number (n : Nat) : List UInt8 := hi (n / 128) ++ [UInt8.ofNat (n % 128)]
theorem hi_zero : hi 0 = [] := by rw [hi]; simp
theorem hi_pos {n : Nat} (h : n ≠ 0) : hi n = hi (n / 128) ++ [UInt8.ofNat (n % 128 + 128)] := by rw [hi, dif_neg h]
theorem hi_len : ∀ (k n : Nat), n < 128 ^ k → (hi n).length ≤ k := by
 intro k
 induction k with
 | zero => intro n h; have : n = 0 := by simpa using h
           subst this; simp [hi_zero]
 | succ k ih =>
   intro n h
   by_cases h0 : n = 0
   · subst h0; simp [hi_zero]
   · rw [hi_pos h0, List.length_append]
     have := ih (n / 128) (by rw [Nat.pow_succ] at h; omega)
     simp; omega
theorem number_len {n : Nat} (h : n < 18446744073709551616) : (number n).length ≤ 10 := by
 unfold number
 have := hi_len 9 (n / 128) (by have : (128 : Nat) ^ 9 = 9223372036854775808 := by decide
                                omega)
 rw [List.length_append]; simp; omega
def text (b : List UInt8) : List UInt8 := number b.length ++ b
end Go.Proofs.YtgafionfojnieaaGreatDoor.Cod
namespace Go.Proofs.YtgafionfojnieaaGreatDoor.Cod
def tgo (z : Bool) : Nat → Nat → List UInt8 → Option (Nat × List UInt8)
 | _, _, [] => none
 | k, n, c :: l => if 144115188075855872 ≤ n ∨ (0 < k ∧ z = true) then none else if c.toNat < 128 then some (n * 128 + c.toNat % 128, l) else tgo z (k + 1) (n * 128 + c.toNat % 128) l
def z0 (b : List UInt8) : Bool := match b with | [] => false | c :: _ => c == 128
def take (b : List UInt8) : Option (Nat × List UInt8) := tgo (z0 b) 0 0 b
theorem tgo_nil (z : Bool) (k n : Nat) : tgo z k n [] = none := by unfold tgo; rfl
theorem tgo_big {z : Bool} {k n : Nat} {l : List UInt8} (h : 144115188075855872 ≤ n) : tgo z k n l = none := by
 cases l with
 | nil => exact tgo_nil z k n
 | cons c l => unfold tgo; rw [if_pos (.inl h)]
theorem tgo_z {k n : Nat} {l : List UInt8} (h : 0 < k) : tgo true k n l = none := by
 cases l with
 | nil => exact tgo_nil true k n
 | cons c l => unfold tgo; rw [if_pos (.inr ⟨h, rfl⟩)]
theorem tgo_end {z : Bool} {k n : Nat} {c : UInt8} {l : List UInt8} (h : n < 144115188075855872) (hz : z = false ∨ k = 0) (hc : c.toNat < 128) : tgo z k n (c :: l) = some (n * 128 + c.toNat % 128, l) := by
 unfold tgo
 rw [if_neg (by rcases hz with hz | hz <;> simp [hz] <;> omega), if_pos hc]
theorem tgo_on {z : Bool} {k n : Nat} {c : UInt8} {l : List UInt8} (h : n < 144115188075855872) (hz : z = false ∨ k = 0) (hc : ¬ c.toNat < 128) : tgo z k n (c :: l) = tgo z (k + 1) (n * 128 + c.toNat % 128) l := by
 rw [tgo, if_neg (by rcases hz with hz | hz <;> simp [hz] <;> omega), if_neg hc]
theorem drop_at (b : List UInt8) (k : Nat) (h : k < b.length) : b.drop k = b[k] :: b.drop (k + 1) := List.drop_eq_getElem_cons h
theorem z0_at {b : List UInt8} (h : 0 < b.length) : z0 b = (b[0] == 128) := by
 cases b with
 | nil => simp at h
 | cons c l => rfl
theorem z0_int {b : List UInt8} (h : 0 < b.length) : (((b[0]).toNat : Int) == 128) = z0 b := by
 rw [z0_at h, Bool.eq_iff_iff, beq_iff_eq, beq_iff_eq, ← UInt8.toNat_inj]
 have : (128 : UInt8).toNat = 128 := rfl
 rw [this]; omega
theorem tgo_bound : ∀ (l : List UInt8) (z : Bool) (k n m : Nat) (r : List UInt8), tgo z k n l = some (m, r) → m < 18446744073709551616 ∧ r.length ≤ l.length := by
 intro l
 induction l with
 | nil => intro z k n m r h; rw [tgo_nil] at h; cases h
 | cons c l ih =>
   intro z k n m r h
   by_cases h1 : 144115188075855872 ≤ n
   · rw [tgo_big h1] at h; cases h
   · have hcc := c.toNat_lt
     by_cases hz : z = false ∨ k = 0
     · by_cases hc : c.toNat < 128
       · rw [tgo_end (by omega) hz hc] at h
         injection h with h; injection h with h2 h3; subst h2 h3
         simp; omega
       · rw [tgo_on (by omega) hz hc] at h
         have := ih _ _ _ _ _ h
         simp; omega
     · have : z = true := by cases z <;> simp_all
       subst this
       rw [tgo_z (by omega)] at h; cases h
theorem take_bound {b : List UInt8} {m : Nat} {r : List UInt8} (h : take b = some (m, r)) : m < 18446744073709551616 ∧ r.length ≤ b.length := tgo_bound _ _ _ _ _ _ h
theorem byte_id (c : UInt8) : UInt8.ofNat c.toNat = c := by simp
theorem tgo_number : ∀ (l : List UInt8) (k n m : Nat) (r : List UInt8), 0 < n → tgo false k n l = some (m, r) → hi n ++ l = number m ++ r := by
 intro l
 induction l with
 | nil => intro k n m r _ h; rw [tgo_nil] at h; cases h
 | cons c l ih =>
   intro k n m r hn h
   have hcc := c.toNat_lt
   by_cases h1 : 144115188075855872 ≤ n
   · rw [tgo_big h1] at h; cases h
   · by_cases hc : c.toNat < 128
     · rw [tgo_end (by omega) (.inl rfl) hc] at h
       injection h with h; injection h with h2 h3; subst h2 h3
       have e1 : (n * 128 + c.toNat % 128) / 128 = n := by omega
       have e2 : (n * 128 + c.toNat % 128) % 128 = c.toNat := by omega
       unfold number
       rw [e1, e2, byte_id]; simp
     · rw [tgo_on (by omega) (.inl rfl) hc] at h
       have := ih _ _ _ _ (by omega) h
       rw [← this, hi_pos (n := n * 128 + c.toNat % 128) (by omega)]
       have e1 : (n * 128 + c.toNat % 128) / 128 = n := by omega
       have e2 : (n * 128 + c.toNat % 128) % 128 + 128 = c.toNat := by omega
       rw [e1, e2, byte_id]; simp
theorem take_number {b : List UInt8} {m : Nat} {r : List UInt8} (h : take b = some (m, r)) : b = number m ++ r := by
 unfold take at h
 cases b with
 | nil => rw [tgo_nil] at h; cases h
 | cons c l =>
   have hcc := c.toNat_lt
   by_cases hc : c.toNat < 128
   · rw [tgo_end (by omega) (.inr rfl) hc] at h
     injection h with h; injection h with h2 h3; subst h2 h3
     have e1 : (0 * 128 + c.toNat % 128) / 128 = 0 := by omega
     have e2 : (0 * 128 + c.toNat % 128) % 128 = c.toNat := by omega
     unfold number
     rw [e1, e2, byte_id, hi_zero]; simp
   · rw [tgo_on (by omega) (.inr rfl) hc] at h
     by_cases h8 : c = 128
     · subst h8
       rw [show z0 ((128 : UInt8) :: l) = true from rfl, tgo_z (by omega)] at h; cases h
     · have hz : z0 (c :: l) = false := by show (c == 128) = false; simp [h8]
       have h9 : c.toNat ≠ 128 := fun e => h8 (UInt8.toNat_inj.1 (by rw [e]; rfl))
       rw [hz] at h
       have := tgo_number _ _ _ _ _ (by omega) h
       rw [← this, hi_pos (n := 0 * 128 + c.toNat % 128) (by omega)]
       have e1 : (0 * 128 + c.toNat % 128) / 128 = 0 := by omega
       have e2 : (0 * 128 + c.toNat % 128) % 128 + 128 = c.toNat := by omega
       rw [e1, e2, byte_id, hi_zero]; simp
end Go.Proofs.YtgafionfojnieaaGreatDoor.Cod
