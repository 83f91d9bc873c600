/- Parts of the proof, one behind the other: The plain codes of layer 3: numbers in base 128. No Go in sight.; Plain: a number taken of bytes.; The plain calendar: leap years, lengths of months, days before a year and a month, the number of a date; that the number of a valid date determines it. No Go in sight. -/

namespace Go.Proofs.YtekbdedpombgcaaGreatDoor.Cod

/-- The digits ahead of the last one, the highest first, each with 128 added. -/
def hi (n : Nat) : List UInt8 := if _h : n = 0 then [] else hi (n / 128) ++ [UInt8.ofNat (n % 128 + 128)]
termination_by n
decreasing_by omega
/-- The code of a number. -/
def number (n : Nat) : List UInt8 := hi (n / 128) ++ [UInt8.ofNat (n % 128)]
theorem hi_zero : hi 0 = [] := by rw [hi]; simp
theorem hi_pos {n : Nat} (h : n ≠ 0) : hi n = hi (n / 128) ++ [UInt8.ofNat (n % 128 + 128)] := by rw [hi, dif_neg h]
theorem hi_len : ∀ (k n : Nat), n < 128 ^ k → (hi n).length ≤ k := by
  intro k
  induction k with
  | zero => intro n h; have : n = 0 := by simpa using h
            subst this; simp [hi_zero]
  | succ k ih =>
    intro n h
    by_cases h0 : n = 0
    · subst h0; simp [hi_zero]
    · rw [hi_pos h0, List.length_append]
      have := ih (n / 128) (by rw [Nat.pow_succ] at h; omega)
      simp; omega
theorem number_len {n : Nat} (h : n < 18446744073709551616) : (number n).length ≤ 10 := by
  unfold number
  have := hi_len 9 (n / 128) (by have : (128 : Nat) ^ 9 = 9223372036854775808 := by decide
                                 omega)
  rw [List.length_append]; simp; omega
/-- The code of bytes. -/
def text (b : List UInt8) : List UInt8 := number b.length ++ b
end Go.Proofs.YtekbdedpombgcaaGreatDoor.Cod

namespace Go.Proofs.YtekbdedpombgcaaGreatDoor.Cod

/-- From place k on, n having been read; z: the first byte is 128. -/
def tgo (z : Bool) : Nat → Nat → List UInt8 → Option (Nat × List UInt8)
  | _, _, [] => none
  | k, n, c :: l => if 144115188075855872 ≤ n ∨ (0 < k ∧ z = true) then none else if c.toNat < 128 then some (n * 128 + c.toNat % 128, l) else tgo z (k + 1) (n * 128 + c.toNat % 128) l
def z0 (b : List UInt8) : Bool := match b with | [] => false | c :: _ => c == 128
def take (b : List UInt8) : Option (Nat × List UInt8) := tgo (z0 b) 0 0 b
theorem tgo_nil (z : Bool) (k n : Nat) : tgo z k n [] = none := by unfold tgo; rfl
theorem tgo_big {z : Bool} {k n : Nat} {l : List UInt8} (h : 144115188075855872 ≤ n) : tgo z k n l = none := by
  cases l with
  | nil => exact tgo_nil z k n
  | cons c l => unfold tgo; rw [if_pos (.inl h)]
theorem tgo_z {k n : Nat} {l : List UInt8} (h : 0 < k) : tgo true k n l = none := by
  cases l with
  | nil => exact tgo_nil true k n
  | cons c l => unfold tgo; rw [if_pos (.inr ⟨h, rfl⟩)]
theorem tgo_end {z : Bool} {k n : Nat} {c : UInt8} {l : List UInt8} (h : n < 144115188075855872) (hz : z = false ∨ k = 0) (hc : c.toNat < 128) : tgo z k n (c :: l) = some (n * 128 + c.toNat % 128, l) := by
  unfold tgo
  rw [if_neg (by rcases hz with hz | hz <;> simp [hz] <;> omega), if_pos hc]
theorem tgo_on {z : Bool} {k n : Nat} {c : UInt8} {l : List UInt8} (h : n < 144115188075855872) (hz : z = false ∨ k = 0) (hc : ¬ c.toNat < 128) : tgo z k n (c :: l) = tgo z (k + 1) (n * 128 + c.toNat % 128) l := by
  rw [tgo, if_neg (by rcases hz with hz | hz <;> simp [hz] <;> omega), if_neg hc]
theorem drop_at (b : List UInt8) (k : Nat) (h : k < b.length) : b.drop k = b[k] :: b.drop (k + 1) := List.drop_eq_getElem_cons h
theorem z0_at {b : List UInt8} (h : 0 < b.length) : z0 b = (b[0] == 128) := by
  cases b with
  | nil => simp at h
  | cons c l => rfl
theorem z0_int {b : List UInt8} (h : 0 < b.length) : (((b[0]).toNat : Int) == 128) = z0 b := by
  rw [z0_at h, Bool.eq_iff_iff, beq_iff_eq, beq_iff_eq, ← UInt8.toNat_inj]
  have : (128 : UInt8).toNat = 128 := rfl
  rw [this]; omega
theorem tgo_bound : ∀ (l : List UInt8) (z : Bool) (k n m : Nat) (r : List UInt8), tgo z k n l = some (m, r) → m < 18446744073709551616 ∧ r.length ≤ l.length := by
  intro l
  induction l with
  | nil => intro z k n m r h; rw [tgo_nil] at h; cases h
  | cons c l ih =>
    intro z k n m r h
    by_cases h1 : 144115188075855872 ≤ n
    · rw [tgo_big h1] at h; cases h
    · have hcc := c.toNat_lt
      by_cases hz : z = false ∨ k = 0
      · by_cases hc : c.toNat < 128
        · rw [tgo_end (by omega) hz hc] at h
          injection h with h; injection h with h2 h3; subst h2 h3
          simp; omega
        · rw [tgo_on (by omega) hz hc] at h
          have := ih _ _ _ _ _ h
          simp; omega
      · have : z = true := by cases z <;> simp_all
        subst this
        rw [tgo_z (by omega)] at h; cases h
theorem take_bound {b : List UInt8} {m : Nat} {r : List UInt8} (h : take b = some (m, r)) : m < 18446744073709551616 ∧ r.length ≤ b.length := tgo_bound _ _ _ _ _ _ h
theorem byte_id (c : UInt8) : UInt8.ofNat c.toNat = c := by simp
theorem tgo_number : ∀ (l : List UInt8) (k n m : Nat) (r : List UInt8), 0 < n → tgo false k n l = some (m, r) → hi n ++ l = number m ++ r := by
  intro l
  induction l with
  | nil => intro k n m r _ h; rw [tgo_nil] at h; cases h
  | cons c l ih =>
    intro k n m r hn h
    have hcc := c.toNat_lt
    by_cases h1 : 144115188075855872 ≤ n
    · rw [tgo_big h1] at h; cases h
    · by_cases hc : c.toNat < 128
      · rw [tgo_end (by omega) (.inl rfl) hc] at h
        injection h with h; injection h with h2 h3; subst h2 h3
        have e1 : (n * 128 + c.toNat % 128) / 128 = n := by omega
        have e2 : (n * 128 + c.toNat % 128) % 128 = c.toNat := by omega
        unfold number
        rw [e1, e2, byte_id]; simp
      · rw [tgo_on (by omega) (.inl rfl) hc] at h
        have := ih _ _ _ _ (by omega) h
        rw [← this, hi_pos (n := n * 128 + c.toNat % 128) (by omega)]
        have e1 : (n * 128 + c.toNat % 128) / 128 = n := by omega
        have e2 : (n * 128 + c.toNat % 128) % 128 + 128 = c.toNat := by omega
        rw [e1, e2, byte_id]; simp
theorem take_number {b : List UInt8} {m : Nat} {r : List UInt8} (h : take b = some (m, r)) : b = number m ++ r := by
  unfold take at h
  cases b with
  | nil => rw [tgo_nil] at h; cases h
  | cons c l =>
    have hcc := c.toNat_lt
    by_cases hc : c.toNat < 128
    · rw [tgo_end (by omega) (.inr rfl) hc] at h
      injection h with h; injection h with h2 h3; subst h2 h3
      have e1 : (0 * 128 + c.toNat % 128) / 128 = 0 := by omega
      have e2 : (0 * 128 + c.toNat % 128) % 128 = c.toNat := by omega
      unfold number
      rw [e1, e2, byte_id, hi_zero]; simp
    · rw [tgo_on (by omega) (.inr rfl) hc] at h
      by_cases h8 : c = 128
      · subst h8
        rw [show z0 ((128 : UInt8) :: l) = true from rfl, tgo_z (by omega)] at h; cases h
      · have hz : z0 (c :: l) = false := by show (c == 128) = false; simp [h8]
        have h9 : c.toNat ≠ 128 := fun e => h8 (UInt8.toNat_inj.1 (by rw [e]; rfl))
        rw [hz] at h
        have := tgo_number _ _ _ _ _ (by omega) h
        rw [← this, hi_pos (n := 0 * 128 + c.toNat % 128) (by omega)]
        have e1 : (0 * 128 + c.toNat % 128) / 128 = 0 := by omega
        have e2 : (0 * 128 + c.toNat % 128) % 128 + 128 = c.toNat := by omega
        rw [e1, e2, byte_id, hi_zero]; simp
end Go.Proofs.YtekbdedpombgcaaGreatDoor.Cod

namespace Go.Proofs.YtekbdedpombgcaaGreatDoor.Cal

/-- Is the year long? -/
def leap (y : Int) : Bool := y % 4 == 0 && (!(y % 100 == 0) || y % 400 == 0)
/-- 1 in a long year, else 0. -/
def lp (y : Int) : Int := if leap y then 1 else 0
/-- The last day of a month. -/
def dim (y m : Int) : Int := if m = 2 then 28 + lp y else if m = 4 ∨ m = 6 ∨ m = 9 ∨ m = 11 then 30 else 31
/-- Days ahead of a year. -/
def dby (y : Int) : Int := (y - 1) * 365 + (y - 1) / 4 - (y - 1) / 100 + (y - 1) / 400
/-- Days of a year ahead of a month. -/
def cum (y m : Int) : Int :=
  if m ≤ 1 then 0 else if m = 2 then 31 else if m = 3 then 59 + lp y else if m = 4 then 90 + lp y else if m = 5 then 120 + lp y
  else if m = 6 then 151 + lp y else if m = 7 then 181 + lp y else if m = 8 then 212 + lp y else if m = 9 then 243 + lp y
  else if m = 10 then 273 + lp y else if m = 11 then 304 + lp y else if m = 12 then 334 + lp y else 365 + lp y
/-- The number of a date. -/
def num (y m d : Int) : Int := dby y + cum y m + d - 1
/-- A date that there is. -/
def Valid (y m d : Int) : Prop := 1 ≤ y ∧ y ≤ 9999 ∧ 1 ≤ m ∧ m ≤ 12 ∧ 1 ≤ d ∧ d ≤ dim y m
instance (y m d : Int) : Decidable (Valid y m d) := by unfold Valid; infer_instance

theorem lp_01 (y : Int) : 0 ≤ lp y ∧ lp y ≤ 1 := by unfold lp; split <;> omega
theorem leap_iff (y : Int) : leap y = true ↔ (y % 4 = 0 ∧ (y % 100 ≠ 0 ∨ y % 400 = 0)) := by
  unfold leap; simp
theorem lp_eq (y : Int) : (lp y = 1 ∧ y % 4 = 0 ∧ (y % 100 ≠ 0 ∨ y % 400 = 0)) ∨ (lp y = 0 ∧ (y % 4 ≠ 0 ∨ (y % 100 = 0 ∧ y % 400 ≠ 0))) := by
  unfold lp
  by_cases h : leap y = true
  · rw [if_pos h]; have := (leap_iff y).1 h; omega
  · rw [if_neg h]; have h2 : ¬ _ := fun x => h ((leap_iff y).2 x); omega
theorem dby_succ (y : Int) : dby (y + 1) = dby y + 365 + lp y := by
  have := lp_eq y
  unfold dby
  have e : y + 1 - 1 = y := by omega
  rw [e]
  omega
theorem dby_one : dby 1 = 0 := by decide
theorem dby_max : dby 10000 = 3652059 := by decide
theorem dby_mono (a b : Int) (h : a ≤ b) : dby a ≤ dby b := by unfold dby; omega
theorem dby_lt (a b : Int) (h : a < b) : dby a + 365 + lp a ≤ dby b := by
  rw [← dby_succ]; exact dby_mono _ _ (by omega)
theorem cum_succ (y m : Int) (h : 1 ≤ m) (h' : m ≤ 12) : cum y (m + 1) = cum y m + dim y m := by
  have hm : m = 1 ∨ m = 2 ∨ m = 3 ∨ m = 4 ∨ m = 5 ∨ m = 6 ∨ m = 7 ∨ m = 8 ∨ m = 9 ∨ m = 10 ∨ m = 11 ∨ m = 12 := by omega
  rcases hm with rfl | rfl | rfl | rfl | rfl | rfl | rfl | rfl | rfl | rfl | rfl | rfl <;> simp [cum, dim] <;> omega
theorem cum_one (y : Int) : cum y 1 = 0 := by simp [cum]
theorem cum_end (y : Int) : cum y 13 = 365 + lp y := by simp [cum]
theorem dim_bd (y m : Int) : 28 ≤ dim y m ∧ dim y m ≤ 31 := by
  have := lp_01 y
  unfold dim; split
  · omega
  · split <;> omega
theorem cum_bd (y m : Int) (h : 1 ≤ m) (h' : m ≤ 13) : 0 ≤ cum y m ∧ cum y m ≤ 365 + lp y := by
  have hm : m = 1 ∨ m = 2 ∨ m = 3 ∨ m = 4 ∨ m = 5 ∨ m = 6 ∨ m = 7 ∨ m = 8 ∨ m = 9 ∨ m = 10 ∨ m = 11 ∨ m = 12 ∨ m = 13 := by omega
  have := lp_01 y
  rcases hm with rfl | rfl | rfl | rfl | rfl | rfl | rfl | rfl | rfl | rfl | rfl | rfl | rfl <;> simp [cum] <;> omega
theorem cum_mono (y a b : Int) (ha : 1 ≤ a) (hb : b ≤ 13) (h : a ≤ b) : cum y a ≤ cum y b := by
  have key : ∀ k : Nat, a + k ≤ 13 → cum y a ≤ cum y (a + k) := by
    intro k
    induction k with
    | zero => intro _; simp
    | succ k ih =>
      intro hk
      have h1 := ih (by omega)
      have h2 := cum_succ y (a + k) (by omega) (by omega)
      have h3 := dim_bd y (a + k)
      have e : a + ((k + 1 : Nat) : Int) = a + k + 1 := by omega
      rw [e]; omega
  have := key (b - a).toNat (by omega)
  have e : a + ((b - a).toNat : Int) = b := by omega
  rwa [e] at this
/-- Day of the year, from 0 on. -/
theorem doy_bd (y m d : Int) (h : Valid y m d) : 0 ≤ cum y m + d - 1 ∧ cum y m + d - 1 < 365 + lp y := by
  obtain ⟨_, _, h1, h2, h3, h4⟩ := h
  have a := cum_succ y m h1 h2
  have b := cum_mono y (m + 1) 13 (by omega) (by omega) (by omega)
  have c := cum_bd y m h1 (by omega)
  rw [cum_end] at b
  omega
theorem num_bd (y m d : Int) (h : Valid y m d) : 0 ≤ num y m d ∧ num y m d ≤ 3652058 := by
  have a := doy_bd y m d h
  obtain ⟨h1, h2, _⟩ := h
  have b := dby_mono 1 y h1
  have c := dby_lt y 10000 (by omega)
  rw [dby_one] at b; rw [dby_max] at c
  unfold num; omega
theorem year_eq (y z a b : Int) (ha : 0 ≤ a) (ha' : a < 365 + lp y) (hb : 0 ≤ b) (hb' : b < 365 + lp z) (h : dby y + a = dby z + b) : y = z := by
  rcases Int.lt_trichotomy y z with hl | rfl | hl
  · have := dby_lt y z hl; omega
  · rfl
  · have := dby_lt z y hl; omega
/-- The number determines the date. -/
theorem num_inj {y m d z k i : Int} (h : Valid y m d) (h' : Valid z k i) (e : num y m d = num z k i) : y = z ∧ m = k ∧ d = i := by
  have a := doy_bd y m d h
  have b := doy_bd z k i h'
  unfold num at e
  have hy : y = z := year_eq y z (cum y m + d - 1) (cum z k + i - 1) a.1 a.2 b.1 b.2 (by omega)
  subst hy
  obtain ⟨_, _, h1, h2, h3, h4⟩ := h
  obtain ⟨_, _, g1, g2, g3, g4⟩ := h'
  have hm : m = k := by
    rcases Int.lt_trichotomy m k with hl | rfl | hl
    · have := cum_mono y (m + 1) k (by omega) (by omega) (by omega)
      have := cum_succ y m h1 h2; omega
    · rfl
    · have := cum_mono y (k + 1) m (by omega) (by omega) (by omega)
      have := cum_succ y k g1 g2; omega
  subst hm
  exact ⟨rfl, rfl, by omega⟩
/-- The program's four steps: ages, hundreds, fours, years. -/
theorem steps (n a b c d n1 n2 n3 n4 : Int) (h0 : 0 ≤ n) (h1 : n ≤ 3652058) (ha : a = n / 146097) (e1 : n1 = n - a * 146097)
    (hb : b = min (n1 / 36524) 3) (e2 : n2 = n1 - b * 36524) (hc : c = n2 / 1461) (e3 : n3 = n2 - c * 1461) (hd : d = min (n3 / 365) 3) (e4 : n4 = n3 - d * 365) :
    1 ≤ 1 + a * 400 + b * 100 + c * 4 + d ∧ 1 + a * 400 + b * 100 + c * 4 + d ≤ 9999 ∧ 0 ≤ n4 ∧ n4 < 365 + lp (1 + a * 400 + b * 100 + c * 4 + d) ∧
      n = dby (1 + a * 400 + b * 100 + c * 4 + d) + n4 := by
  have := lp_eq (1 + a * 400 + b * 100 + c * 4 + d)
  have a1 : 0 ≤ a ∧ a ≤ 24 ∧ 0 ≤ n1 ∧ n1 ≤ 146096 := by omega
  have b1 : 0 ≤ b ∧ b ≤ 3 ∧ 0 ≤ n2 ∧ n2 ≤ 36524 ∧ (b < 3 → n2 ≤ 36523) := by omega
  have c1 : 0 ≤ c ∧ c ≤ 24 ∧ 0 ≤ n3 ∧ n3 ≤ 1460 ∧ (b < 3 → c = 24 → n3 ≤ 1459) := by omega
  have d1 : 0 ≤ d ∧ d ≤ 3 ∧ 0 ≤ n4 ∧ n4 ≤ 365 ∧ (d < 3 → n4 ≤ 364) ∧ (d = 3 → b < 3 → c = 24 → n4 ≤ 364) := by omega
  have hn : n = a * 146097 + b * 36524 + c * 1461 + d * 365 + n4 := by omega
  clear ha e1 hb e2 hc e3 hd e4
  have q4 : (1 + a * 400 + b * 100 + c * 4 + d - 1) / 4 = 100 * a + 25 * b + c := by omega
  have q100 : (1 + a * 400 + b * 100 + c * 4 + d - 1) / 100 = 4 * a + b := by omega
  have q400 : (1 + a * 400 + b * 100 + c * 4 + d - 1) / 400 = a := by omega
  have hdby : dby (1 + a * 400 + b * 100 + c * 4 + d) = a * 146097 + b * 36524 + c * 1461 + d * 365 := by unfold dby; rw [q4, q100, q400]; omega
  clear q4 q100 q400
  refine ⟨by omega, by omega, by omega, ?_, by omega⟩
  omega
#print axioms steps
#print axioms num_inj
end Go.Proofs.YtekbdedpombgcaaGreatDoor.Cal
