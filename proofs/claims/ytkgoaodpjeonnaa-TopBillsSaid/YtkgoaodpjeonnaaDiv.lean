/- Plain: the division of a number of 128 bits by one of 64 in two digits of base 2^32 (the library's way): each digit is guessed and put right. No Go in sight. -/
import Derived.Lib.BitFns
namespace Go.Proofs.Ytkgoaodpjeonnaa.Dv

theorem bitLen_pow (x : Nat) : x ≠ 0 → x < 18446744073709551616 → 2 ^ (Lib.bitLen x - 1) ≤ x ∧ x < 2 ^ Lib.bitLen x ∧ 1 ≤ Lib.bitLen x := by
  induction x using Nat.strongRecOn with
  | ind x ih =>
    intro h0 hx
    have e := Lib.bitLen_half x h0 (by omega)
    by_cases h1 : x / 2 = 0
    · have : x = 1 := by omega
      subst this
      decide
    · obtain ⟨a, b, c⟩ := ih (x / 2) (by omega) h1 (by omega)
      rw [e]
      have e1 : 1 + Lib.bitLen (x / 2) - 1 = (Lib.bitLen (x / 2) - 1) + 1 := by omega
      have e2 : 1 + Lib.bitLen (x / 2) = Lib.bitLen (x / 2) + 1 := by omega
      rw [e1, e2, Nat.pow_succ, Nat.pow_succ]
      omega
/-- The shift that fills the highest bit. -/
theorem lz_fill {y s : Nat} (h0 : y ≠ 0) (hy : y < 18446744073709551616) (hs : s = 64 - Lib.bitLen y) : s < 64 ∧ 9223372036854775808 ≤ y * 2 ^ s ∧ y * 2 ^ s < 18446744073709551616 := by
  obtain ⟨a, b, c⟩ := bitLen_pow y h0 hy
  have hle := Lib.bitLen_le y 64 (Nat.le_refl _) (by omega)
  refine ⟨by omega, ?_, ?_⟩
  · have e : 2 ^ (Lib.bitLen y - 1) * 2 ^ s = 2 ^ 63 := by rw [← Nat.pow_add]; congr 1; omega
    have := Nat.mul_le_mul_right (2 ^ s) a
    omega
  · have e : 2 ^ Lib.bitLen y * 2 ^ s = 2 ^ 64 := by rw [← Nat.pow_add]; congr 1; omega
    have := Nat.mul_lt_mul_of_pos_right b (Nat.two_pow_pos s)
    omega
section
variable {a b Y u d : Nat}
/-- One digit: what is divided, and by what. -/
structure Dig (a b Y u d : Nat) : Prop where
  eq : Y = a * 4294967296 + b
  lo : 2147483648 ≤ a
  hi : a < 4294967296
  hb : b < 4294967296
  hd : d < 4294967296
  hu : u < Y
def Q (Y u d : Nat) : Nat := (u * 4294967296 + d) / Y
def V (Y u d : Nat) : Nat := (u * 4294967296 + d) % Y
theorem Dig.pos (h : Dig a b Y u d) : 0 < Y := by have := h.eq; have := h.lo; omega
theorem Dig.q_lt (h : Dig a b Y u d) : Q Y u d < 4294967296 := by
  unfold Q
  have h1 := h.hu
  have h2 := h.hd
  rw [Nat.div_lt_iff_lt_mul h.pos]
  have : (u + 1) * 4294967296 ≤ Y * 4294967296 := Nat.mul_le_mul_right _ h1
  omega
theorem Dig.v_lt (h : Dig a b Y u d) : V Y u d < Y := Nat.mod_lt _ h.pos
theorem Dig.qv (Y u d : Nat) : Q Y u d * Y + V Y u d = u * 4294967296 + d := by
  unfold Q V; rw [Nat.mul_comm]; exact Nat.div_add_mod _ _
theorem Dig.qa (h : Dig a b Y u d) : Q Y u d * a ≤ u := by
  have h1 := Dig.qv Y u d
  have h2 : Q Y u d * Y = Q Y u d * a * 4294967296 + Q Y u d * b := by rw [h.eq, Nat.mul_add, Nat.mul_assoc]
  have h3 := h.hd
  generalize Q Y u d * a = p at *
  generalize Q Y u d * b = r at *
  generalize Q Y u d * Y = t at *
  omega
theorem Dig.guess (h : Dig a b Y u d) : Q Y u d ≤ u / a ∧ u / a ≤ 4294967297 ∧ u / a * a + u % a = u ∧ u % a < 4294967296 := by
  have ha : 0 < a := by have := h.lo; omega
  refine ⟨(Nat.le_div_iff_mul_le ha).2 h.qa, ?_, ?_, ?_⟩
  · have : u / a < 4294967298 := by
      rw [Nat.div_lt_iff_lt_mul ha]
      have h1 := h.eq; have h2 := h.lo; have h3 := h.hb; have h4 := h.hu
      omega
    omega
  · rw [Nat.mul_comm]; exact Nat.div_add_mod _ _
  · have := Nat.mod_lt u ha
    have := h.hi
    omega
theorem Dig.down (h : Dig a b Y u d) {x r : Nat} (hx : x * a + r = u) (hq : Q Y u d ≤ x) (ht : 4294967296 ≤ x ∨ 4294967296 * r + d < x * b) : Q Y u d + 1 ≤ x ∧ (x - 1) * a + (r + a) = u := by
  have h1 : Q Y u d < x := by
    rcases ht with ht | ht
    · have := h.q_lt; omega
    · rcases Nat.lt_or_eq_of_le hq with hl | he
      · exact hl
      · exfalso
        have h2 := Dig.qv Y u d
        rw [he, h.eq, Nat.mul_add, ← Nat.mul_assoc] at h2
        generalize x * a = p at *
        generalize x * b = t at *
        omega
  refine ⟨h1, ?_⟩
  obtain ⟨m, rfl⟩ : ∃ m, x = m + 1 := ⟨x - 1, by omega⟩
  rw [Nat.add_mul] at hx
  simp only [Nat.add_sub_cancel]
  omega
theorem Dig.fits (h : Dig a b Y u d) {x r : Nat} (hx : x * a + r = u) (hq : Q Y u d ≤ x) (ht : x * b ≤ 4294967296 * r + d) : x = Q Y u d := by
  have h1 : x ≤ Q Y u d := by
    unfold Q
    rw [Nat.le_div_iff_mul_le h.pos, h.eq, Nat.mul_add, ← Nat.mul_assoc]
    generalize x * a = p at *
    generalize x * b = t at *
    omega
  omega
theorem Dig.broke (h : Dig a b Y u d) {x r : Nat} (hx : x * a + r = u) (hq : Q Y u d ≤ x) (hb : x ≤ 4294967296) (hr : 4294967296 ≤ r) : x = Q Y u d := by
  refine h.fits hx hq ?_
  have h1 : x * b ≤ 4294967296 * b := Nat.mul_le_mul_right _ hb
  have h2 := h.hb
  omega
theorem prod_lt {x b : Nat} (hx : x < 4294967296) (hb : b < 4294967296) : x * b ≤ 18446744073709551615 := by
  have h1 : x * b ≤ 4294967295 * b := Nat.mul_le_mul_right _ (by omega)
  omega
end
theorem low {l s L M W : Nat} (hpp : 2 ^ s * 2 ^ (64 - s) = W) (hl : l < W) (hL : L = l * 2 ^ s % W) (hM : M = l / 2 ^ (64 - s)) : M < 2 ^ s ∧ l * 2 ^ s = M * W + L := by
  have hp : 0 < 2 ^ s := Nat.two_pow_pos s
  have hdiv : l * 2 ^ s / W = M := by
    rw [← hpp, hM, Nat.mul_comm l, Nat.mul_div_mul_left _ _ hp]
  refine ⟨?_, ?_⟩
  · rw [hM, Nat.div_lt_iff_lt_mul (Nat.two_pow_pos _), hpp]; exact hl
  · have := Nat.div_add_mod (l * 2 ^ s) W
    rw [hdiv, ← hL, Nat.mul_comm W] at this
    exact this.symm
theorem num {h l s L u M W : Nat} (hlL : l * 2 ^ s = M * W + L) (hu : u = h * 2 ^ s + M) : (h * W + l) * 2 ^ s = u * W + L := by
  rw [Nat.add_mul, hlL, hu, Nat.add_mul, Nat.mul_assoc, Nat.mul_comm W, ← Nat.mul_assoc, Nat.add_assoc]
theorem all_ {N Y u d1 d0 : Nat} (hN : N = (u * 4294967296 + d1) * 4294967296 + d0) : N = (Q Y u d1 * 4294967296 + Q Y (V Y u d1) d0) * Y + V Y (V Y u d1) d0 := by
  have e1 := Dig.qv Y u d1
  have e0 := Dig.qv Y (V Y u d1) d0
  have e : (Q Y u d1 * 4294967296 + Q Y (V Y u d1) d0) * Y = Q Y u d1 * Y * 4294967296 + Q Y (V Y u d1) d0 * Y := by
    rw [Nat.add_mul, Nat.mul_assoc, Nat.mul_comm 4294967296, ← Nat.mul_assoc]
  rw [hN, e]
  generalize Q Y u d1 * Y = p at *
  generalize Q Y (V Y u d1) d0 * Y = r at *
  omega
theorem quo {N Y q v : Nat} (hY : 0 < Y) (hv : v < Y) (h : N = q * Y + v) : q = N / Y ∧ v = N % Y := by
  constructor
  · rw [h, Nat.mul_comm, Nat.mul_add_div hY, Nat.div_eq_of_lt hv, Nat.add_zero]
  · rw [h, Nat.mul_comm, Nat.mul_add_mod]; exact (Nat.mod_eq_of_lt hv).symm
def W64 : Nat := 18446744073709551616
theorem w64 : W64 = 4294967296 * 4294967296 := by decide
/-- The whole. -/
theorem whole {h l y s Y L u d1 d0 M : Nat} (hY : Y = y * 2 ^ s) (hhy : h < y) (hs : s < 64) (hl : l < W64) (hL : L = l * 2 ^ s % W64) (hM : M = l / 2 ^ (64 - s)) (hu : u = h * 2 ^ s + M) (hLd : L = d1 * 4294967296 + d0) :
    u < Y ∧ M < 2 ^ s ∧ Q Y u d1 * 4294967296 + Q Y (V Y u d1) d0 = (h * W64 + l) / y ∧ V Y (V Y u d1) d0 / 2 ^ s = (h * W64 + l) % y := by
  have hp : 0 < 2 ^ s := Nat.two_pow_pos s
  have hpp : 2 ^ s * 2 ^ (64 - s) = W64 := by
    rw [← Nat.pow_add, show s + (64 - s) = 64 from by omega]; rfl
  obtain ⟨hMp, hlL⟩ := low hpp hl hL hM
  have hY0 : 0 < Y := by rw [hY]; exact Nat.mul_pos (by omega) hp
  have huY : u < Y := by
    have : (h + 1) * 2 ^ s ≤ y * 2 ^ s := Nat.mul_le_mul_right _ hhy
    rw [Nat.add_mul] at this
    omega
  have hN := num hlL hu
  have hN2 : (h * W64 + l) * 2 ^ s = (u * 4294967296 + d1) * 4294967296 + d0 := by
    rw [hN, hLd, w64, Nat.add_mul, Nat.mul_assoc, Nat.add_assoc]
  obtain ⟨hq, hr⟩ := quo hY0 (Nat.mod_lt _ hY0 : V Y (V Y u d1) d0 < Y) (all_ hN2)
  refine ⟨huY, hMp, ?_, ?_⟩
  · rw [hq, hY, Nat.mul_div_mul_right _ _ hp]
  · have hr2 : V Y (V Y u d1) d0 = (h * W64 + l) * 2 ^ s % Y := hr
    rw [hr2, hY, Nat.mul_mod_mul_right, Nat.mul_div_cancel _ hp]
end Go.Proofs.Ytkgoaodpjeonnaa.Dv
