/- The plain keys of layer 3. No Go in sight. -/
import Derived.Test.YtnlmiicbdhomaaaDoorByt3
import Derived.Test.YtnlmiicbdhomaaaDoorEsc
import Derived.Test.YtnlmiicbdhomaaaDoorCod
import Derived.Lib.BitFns
namespace Go.Proofs.YtnlmiicbdhomaaaDoor.Cod

/-- A number in base 256, the highest digit first, without a 0 ahead. -/
def be (n : Nat) : List UInt8 := if _h : n = 0 then [] else be (n / 256) ++ [UInt8.ofNat (n % 256)]
termination_by n
decreasing_by omega
theorem be_zero : be 0 = [] := by rw [be]; simp
theorem be_pos {n : Nat} (h : n ≠ 0) : be n = be (n / 256) ++ [UInt8.ofNat (n % 256)] := by rw [be, dif_neg h]
/-- So many digits of a number. -/
def beW : Nat → Nat → List UInt8
  | 0, _ => []
  | w + 1, n => beW w (n / 256) ++ [UInt8.ofNat (n % 256)]
theorem beW_length : ∀ (w n : Nat), (beW w n).length = w := by
  intro w
  induction w with
  | zero => intro n; rfl
  | succ w ih => intro n; simp [beW, ih]
/-- One part's key. -/
def partKey (p : Pt) : List UInt8 := if p.t then 32 :: (Esc.esc 0 [0, 255] p.s.data.toList ++ [0, 0]) else UInt8.ofNat (16 + (be p.n).length) :: be p.n
/-- The key of parts. -/
def key (l : List Pt) : List UInt8 := l.flatMap partKey
theorem key_append (l m : List Pt) : key (l ++ m) = key l ++ key m := by simp [key]
theorem key_take_succ (l : List Pt) (k : Nat) (h : k < l.length) : key (l.take (k + 1)) = key (l.take k) ++ partKey l[k] := by
  rw [List.take_succ_eq_append_getElem h, key_append]
  simp [key]
theorem key_take_le (l : List Pt) (k : Nat) (h : k < l.length) : (key (l.take k)).length + (partKey l[k]).length ≤ (key l).length := by
  have e : key l = key (l.take (k + 1)) ++ key (l.drop (k + 1)) := by rw [← key_append, List.take_append_drop]
  rw [e, key_take_succ l k h]
  simp
theorem be_self (n : Nat) : be n = beW (be n).length n := by
  induction n using Nat.strongRecOn with
  | ind n ih =>
    by_cases h : n = 0
    · subst h; rw [be_zero]; rfl
    · rw [be_pos h, List.length_append]
      show _ = beW ((be (n / 256)).length + 1) n
      rw [beW, ← ih (n / 256) (by omega)]
/-- How many bytes a number has, by its bits. -/
theorem be_bits (n : Nat) : n < 18446744073709551616 → (Lib.bitLen n + 7) / 8 = (be n).length := by
  induction n using Nat.strongRecOn with
  | ind n ih =>
    intro hn
    by_cases h : n = 0
    · subst h; rw [be_zero]; decide
    · rw [be_pos h, List.length_append]
      rcases Nat.lt_or_ge n 256 with h2 | h2
      · have h3 : n / 256 = 0 := by omega
        rw [h3, be_zero]
        have h4 := Lib.bitLen_le8 ⟨n, h2⟩
        have h5 := Lib.bitLen_half n h (by omega)
        simp only at h4
        simp only [List.length_nil, List.length_cons]
        omega
      · rw [Lib.bitLen_shift8 n h2 hn, ← ih (n / 256) (by omega) (by omega)]
        simp only [List.length_nil, List.length_cons]
        omega
theorem be_len {n : Nat} (h : n < 18446744073709551616) : (be n).length ≤ 8 := by
  have key : ∀ (w n : Nat), n < 256 ^ w → (be n).length ≤ w := by
    intro w
    induction w with
    | zero => intro n h; have : n = 0 := by simpa using h
              subst this; simp [be_zero]
    | succ w ih =>
      intro n h
      by_cases h0 : n = 0
      · subst h0; simp [be_zero]
      · rw [be_pos h0, List.length_append]
        have := ih (n / 256) (by rw [Nat.pow_succ] at h; omega)
        simp; omega
  exact key 8 n (by have : (256 : Nat) ^ 8 = 18446744073709551616 := by decide
                    omega)
end Go.Proofs.YtnlmiicbdhomaaaDoor.Cod
