/- Parts of the proof, one behind the other: The plain keys of layer 3. No Go in sight.; Plain: a part taken of bytes.; Plain: keys, as bytes, stand in the order of the lists of parts.; Plain: what was coded is taken as it was. -/
import Derived.Test.YtekbdedpombgcaaGreatDoorMrg44
import Derived.Test.YtekbdedpombgcaaGreatDoorMrg14
import Derived.Test.YtekbdedpombgcaaGreatDoorMrg04
import Derived.Lib.BitFns
import Derived.Laws.Strings
namespace Go.Proofs.YtekbdedpombgcaaGreatDoor.Cod

/-- A number in base 256, the highest digit first, without a 0 ahead. -/
def be (n : Nat) : List UInt8 := if _h : n = 0 then [] else be (n / 256) ++ [UInt8.ofNat (n % 256)]
termination_by n
decreasing_by omega
theorem be_zero : be 0 = [] := by rw [be]; simp
theorem be_pos {n : Nat} (h : n ≠ 0) : be n = be (n / 256) ++ [UInt8.ofNat (n % 256)] := by rw [be, dif_neg h]
/-- So many digits of a number. -/
def beW : Nat → Nat → List UInt8
  | 0, _ => []
  | w + 1, n => beW w (n / 256) ++ [UInt8.ofNat (n % 256)]
theorem beW_length : ∀ (w n : Nat), (beW w n).length = w := by
  intro w
  induction w with
  | zero => intro n; rfl
  | succ w ih => intro n; simp [beW, ih]
/-- One part's key. -/
def partKey (p : Pt) : List UInt8 := if p.t then 32 :: (Esc.esc 0 [0, 255] p.s.data.toList ++ [0, 0]) else UInt8.ofNat (16 + (be p.n).length) :: be p.n
/-- The key of parts. -/
def key (l : List Pt) : List UInt8 := l.flatMap partKey
theorem key_append (l m : List Pt) : key (l ++ m) = key l ++ key m := by simp [key]
theorem key_take_succ (l : List Pt) (k : Nat) (h : k < l.length) : key (l.take (k + 1)) = key (l.take k) ++ partKey l[k] := by
  rw [List.take_succ_eq_append_getElem h, key_append]
  simp [key]
theorem key_take_le (l : List Pt) (k : Nat) (h : k < l.length) : (key (l.take k)).length + (partKey l[k]).length ≤ (key l).length := by
  have e : key l = key (l.take (k + 1)) ++ key (l.drop (k + 1)) := by rw [← key_append, List.take_append_drop]
  rw [e, key_take_succ l k h]
  simp
theorem be_self (n : Nat) : be n = beW (be n).length n := by
  induction n using Nat.strongRecOn with
  | ind n ih =>
    by_cases h : n = 0
    · subst h; rw [be_zero]; rfl
    · rw [be_pos h, List.length_append]
      show _ = beW ((be (n / 256)).length + 1) n
      rw [beW, ← ih (n / 256) (by omega)]
/-- How many bytes a number has, by its bits. -/
theorem be_bits (n : Nat) : n < 18446744073709551616 → (Lib.bitLen n + 7) / 8 = (be n).length := by
  induction n using Nat.strongRecOn with
  | ind n ih =>
    intro hn
    by_cases h : n = 0
    · subst h; rw [be_zero]; decide
    · rw [be_pos h, List.length_append]
      rcases Nat.lt_or_ge n 256 with h2 | h2
      · have h3 : n / 256 = 0 := by omega
        rw [h3, be_zero]
        have h4 := Lib.bitLen_le8 ⟨n, h2⟩
        have h5 := Lib.bitLen_half n h (by omega)
        simp only at h4
        simp only [List.length_nil, List.length_cons]
        omega
      · rw [Lib.bitLen_shift8 n h2 hn, ← ih (n / 256) (by omega) (by omega)]
        simp only [List.length_nil, List.length_cons]
        omega
theorem be_len {n : Nat} (h : n < 18446744073709551616) : (be n).length ≤ 8 := by
  have key : ∀ (w n : Nat), n < 256 ^ w → (be n).length ≤ w := by
    intro w
    induction w with
    | zero => intro n h; have : n = 0 := by simpa using h
              subst this; simp [be_zero]
    | succ w ih =>
      intro n h
      by_cases h0 : n = 0
      · subst h0; simp [be_zero]
      · rw [be_pos h0, List.length_append]
        have := ih (n / 256) (by rw [Nat.pow_succ] at h; omega)
        simp; omega
  exact key 8 n (by have : (256 : Nat) ^ 8 = 18446744073709551616 := by decide
                    omega)
end Go.Proofs.YtekbdedpombgcaaGreatDoor.Cod

namespace Go.Proofs.YtekbdedpombgcaaGreatDoor.Cod

def val (n : Nat) (l : List UInt8) : Nat := l.foldl (fun a c => a * 256 + c.toNat) n
/-- A number's part behind its tag. -/
def num (t : UInt8) (b : List UInt8) : Option (Pt × List UInt8) :=
  if t.toNat < 16 ∨ 24 < t.toNat ∨ b.length < t.toNat - 16 ∨ (16 < t.toNat ∧ b.head? = some 0) then none
  else some (⟨false, val 0 (b.take (t.toNat - 16)), .empty⟩, b.drop (t.toNat - 16))
/-- A text's bytes behind its tag. -/
def txt : List UInt8 → Option (List UInt8 × List UInt8)
  | [] => none
  | c :: l => if c = 0 then (match l with | [] => none | d :: r => if d = 0 then some ([], r) else if d = 255 then (txt r).map (fun v => (0 :: v.1, v.2)) else none)
    else (txt l).map (fun v => (c :: v.1, v.2))
def one : List UInt8 → Option (Pt × List UInt8)
  | [] => none
  | t :: b => if t = 32 then (txt b).map (fun v => (⟨true, 0, ⟨v.1.toArray⟩⟩, v.2)) else num t b
end Go.Proofs.YtekbdedpombgcaaGreatDoor.Cod

namespace Go.Proofs.YtekbdedpombgcaaGreatDoor.Cod
open Go.Op (bytesLess)

/-- Two lists part: a first place where they are unlike; the first one's byte there is the lower one, or not. -/
def Parts_ (lt : Bool) (x y : List UInt8) : Prop := ∃ pre c d r s, x = pre ++ c :: r ∧ y = pre ++ d :: s ∧ c ≠ d ∧ lt = decide (c < d)
theorem Parts_.cons {lt : Bool} {x y : List UInt8} (b : UInt8) (h : Parts_ lt x y) : Parts_ lt (b :: x) (b :: y) := by
  obtain ⟨pre, c, d, r, s, rfl, rfl, h1, h2⟩ := h
  exact ⟨b :: pre, c, d, r, s, rfl, rfl, h1, h2⟩
theorem Parts_.pre {lt : Bool} {x y : List UInt8} (p : List UInt8) (h : Parts_ lt x y) : Parts_ lt (p ++ x) (p ++ y) := by
  obtain ⟨pre, c, d, r, s, rfl, rfl, h1, h2⟩ := h
  exact ⟨p ++ pre, c, d, r, s, by simp, by simp, h1, h2⟩
theorem Parts_.post {lt : Bool} {x y : List UInt8} (p q : List UInt8) (h : Parts_ lt x y) : Parts_ lt (x ++ p) (y ++ q) := by
  obtain ⟨pre, c, d, r, s, rfl, rfl, h1, h2⟩ := h
  exact ⟨pre, c, d, r ++ p, s ++ q, by simp, by simp, h1, h2⟩
theorem Parts_.head {x y : List UInt8} {c d : UInt8} (h : c ≠ d) : Parts_ (decide (c < d)) (c :: x) (d :: y) := ⟨[], c, d, x, y, rfl, rfl, h, rfl⟩
/-- Texts. -/
def enc (s : List UInt8) : List UInt8 := Esc.esc 0 [0, 255] s ++ [0, 0]
end Go.Proofs.YtekbdedpombgcaaGreatDoor.Cod

namespace Go.Proofs.YtekbdedpombgcaaGreatDoor.Cod
open Go.Op (bytesLess)

theorem hi_head (n : Nat) : n ≠ 0 → ∃ c r, hi n = c :: r ∧ c ≠ 128 := by
  induction n using Nat.strongRecOn with
  | ind n ih =>
    intro h
    rw [hi_pos h]
    by_cases h1 : n / 128 = 0
    · rw [h1, hi_zero]
      refine ⟨UInt8.ofNat (n % 128 + 128), [], rfl, fun e => ?_⟩
      have := congrArg UInt8.toNat e
      rw [UInt8.toNat_ofNat'] at this
      have h128 : (128 : UInt8).toNat = 128 := rfl
      omega
    · obtain ⟨c, r, e, hc⟩ := ih (n / 128) (by omega) h1
      exact ⟨c, r ++ [UInt8.ofNat (n % 128 + 128)], by rw [e]; rfl, hc⟩
theorem z0_number (n : Nat) (r : List UInt8) : z0 (number n ++ r) = false ∨ hi (n / 128) = [] := by
  by_cases h : n / 128 = 0
  · right; rw [h, hi_zero]
  · left
    obtain ⟨c, l, e, hc⟩ := hi_head (n / 128) h
    unfold number
    rw [e]
    show (c == 128) = false
    simp [hc]
theorem tgo_hi (m : Nat) : m < 18446744073709551616 / 128 → ∀ (k : Nat) (l : List UInt8), ∃ j, tgo false k 0 (hi m ++ l) = tgo false j m l := by
  induction m using Nat.strongRecOn with
  | ind m ih =>
    intro hm k l
    by_cases h0 : m = 0
    · subst h0; rw [hi_zero]; exact ⟨k, rfl⟩
    · rw [hi_pos h0, List.append_assoc]
      obtain ⟨j, e⟩ := ih (m / 128) (by omega) (by omega) k ([UInt8.ofNat (m % 128 + 128)] ++ l)
      refine ⟨j + 1, ?_⟩
      rw [e]
      have hc : (UInt8.ofNat (m % 128 + 128)).toNat = m % 128 + 128 := by rw [UInt8.toNat_ofNat']; omega
      show tgo false j (m / 128) (UInt8.ofNat (m % 128 + 128) :: l) = _
      rw [tgo_on (by omega) (.inl rfl) (by omega), hc]
      congr 1; omega
theorem take_of {n : Nat} (h : n < 18446744073709551616) (r : List UInt8) : take (number n ++ r) = some (n, r) := by
  have hd : (UInt8.ofNat (n % 128)).toNat = n % 128 := by rw [UInt8.toNat_ofNat']; omega
  have key : ∀ j z, (z = false ∨ j = 0) → tgo z j (n / 128) (UInt8.ofNat (n % 128) :: r) = some (n, r) := by
    intro j z hz
    rw [tgo_end (by omega) hz (by omega), hd]
    congr 2; omega
  unfold take
  rcases z0_number n r with hz | hz
  · rw [hz]
    unfold number
    rw [List.append_assoc]
    obtain ⟨j, e⟩ := tgo_hi (n / 128) (by omega) 0 ([UInt8.ofNat (n % 128)] ++ r)
    rw [e]
    exact key j false (.inl rfl)
  · have h0 : n / 128 = 0 := by
      rcases Nat.eq_zero_or_pos (n / 128) with h0 | h0
      · exact h0
      · obtain ⟨c, l, e, _⟩ := hi_head (n / 128) (by omega)
        rw [hz] at e; cases e
    have := key 0 (z0 (number n ++ r)) (.inr rfl)
    rw [h0] at this
    unfold number
    rw [h0, hi_zero]
    have e2 : z0 (number n ++ r) = z0 ([] ++ [UInt8.ofNat (n % 128)] ++ r) := by unfold number; rw [h0, hi_zero]
    rw [e2] at this
    exact this
end Go.Proofs.YtekbdedpombgcaaGreatDoor.Cod
