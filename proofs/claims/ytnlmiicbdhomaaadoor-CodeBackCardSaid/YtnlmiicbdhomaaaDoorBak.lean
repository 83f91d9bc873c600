/- Plain: what was coded is taken as it was. -/
import Derived.Test.YtnlmiicbdhomaaaDoorPar
import Derived.Test.YtnlmiicbdhomaaaDoorTak
import Derived.Test.YtnlmiicbdhomaaaDoorOrd
namespace Go.Proofs.YtnlmiicbdhomaaaDoor.Cod
open Go.Op (bytesLess)

theorem hi_head (n : Nat) : n ≠ 0 → ∃ c r, hi n = c :: r ∧ c ≠ 128 := by
  induction n using Nat.strongRecOn with
  | ind n ih =>
    intro h
    rw [hi_pos h]
    by_cases h1 : n / 128 = 0
    · rw [h1, hi_zero]
      refine ⟨UInt8.ofNat (n % 128 + 128), [], rfl, fun e => ?_⟩
      have := congrArg UInt8.toNat e
      rw [UInt8.toNat_ofNat'] at this
      have h128 : (128 : UInt8).toNat = 128 := rfl
      omega
    · obtain ⟨c, r, e, hc⟩ := ih (n / 128) (by omega) h1
      exact ⟨c, r ++ [UInt8.ofNat (n % 128 + 128)], by rw [e]; rfl, hc⟩
theorem z0_number (n : Nat) (r : List UInt8) : z0 (number n ++ r) = false ∨ hi (n / 128) = [] := by
  by_cases h : n / 128 = 0
  · right; rw [h, hi_zero]
  · left
    obtain ⟨c, l, e, hc⟩ := hi_head (n / 128) h
    unfold number
    rw [e]
    show (c == 128) = false
    simp [hc]
theorem tgo_hi (m : Nat) : m < 18446744073709551616 / 128 → ∀ (k : Nat) (l : List UInt8), ∃ j, tgo false k 0 (hi m ++ l) = tgo false j m l := by
  induction m using Nat.strongRecOn with
  | ind m ih =>
    intro hm k l
    by_cases h0 : m = 0
    · subst h0; rw [hi_zero]; exact ⟨k, rfl⟩
    · rw [hi_pos h0, List.append_assoc]
      obtain ⟨j, e⟩ := ih (m / 128) (by omega) (by omega) k ([UInt8.ofNat (m % 128 + 128)] ++ l)
      refine ⟨j + 1, ?_⟩
      rw [e]
      have hc : (UInt8.ofNat (m % 128 + 128)).toNat = m % 128 + 128 := by rw [UInt8.toNat_ofNat']; omega
      show tgo false j (m / 128) (UInt8.ofNat (m % 128 + 128) :: l) = _
      rw [tgo_on (by omega) (.inl rfl) (by omega), hc]
      congr 1; omega
theorem take_of {n : Nat} (h : n < 18446744073709551616) (r : List UInt8) : take (number n ++ r) = some (n, r) := by
  have hd : (UInt8.ofNat (n % 128)).toNat = n % 128 := by rw [UInt8.toNat_ofNat']; omega
  have key : ∀ j z, (z = false ∨ j = 0) → tgo z j (n / 128) (UInt8.ofNat (n % 128) :: r) = some (n, r) := by
    intro j z hz
    rw [tgo_end (by omega) hz (by omega), hd]
    congr 2; omega
  unfold take
  rcases z0_number n r with hz | hz
  · rw [hz]
    unfold number
    rw [List.append_assoc]
    obtain ⟨j, e⟩ := tgo_hi (n / 128) (by omega) 0 ([UInt8.ofNat (n % 128)] ++ r)
    rw [e]
    exact key j false (.inl rfl)
  · have h0 : n / 128 = 0 := by
      rcases Nat.eq_zero_or_pos (n / 128) with h0 | h0
      · exact h0
      · obtain ⟨c, l, e, _⟩ := hi_head (n / 128) (by omega)
        rw [hz] at e; cases e
    have := key 0 (z0 (number n ++ r)) (.inr rfl)
    rw [h0] at this
    unfold number
    rw [h0, hi_zero]
    have e2 : z0 (number n ++ r) = z0 ([] ++ [UInt8.ofNat (n % 128)] ++ r) := by unfold number; rw [h0, hi_zero]
    rw [e2] at this
    exact this
/-- A part as it is read back. -/
def norm (p : Pt) : Pt := if p.t then ⟨true, 0, p.s⟩ else ⟨false, p.n, .empty⟩
theorem norm_key (p : Pt) : partKey (norm p) = partKey p := by
  obtain ⟨t, n, s⟩ := p
  cases t <;> rfl
theorem key_norm (l : List Pt) : key (l.map norm) = key l := by
  induction l with
  | nil => rfl
  | cons p l ih => rw [List.map_cons, key_cons, key_cons, norm_key, ih]
theorem all_norm {l : List Pt} (h : ∀ p ∈ l, p.n < 18446744073709551616) : AllN (l.map norm) := by
  intro q hq
  rw [List.mem_map] at hq
  obtain ⟨p, hp, rfl⟩ := hq
  have hn := h p hp
  obtain ⟨t, n, s⟩ := p
  cases t with
  | true => exact ⟨by show 0 < 18446744073709551616; omega, fun _ => rfl, fun h => by cases h⟩
  | false => exact ⟨hn, (fun h => by cases h), fun _ => rfl⟩
theorem bytesLess_self (x : List UInt8) : bytesLess x x = false := by
  induction x with
  | nil => rfl
  | cons b x ih => rw [bytesLess_cons, ih]; simp
theorem less_of_key {a b : List Pt} (ha : ∀ p ∈ a, p.n < 18446744073709551616) (hb : ∀ p ∈ b, p.n < 18446744073709551616) (h : key a = key b) : less a b = false := by
  rw [← key_order a b ha hb, h, bytesLess_self]
end Go.Proofs.YtnlmiicbdhomaaaDoor.Cod
