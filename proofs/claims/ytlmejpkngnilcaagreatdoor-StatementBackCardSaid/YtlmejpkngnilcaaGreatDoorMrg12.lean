/- Parts of the proof, one behind the other: Plain: an amount's text, bare of commas and the point, is the amount's digits. -/
import Derived.Lib.AtoiAllCases
import Derived.Test.YtlmejpkngnilcaaGreatDoorMrg11
import Derived.Lib.ParseIntBTie
namespace Go.Proofs.YtlmejpkngnilcaaGreatDoor
open Go.RowKit

/-- A text without commas and points. -/
def bareL (l : List UInt8) : List UInt8 := l.filter fun c => c != 44 && c != 46
theorem bareL_append (l m : List UInt8) : bareL (l ++ m) = bareL l ++ bareL m := List.filter_append ..
/-- All digits. -/
def Digs (l : List UInt8) : Prop := ∀ c ∈ l, 48 ≤ c.toNat ∧ c.toNat ≤ 57
theorem toNat_digit (k : Nat) (h : k < 10) : (UInt8.ofNat (48 + k)).toNat = 48 + k := by
  rw [UInt8.toNat_ofNat']; omega
theorem digs_dec : ∀ u : Nat, Digs (Lib.decDigits u) := by
  intro u
  induction u using Nat.strongRecOn with
  | _ u ih =>
    intro c hc
    rw [Lib.decDigits] at hc
    split at hc
    · rename_i h
      rw [List.mem_singleton] at hc
      rw [hc, toNat_digit _ h]; omega
    · rename_i h
      rcases List.mem_append.1 hc with hc | hc
      · exact ih (u / 10) (by omega) c hc
      · rw [List.mem_singleton] at hc
        rw [hc, toNat_digit _ (by omega)]; omega
theorem bareL_digs {l : List UInt8} (h : Digs l) : bareL l = l := by
  unfold bareL
  rw [List.filter_eq_self]
  intro c hc
  have h1 := h c hc
  rw [Bool.and_eq_true]
  constructor
  · rw [bne_iff_ne]; intro e; rw [e] at h1; exact absurd h1.1 (by decide)
  · rw [bne_iff_ne]; intro e; rw [e] at h1; exact absurd h1.1 (by decide)
theorem bareL_grpT : ∀ l : List UInt8, bareL (grpT l) = bareL l
  | [] => rfl
  | c :: l => by
    rw [grpT_cons, bareL_append, bareL_grpT l]
    have e : c :: l = [c] ++ l := rfl
    rw [e, bareL_append]
    congr 1
    split
    · show bareL ([44] ++ [c]) = _
      rw [bareL_append]; rfl
    · rfl
theorem bareL_grp : ∀ l : List UInt8, bareL (grp l) = bareL l
  | [] => rfl
  | c :: l => by
    show bareL ([c] ++ grpT l) = bareL ([c] ++ l)
    rw [bareL_append, bareL_append, bareL_grpT l]
theorem bareL_money (a : Int) : bareL (moneyL a) = (if a < 0 then [45] else []) ++ (Lib.decDigits (a.natAbs / 100) ++ [UInt8.ofNat (48 + a.natAbs % 100 / 10), UInt8.ofNat (48 + a.natAbs % 10)]) := by
  have d2 : Digs [UInt8.ofNat (48 + a.natAbs % 100 / 10), UInt8.ofNat (48 + a.natAbs % 10)] := by
    intro c hc
    simp only [List.mem_cons, List.not_mem_nil, or_false] at hc
    rcases hc with rfl | rfl
    · rw [toNat_digit _ (by omega)]; omega
    · rw [toNat_digit _ (by omega)]; omega
  unfold moneyL moneyOf
  rw [bareL_append, bareL_append, bareL_grp, bareL_digs (digs_dec _)]
  have e : ([46, UInt8.ofNat (48 + a.natAbs % 100 / 10), UInt8.ofNat (48 + a.natAbs % 10)] : List UInt8) = [46] ++ [UInt8.ofNat (48 + a.natAbs % 100 / 10), UInt8.ofNat (48 + a.natAbs % 10)] := rfl
  rw [e, bareL_append, bareL_digs d2]
  congr 1
  split <;> rfl
theorem parse_digit {acc k : Nat} {t : List UInt8} (hk : k < 10) (h : acc * 10 + k < 18446744073709551616) (h2 : acc < 1844674407370955162) : Lib.parseUint10 acc (UInt8.ofNat (48 + k) :: t) = Lib.parseUint10 (acc * 10 + k) t := by
  rw [Lib.parseUint10, toNat_digit _ hk, if_pos (by omega), if_neg (by omega), Nat.add_sub_cancel_left, if_neg (by omega)]
theorem parse_dec : ∀ (n : Nat), n < 1844674407370955162 → ∀ t : List UInt8, Lib.parseUint10 0 (Lib.decDigits n ++ t) = Lib.parseUint10 n t := by
  intro n
  induction n using Nat.strongRecOn with
  | _ n ih =>
    intro hn t
    rw [Lib.decDigits]
    split
    · rename_i h
      rw [List.singleton_append, parse_digit h (by omega) (by omega), Nat.zero_mul, Nat.zero_add]
    · rename_i h
      rw [List.append_assoc, List.singleton_append, ih (n / 10) (by omega) (by omega), parse_digit (by omega) (by omega) (by omega)]
      congr 1
      omega
theorem parse_mag (u : Nat) (hu : u ≤ 9223372036854775808) : Lib.parseMag (Lib.decDigits (u / 100) ++ [UInt8.ofNat (48 + u % 100 / 10), UInt8.ofNat (48 + u % 10)]) = .ok u := by
  unfold Lib.parseMag
  rw [if_neg (by simp), parse_dec _ (by omega), parse_digit (by omega) (by omega) (by omega), parse_digit (by omega) (by omega) (by omega)]
  rw [Lib.parseUint10]
  congr 1
  omega
theorem dec_ne (n : Nat) : Lib.decDigits n ≠ [] := by
  rw [Lib.decDigits]; split <;> simp
/-- What was printed is read back. -/
theorem parse_bare (a : Int) (h0 : -9223372036854775808 ≤ a) (h1 : a ≤ 9223372036854775807) : Lib.parseIntB 64 (bareL (moneyL a)) = .ok a := by
  rw [Lib.parseIntB_64, bareL_money]
  obtain ⟨D, hD⟩ : ∃ D, D = Lib.decDigits (a.natAbs / 100) ++ [UInt8.ofNat (48 + a.natAbs % 100 / 10), UInt8.ofNat (48 + a.natAbs % 10)] := ⟨_, rfl⟩
  have hm := parse_mag a.natAbs (by omega)
  rw [← hD] at hm ⊢
  have hdg : Digs (Lib.decDigits (a.natAbs / 100)) := digs_dec _
  by_cases ha : a < 0
  · rw [if_pos ha, List.singleton_append]
    rw [Lib.atoiAll_minus, hm]
    show (if 9223372036854775808 < a.natAbs then Lib.NumEnd.range else .ok (-(a.natAbs : Int))) = _
    rw [if_neg (by omega)]
    congr 1
    omega
  · rw [if_neg ha, List.nil_append]
    obtain ⟨c, r, hr⟩ : ∃ c r, Lib.decDigits (a.natAbs / 100) = c :: r := by
      cases h : Lib.decDigits (a.natAbs / 100) with
      | nil => exact absurd h (dec_ne _)
      | cons c r => exact ⟨c, r, rfl⟩
    have hc := hdg c (by rw [hr]; exact List.mem_cons_self ..)
    have hD2 : D = c :: (r ++ [UInt8.ofNat (48 + a.natAbs % 100 / 10), UInt8.ofNat (48 + a.natAbs % 10)]) := by rw [hD, hr]; rfl
    rw [hD2] at hm ⊢
    unfold Lib.atoiAll
    simp only
    rw [if_neg (show ¬ (c.toNat = 43 ∨ c.toNat = 45) by omega), hm]
    simp only
    rw [if_neg (by omega), if_neg (by omega), if_neg (by omega)]
    congr 1
    omega
end Go.Proofs.YtlmejpkngnilcaaGreatDoor
