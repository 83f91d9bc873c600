/- Parts of the proof, one behind the other: Contracts of the log: a file's name. -/
import Derived.Test.YtekbdedpombgcaaGreatDoorMrg30
import Derived.Test.YtekbdedpombgcaaGreatDoorMrg09
import Derived.Test.YtekbdedpombgcaaGreatDoorMrg31
import Derived.Test.YtekbdedpombgcaaGreatDoorMrg44
namespace Go.Proofs.YtekbdedpombgcaaGreatDoor
open Go.RowKit

namespace Wal
/-- A file's name. -/
def name (n : Nat) : List UInt8 := [108, 111, 103, 45] ++ Dig.digW 6 n
theorem itoa6 (n : Nat) (hn : n < 1000000) (D : List UInt8) (hD : D = Lib.decDigits n) (w : World) (ht : Tab w) :
    Calls Tryz.prog 82 #[.int .i64 (n : Int)] w fun e w' => e = .returned (.string ⟨D.toArray⟩) ∧ Below w.heap.size w w' := by
  refine (Tryz.strconv_Itoa (n : Int) (by omega) (by omega) w ht).mono ?_
  rintro e w' ⟨rfl, k, os, rfl⟩
  exact ⟨by rw [Lib.itoa_nonneg, hD], below_row w k os⟩
theorem rep6 (c : Int) (h0 : 0 ≤ c) (h4 : c ≤ 6) (R : List UInt8) (hR : R = List.replicate c.toNat 48) (w : World) :
    Calls Tryz.prog 83 #[.string ⟨#[48]⟩, .int .i64 c] w fun e w' => e = .returned (.string ⟨R.toArray⟩) ∧ Below w.heap.size w w' := by
  obtain ⟨k, rfl⟩ := Int.eq_ofNat_of_zero_le h0
  refine (Tryz.strings_Repeat ⟨#[48]⟩ k w (by omega) (by show 1 * k ≤ _; omega)).mono ?_
  rintro e w' ⟨rfl, hb⟩
  refine ⟨?_, hb⟩
  rw [hR, Int.toNat_natCast, ← Dig.repeat48]
set_option maxHeartbeats 1000000 in
set_option maxRecDepth 100000 in
theorem name_any (n : Nat) (hn : n < 1000000) (w : World) (ht : Tab w) (T : List UInt8) (hT : T = name n) :
    Calls Tryz.prog 105 #[.int .i64 (n : Int)] w fun e w' => e = .returned (.string ⟨T.toArray⟩) ∧ Below w.heap.size w w' := by
  obtain ⟨h1, h2⟩ := Dig.pad 6 n (by omega) hn
  obtain ⟨D, hD⟩ : ∃ D, D = Lib.decDigits n := ⟨_, rfl⟩
  obtain ⟨R, hR⟩ : ∃ R : List UInt8, R = List.replicate (6 - D.length) 48 := ⟨_, rfl⟩
  rw [← hD] at h1 h2
  rw [← hR] at h2
  unfold name at hT
  rw [← h2] at hT
  have hRl : R.length ≤ 6 := by rw [hR]; simp
  have HD := Lib.hid hD
  have HR := Lib.hid hR
  have HT := Lib.hid hT
  clear hD hR h2 hT
  go_enter Tryz.func105, Tryz.ntmps105
  go_wp2_with fail
  refine (itoa6 n hn D HD.out _ ht).mono ?_
  rintro e w1 ⟨rfl, hb1⟩
  go_wp2_with fail
  refine (rep6 _ (by omega) (by omega) R (by rw [HR.out]; congr 1; omega) _).mono ?_
  rintro e w2 ⟨rfl, hb2⟩
  go_wp2_with fail
  go_ret
  exact ⟨by first | (rw [HT.out]; rfl) | (rw [HT.out]; simp), hb1.trans (hb2.mono hb1.size)⟩
end Wal
end Go.Proofs.YtekbdedpombgcaaGreatDoor
