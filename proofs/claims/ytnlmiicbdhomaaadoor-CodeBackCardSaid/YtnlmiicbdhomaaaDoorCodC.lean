/- Contracts of Int and Text, both. -/
import Derived.Test.YtnlmiicbdhomaaaDoorCodB
namespace Go.Proofs.YtnlmiicbdhomaaaDoor
open Go.RowKit

theorem number_z (x : Int) (n : Nat) (h : x = (n : Int)) (h1 : x < 18446744073709551616) (w : World) : Calls Tryd.prog 15 #[.int .u64 x] w (GivesB w (Cod.number n)) := by
  subst h
  exact number_any n (by omega) w
theorem xor_zero {x : Int} (h0 : 0 ≤ x) (h1 : x ≤ 9223372036854775807) : bits .xor .u64 (x * 2) (x / 9223372036854775808) = x * 2 := by
  have e : x / 9223372036854775808 = 0 := by omega
  rw [e, u64_xor _ _ (by omega) (by omega) (by omega) (by omega)]
  simp
  omega
theorem xor_ones (a : Nat) (h : a < 18446744073709551616) : a ^^^ 18446744073709551615 = 18446744073709551615 - a := by
  have h1 : (BitVec.ofNat 64 a ^^^ BitVec.allOnes 64) = ~~~ BitVec.ofNat 64 a := BitVec.xor_allOnes
  have h2 := congrArg BitVec.toNat h1
  rw [BitVec.toNat_xor, BitVec.toNat_not, BitVec.toNat_allOnes, BitVec.toNat_ofNat, Nat.mod_eq_of_lt (by omega)] at h2
  exact h2
theorem xor_neg {x : Int} (h0 : x < 0) (h1 : -9223372036854775808 ≤ x) :
    bits .xor .u64 (IntKind.u64.wrap (IntKind.u64.wrap x * 2)) (IntKind.u64.wrap (x / 9223372036854775808)) = -2 * x - 1 := by
  have w1 : ∀ n : Int, IntKind.u64.wrap n = n % 18446744073709551616 := fun n => by simp [IntKind.wrap, IntKind.bits, IntKind.signed]
  have e : x / 9223372036854775808 = -1 := by omega
  have e1 : IntKind.u64.wrap x = x + 18446744073709551616 := by rw [w1]; omega
  have e2 : IntKind.u64.wrap ((x + 18446744073709551616) * 2) = 2 * x + 18446744073709551616 := by rw [w1]; omega
  have e3 : IntKind.u64.wrap (-1) = 18446744073709551615 := by rw [w1]; omega
  rw [e, e1, e2, e3, u64_xor _ _ (by omega) (by omega) (by omega) (by omega)]
  have e4 : (18446744073709551615 : Int).toNat = 18446744073709551615 := by omega
  rw [e4, xor_ones _ (by omega)]
  omega
theorem zig_pos {x : Int} (h0 : 0 ≤ x) : (Cod.zig x : Int) = 2 * x := by unfold Cod.zig; rw [if_pos h0]; omega
theorem zig_neg {x : Int} (h0 : x < 0) : (Cod.zig x : Int) = -2 * x - 1 := by unfold Cod.zig; rw [if_neg (by omega)]; omega

/-- What is handed on. -/
theorem givesB_ret {w w1 : World} {l : List UInt8} {e : Ending} (h : GivesB w l e w1) : ∃ A c, e = .returned (.slice A l.length c) ∧ Own w1 w.heap.size 5 A c l ∧ Below w.heap.size w w1 := h

theorem int_pos (x : Int) (h0 : 0 ≤ x) (h1 : x ≤ 9223372036854775807) (w : World) :
    Calls Tryd.prog 24 #[.int .i64 x] w (GivesB w (Cod.number (Cod.zig x))) := by
  have hx := xor_zero h0 h1
  go_enter Tryd.func24, Tryd.ntmps24
  go_wp2_with fail
  refine (number_z _ (Cod.zig x) (by have := zig_pos h0; omega) (by omega) _).mono ?_
  rintro e w1 ⟨A, c, rfl, ho, hb⟩
  go_wp2_with fail
  go_ret
  exact ⟨A, c, rfl, ho, hb⟩
theorem int_neg (x : Int) (h0 : x < 0) (h1 : -9223372036854775808 ≤ x) (w : World) :
    Calls Tryd.prog 24 #[.int .i64 x] w (GivesB w (Cod.number (Cod.zig x))) := by
  have hx := xor_neg h0 h1
  go_enter Tryd.func24, Tryd.ntmps24
  go_wp2_with fail
  refine (number_z _ (Cod.zig x) (by have := zig_neg h0; omega) (by omega) _).mono ?_
  rintro e w1 ⟨A, c, rfl, ho, hb⟩
  go_wp2_with fail
  go_ret
  exact ⟨A, c, rfl, ho, hb⟩
theorem text_any (A : Option Addr) (c : Nat) (l : List UInt8) (w : World) (h : RdB w w.heap.size A l) (hl : l.length ≤ 70368744177664) :
    Calls Tryd.prog 25 #[.slice A l.length c] w (GivesB w (Cod.text l)) := by
  have hn := Cod.number_len (n := l.length) (by omega)
  go_enter Tryd.func25, Tryd.ntmps25
  go_wp2_with fail
  refine (number_any l.length (by omega) _).mono ?_
  rintro e w1 ⟨A1, c1, rfl, ho, hb⟩
  have hr := h.below hb (Nat.le_refl _)
  go_wp2_with (at_builtin; refine wpList_append_b _ rfl _ _ bt rfl w.heap.size A1 c1 (Cod.number l.length) rfl ho _ A l.length c l rfl rfl hr (by omega) hb.size ?_; intro A' c' L' w2 hL ho1 hg1 _; have HL := Lib.hid hL; clear hL)
  have hb2 := below_grow hb hg1 (fun g hg => (ho.blk_ge g hg).1) hb.size
  go_ret
  have e : L' = Cod.text l := HL.out
  refine ⟨A', c', ret_slice (by rw [e]), by rw [← e]; exact ho1, hb2⟩
end Go.Proofs.YtnlmiicbdhomaaaDoor
