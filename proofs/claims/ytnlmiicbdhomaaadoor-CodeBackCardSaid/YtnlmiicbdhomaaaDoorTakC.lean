/- The contracts of TakeInt, both. -/
import Derived.Test.YtnlmiicbdhomaaaDoorTakB
namespace Go.Proofs.YtnlmiicbdhomaaaDoor
open Go.RowKit

theorem wrap_small {n : Nat} (h : n < 9223372036854775808) : IntKind.i64.wrap (n : Int) = n := by
  simp [IntKind.wrap, IntKind.bits, IntKind.signed]; omega
theorem i64_xor_zero {n : Nat} (h : n < 9223372036854775808) : bits .xor .i64 (n : Int) 0 = n := by
  have e : bits .xor .i64 (n : Int) 0 = IntKind.i64.wrap (((BitVec.ofInt 64 (n : Int)) ^^^ (BitVec.ofInt 64 0)).toNat : Int) := rfl
  have e0 : BitVec.ofInt 64 0 = 0#64 := by decide
  have e1 : BitVec.ofInt 64 (n : Int) = BitVec.ofNat 64 n := BitVec.ofInt_natCast 64 n
  rw [e, e0, e1, BitVec.xor_zero, BitVec.toNat_ofNat, Nat.mod_eq_of_lt (by omega), wrap_small h]
theorem i64_xor_ones {n : Nat} (h : n < 9223372036854775808) : bits .xor .i64 (n : Int) (-1) = -n - 1 := by
  have e : bits .xor .i64 (n : Int) (-1) = IntKind.i64.wrap (((BitVec.ofInt 64 (n : Int)) ^^^ (BitVec.ofInt 64 (-1))).toNat : Int) := rfl
  have e0 : BitVec.ofInt 64 (-1) = BitVec.allOnes 64 := by decide
  have e1 : BitVec.ofInt 64 (n : Int) = BitVec.ofNat 64 n := BitVec.ofInt_natCast 64 n
  rw [e, e0, e1, BitVec.xor_allOnes, BitVec.toNat_not, BitVec.toNat_ofNat, Nat.mod_eq_of_lt (by omega)]
  simp [IntKind.wrap, IntKind.bits, IntKind.signed]; omega
theorem low1 {n : Nat} (h : n < 18446744073709551616) : bits .and .u64 (n : Int) 1 = (n : Int) % 2 := by
  have := u64_and_nat n 1 h (by omega)
  rw [show ((1 : Nat) : Int) = 1 from rfl, Nat.and_one_is_mod] at this
  rw [this]; omega

/-- The whole number that a number codes. -/
def unzig (n : Nat) : Int := if n % 2 = 0 then (n / 2 : Nat) else -((n / 2 : Nat) : Int) - 1
/-- What was taken, as Go's three results, the first one an int64. -/
def TakenI (w : World) (v : Option (Nat × List UInt8)) (e : Ending) (w' : World) : Prop :=
  Below w.heap.size w w' ∧ match v with
  | none => e = .returned (.tuple #[.int .i64 0, .slice none 0 0, .int .i64 3])
  | some (n, r) => ∃ A c, e = .returned (.tuple #[.int .i64 (unzig n), .slice A r.length c, .int .i64 0]) ∧ r.length ≤ c ∧ c ≤ 9223372036854775807 ∧ RdB w' w'.heap.size A r

theorem taken_none {w w' : World} {e : Ending} (h : Taken w none e w') : Below w.heap.size w w' ∧ e = .returned (.tuple #[.int .u64 0, .slice none 0 0, .int .i64 3]) := h
theorem taken_some {w w' : World} {e : Ending} {n : Nat} {r : List UInt8} (h : Taken w (some (n, r)) e w') : Below w.heap.size w w' ∧ ∃ A c, e = .returned (.tuple #[.int .u64 (n : Int), .slice A r.length c, .int .i64 0]) ∧ r.length ≤ c ∧ c ≤ 9223372036854775807 ∧ RdB w' w'.heap.size A r := h
theorem ret_taki {x y : Int} {A : Option Addr} {k c : Nat} (hx : x = y) : Ending.returned (.tuple #[.int .i64 x, .slice A k c, .int .i64 0]) = .returned (.tuple #[.int .i64 y, .slice A k c, .int .i64 0]) := by rw [hx]

set_option maxRecDepth 100000 in
theorem int_part (A : Option Addr) (k c n : Nat) (hn : n < 18446744073709551616) (w : World) :
    Calls Tryd.prog 31 #[.int .u64 (n : Int), .slice A k c] w fun e w' => e = .returned (.tuple #[.int .i64 (unzig n), .slice A k c, .int .i64 0]) ∧ w = w' := by
  have ha := low1 hn
  obtain ⟨q, hq⟩ : ∃ q, q = n / 2 := ⟨_, rfl⟩
  have hq1 : (n : Int) / 2 = (q : Int) := by omega
  have hq2 : q < 9223372036854775808 := by omega
  by_cases hp : n % 2 = 0
  · have hp1 : (n : Int) % 2 = 0 := by omega
    have hx := i64_xor_zero hq2
    have e : unzig n = (q : Int) := by unfold unzig; rw [if_pos hp, hq]
    have HE := Lib.hid e; clear e hp hq
    go_enter Tryd.func31, Tryd.ntmps31
    go_wp2
    refine bodyPost_ret (results_tmp3 rfl _ _ _) rfl ?_
    exact ⟨ret_taki (by rw [HE.out]), rfl⟩
  · have hp1 : (n : Int) % 2 = 1 := by omega
    have hx := i64_xor_ones hq2
    have e : unzig n = -(q : Int) - 1 := by unfold unzig; rw [if_neg hp, hq]
    have HE := Lib.hid e; clear e hp hq
    go_enter Tryd.func31, Tryd.ntmps31
    go_wp2
    refine bodyPost_ret (results_tmp3 rfl _ _ _) rfl ?_
    exact ⟨ret_taki (by rw [HE.out]), rfl⟩

set_option maxRecDepth 100000 in
theorem thenInt_any (A : Option Addr) (c : Nat) (b : List UInt8) (w : World) (h : RdB w w.heap.size A b) (hl : b.length ≤ 140737488355328) (hc : b.length ≤ c) (hcc : c ≤ 9223372036854775807) :
    Calls Tryd.prog 30 #[.slice A b.length c, .func (.func 14) #[] #[], .func (.func 31) #[] #[]] w (TakenI w (Cod.take b)) := by
  have C := take_any A c b w h hl hc hcc
  cases ht : Cod.take b with
  | none =>
    rw [ht] at C
    have HC := Lib.hid C; clear C ht
    go_enter Tryd.func30, Tryd.ntmps30
    go_wp2_with fail
    refine HC.out.mono ?_
    intro e w1 hh
    obtain ⟨hb, rfl⟩ := taken_none hh
    clear hh
    go_wp2_with fail
    refine bodyPost_ret (results_tmp3 rfl _ _ _) rfl ?_
    exact ⟨hb, rfl⟩
  | some v =>
    obtain ⟨n, r⟩ := v
    have hn := (Cod.take_bound ht).1
    rw [ht] at C
    have HC := Lib.hid C; clear C ht
    go_enter Tryd.func30, Tryd.ntmps30
    go_wp2_with fail
    refine HC.out.mono ?_
    intro e w1 hh
    obtain ⟨hb, A1, c1, rfl, hc1, hcc1, r1⟩ := taken_some hh
    clear hh
    go_wp2_with fail
    refine (int_part A1 r.length c1 n hn _).mono ?_
    rintro e w2 ⟨rfl, rfl⟩
    go_wp2_with fail
    refine bodyPost_ret (results_tmp3 rfl _ _ _) rfl ?_
    exact ⟨hb, A1, c1, rfl, hc1, hcc1, r1⟩

theorem takenI_none {w w' : World} {e : Ending} (h : TakenI w none e w') : Below w.heap.size w w' ∧ e = .returned (.tuple #[.int .i64 0, .slice none 0 0, .int .i64 3]) := h
theorem takenI_some {w w' : World} {e : Ending} {n : Nat} {r : List UInt8} (h : TakenI w (some (n, r)) e w') : Below w.heap.size w w' ∧ ∃ A c, e = .returned (.tuple #[.int .i64 (unzig n), .slice A r.length c, .int .i64 0]) ∧ r.length ≤ c ∧ c ≤ 9223372036854775807 ∧ RdB w' w'.heap.size A r := h
set_option maxRecDepth 100000 in
theorem takeInt_any (A : Option Addr) (c : Nat) (b : List UInt8) (w : World) (h : RdB w w.heap.size A b) (hl : b.length ≤ 140737488355328) (hc : b.length ≤ c) (hcc : c ≤ 9223372036854775807) :
    Calls Tryd.prog 17 #[.slice A b.length c] w (TakenI w (Cod.take b)) := by
  have C := thenInt_any A c b w h hl hc hcc
  cases ht : Cod.take b with
  | none =>
    rw [ht] at C
    have HC := Lib.hid C; clear C ht
    go_enter Tryd.func17, Tryd.ntmps17
    go_wp2_with fail
    refine HC.out.mono ?_
    intro e w1 hh
    obtain ⟨hb, rfl⟩ := takenI_none hh
    clear hh
    go_wp2_with fail
    refine bodyPost_ret (results_tmp3 rfl _ _ _) rfl ?_
    exact ⟨hb, rfl⟩
  | some v =>
    obtain ⟨n, r⟩ := v
    rw [ht] at C
    have HC := Lib.hid C; clear C ht
    go_enter Tryd.func17, Tryd.ntmps17
    go_wp2_with fail
    refine HC.out.mono ?_
    intro e w1 hh
    obtain ⟨hb, A1, c1, rfl, hc1, hcc1, r1⟩ := takenI_some hh
    clear hh
    go_wp2_with fail
    refine bodyPost_ret (results_tmp3 rfl _ _ _) rfl ?_
    exact ⟨hb, A1, c1, rfl, hc1, hcc1, r1⟩
set_option maxRecDepth 100000 in
theorem rtakeInt_any (A : Option Addr) (c : Nat) (b : List UInt8) (w : World) (h : RdB w w.heap.size A b) (hl : b.length ≤ 140737488355328) (hc : b.length ≤ c) (hcc : c ≤ 9223372036854775807) :
    Calls Tryd.prog 18 #[.slice A b.length c] w (TakenI w (Cod.take b)) := by
  have C := rtake_any A c b w h hl hc hcc
  cases ht : Cod.take b with
  | none =>
    rw [ht] at C
    have HC := Lib.hid C; clear C ht
    go_enter Tryd.func18, Tryd.ntmps18
    go_wp2_with fail
    refine HC.out.mono ?_
    intro e w1 hh
    obtain ⟨hb, rfl⟩ := taken_none hh
    clear hh
    go_wp2_with fail
    refine bodyPost_ret (results_tmp3 rfl _ _ _) rfl ?_
    exact ⟨hb, rfl⟩
  | some v =>
    obtain ⟨n, r⟩ := v
    have hn := (Cod.take_bound ht).1
    rw [ht] at C
    have HC := Lib.hid C; clear C ht
    obtain ⟨q, hq⟩ : ∃ q, q = n / 2 := ⟨_, rfl⟩
    have hq1 : (n : Int) / 2 = (q : Int) := by omega
    have hq2 : (q : Int) < 9223372036854775808 := by omega
    by_cases hp : n % 2 = 0
    · have hp1 : (n : Int) % 2 = 0 := by omega
      have e : unzig n = (q : Int) := by unfold unzig; rw [if_pos hp, hq]
      have HE := Lib.hid e; clear e hp hq
      go_enter Tryd.func18, Tryd.ntmps18
      go_wp2_with fail
      refine HC.out.mono ?_
      intro e w1 hh
      obtain ⟨hb, A1, c1, rfl, hc1, hcc1, r1⟩ := taken_some hh
      clear hh
      go_wp2_with fail
      refine bodyPost_ret (results_tmp3 rfl _ _ _) rfl ?_
      exact ⟨hb, A1, c1, ret_taki (by rw [HE.out]), hc1, hcc1, r1⟩
    · have hp1 : (n : Int) % 2 = 1 := by omega
      have e : unzig n = -(q : Int) - 1 := by unfold unzig; rw [if_neg hp, hq]
      have HE := Lib.hid e; clear e hp hq
      go_enter Tryd.func18, Tryd.ntmps18
      go_wp2_with fail
      refine HC.out.mono ?_
      intro e w1 hh
      obtain ⟨hb, A1, c1, rfl, hc1, hcc1, r1⟩ := taken_some hh
      clear hh
      go_wp2_with fail
      refine bodyPost_ret (results_tmp3 rfl _ _ _) rfl ?_
      exact ⟨hb, A1, c1, ret_taki (by rw [HE.out]), hc1, hcc1, r1⟩
end Go.Proofs.YtnlmiicbdhomaaaDoor
