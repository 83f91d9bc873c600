/- Parts of the proof, one behind the other: Contracts of num.is, num.told, num.Sum: the sum of any amounts, exact. -/
import Derived.Test.YtlmejpkngnilcaaGreatDoorProg
import Derived.Test.YtlmejpkngnilcaaGreatDoorMrg01
import Derived.Below
import Derived.BigRegion
import Derived.BigQuiet
import Derived.Deep.QuietTactic
import Derived.Outline
import Derived.Laws.Rows
import Derived.Deep.RegionWith
import Derived.Laws.Externs
namespace Go.Proofs.YtlmejpkngnilcaaGreatDoor
open Go.RowKit

/-- What Told answers of a whole number. -/
def toldV (i : Int) : Value := if -4611686018427387904 ≤ i ∧ i ≤ 4611686018427387904 then .tuple #[.int .i64 i, .int .i64 0] else .tuple #[.int .i64 0, .int .i64 2]
def Amt (a : Int) : Prop := -4611686018427387904 ≤ a ∧ a ≤ 4611686018427387904
instance (a : Int) : Decidable (Amt a) := by unfold Amt; infer_instance
def amts (l : List Int) : Bool := l.all (fun a => decide (Amt a))
theorem amts_iff {l : List Int} : amts l = true ↔ ∀ a ∈ l, Amt a := by unfold amts; simp
/-- The cells of a row of numbers. -/
def HoldsI (w : World) (g : Nat) (l : List Int) : Prop := ∀ k (h : k < l.length), w.cell? ⟨g, k, none⟩ = some (.int .i64 l[k])
theorem ret_bo {a b : Bool} (h : a = b) : Ending.returned (.bool a) = .returned (.bool b) := by rw [h]
set_option maxHeartbeats 400000 in
theorem is_any (g c : Nat) (l : List Int) (hl : l.length ≤ 1000) (w : World) (h : HoldsI w g l) :
    Calls Tryz.prog 65 #[.slice (some ⟨g, 0, none⟩) l.length c] w fun e w' => e = .returned (.bool (amts l)) ∧ w = w' := by
  go_enter Tryz.func65, Tryz.ntmps65
  go_wp2
  go_loop [4, 7] (fun _ i => ∃ k : Nat, k ≤ l.length ∧ i = .int .i64 (k : Int) ∧ Hid (∀ a ∈ l.take k, Amt a)) (fun _ i => l.length - (intOf i).toNat)
  case atStart => exact ⟨0, by omega, rfl, Lib.hid (by simp)⟩
  case round =>
    obtain ⟨k, hk, rfl, HI⟩ := hrel
    by_cases hlt : k < l.length
    · have hc := h k hlt
      obtain ⟨x, hx⟩ : ∃ x, x = l[k] := ⟨_, rfl⟩
      rw [← hx] at hc
      have hmem : x ∈ l := by rw [hx]; exact List.getElem_mem _
      have HX := Lib.hid hx; clear hx
      have hno : ¬ Amt x → amts l = false := fun hn => by
        cases ha : amts l with
        | false => rfl
        | true => exact absurd (amts_iff.1 ha x hmem) hn
      by_cases t1 : x < -4611686018427387904
      · have HE := Lib.hid (hno (by unfold Amt; omega))
        clear hno hmem
        go_wp2
        go_ret
        exact ⟨ret_bo HE.out.symm, rfl⟩
      · by_cases t2 : 4611686018427387904 < x
        · have HE := Lib.hid (hno (by unfold Amt; omega))
          clear hno hmem
          go_wp2
          go_ret
          exact ⟨ret_bo HE.out.symm, rfl⟩
        · have HN : Hid (∀ a ∈ l.take (k + 1), Amt a) := Lib.hid (fun a ha => by
            rw [List.take_succ_eq_append_getElem hlt, List.mem_append] at ha
            rcases ha with ha | ha
            · exact HI.out a ha
            · simp at ha; rw [ha, ← HX.out]; unfold Amt; omega)
          clear hno hmem
          go_wp2
          go_round
          case rel => exact ⟨k + 1, by omega, by go_num, HN⟩
          case measure => simp [intOf]; omega
    · have HE : Hid (amts l = true) := Lib.hid (amts_iff.2 (by
        have := HI.out
        rw [List.take_of_length_le (by omega)] at this
        exact this))
      go_wp2
      go_ret
      exact ⟨ret_bo HE.out.symm, rfl⟩
theorem holds_one (w : World) (a : Int) (T : TypeId) : HoldsI (w.alloc (.cells #[.int .i64 a] T)) w.heap.size [a] := by
  intro k hk
  obtain rfl : k = 0 := by simp at hk; omega
  rw [cell_of_row _ _ _ _ T (0, 0) (heap_alloc_new w _)]
  simp
theorem amts_one (a : Int) : amts [a] = decide (Amt a) := by simp [amts]
set_option maxHeartbeats 400000 in
theorem ntold_any (a : Int) (w : World) :
    Calls Tryz.prog 67 #[.int .i64 a] w fun e w' => e = .returned (toldV a) ∧ Below w.heap.size w w' := by
  have K := Lib.hid (fun (w : World) h => is_any w.heap.size 1 [a] (by simp) (w.alloc (.cells #[.int .i64 a] 2)) h)
  by_cases ha : Amt a
  · have E : Hid (toldV a = .tuple #[.int .i64 a, .int .i64 0]) := Lib.hid (by unfold toldV; rw [if_pos (by unfold Amt at ha; exact ha)])
    have hd : amts [a] = true := by rw [amts_one]; simpa using ha
    rw [hd] at K
    clear ha hd
    go_enter Tryz.func67, Tryz.ntmps67
    go_wp2_with fail
    refine (K.out _ (holds_one w a _)).mono ?_
    rintro e w' ⟨rfl, rfl⟩
    go_wp2_with fail
    go_ret2
    exact ⟨by rw [E.out]; rfl, (Below.refl _ _).alloc (Nat.le_refl _) _⟩
  · have E : Hid (toldV a = .tuple #[.int .i64 0, .int .i64 2]) := Lib.hid (by unfold toldV; rw [if_neg (by unfold Amt at ha; exact ha)])
    have hd : amts [a] = false := by rw [amts_one]; simpa using ha
    rw [hd] at K
    clear ha hd
    go_enter Tryz.func67, Tryz.ntmps67
    go_wp2_with fail
    refine (K.out _ (holds_one w a _)).mono ?_
    rintro e w' ⟨rfl, rfl⟩
    go_wp2_with fail
    go_ret2
    exact ⟨by rw [E.out]; rfl, (Below.refl _ _).alloc (Nat.le_refl _) _⟩
theorem add64_run (x y : Nat) (hx : x < 18446744073709551616) (hy : y < 18446744073709551616) (w : World) :
    (callFunc 66 #[.int .u64 (x : Int), .int .u64 (y : Int), .int .u64 0]).run Tryz.prog w =
      .ok (.value (.tuple #[.int .u64 (((x + y) % 18446744073709551616 : Nat) : Int), .int .u64 (((x + y) / 18446744073709551616 : Nat) : Int)])) w := by
  have h0 := run_add64 (P := Tryz.prog) x y 0 (by omega) (by omega) (by omega) (by omega) (w := w)
  rw [run_callFunc_extern Tryz.func66 (by kernel_rfl) (by kernel_rfl) (by kernel_rfl) (e := add64Entry) (by kernel_rfl)]
  rw [h0]
  simp only [Result.andThen]
  congr 5 <;> omega
def isum (l : List Int) : Int := l.foldl (· + ·) 0
theorem isum_append (l : List Int) (a : Int) : isum (l ++ [a]) = isum l + a := by simp [isum]
/-- What Sum answers. -/
def sumV (l : List Int) : Value := if amts l then toldV (isum l) else .tuple #[.int .i64 0, .int .i64 1]
theorem toldV_form (z : Int) : ∃ a b : Int, toldV z = .tuple #[.int .i64 a, .int .i64 b] := by
  unfold toldV
  split
  · exact ⟨_, _, rfl⟩
  · exact ⟨_, _, rfl⟩
theorem sumV_form (l : List Int) : ∃ a b : Int, sumV l = .tuple #[.int .i64 a, .int .i64 b] := by
  unfold sumV
  split
  · exact toldV_form _
  · exact ⟨_, _, rfl⟩
set_option maxHeartbeats 400000 in
theorem sum_any (g c : Nat) (l : List Int) (hl : l.length ≤ 1000) (w : World) (h : HoldsI w g l) :
    Calls Tryz.prog 46 #[.slice (some ⟨g, 0, none⟩) l.length c] w fun e w' => e = .returned (sumV l) ∧ Below w.heap.size w w' := by
  by_cases ha : amts l = false
  · have E : Hid (sumV l = .tuple #[.int .i64 0, .int .i64 1]) := Lib.hid (by unfold sumV; rw [ha]; rfl)
    have K := Lib.hid (is_any g c l hl w h)
    rw [ha] at K
    clear ha
    go_enter Tryz.func46, Tryz.ntmps46
    go_wp2_with fail
    refine K.out.mono ?_
    rintro e w' ⟨rfl, rfl⟩
    go_wp2_with fail
    go_ret2
    exact ⟨by rw [E.out]; rfl, Below.refl _ _⟩
  · have ha : amts l = true := by simpa using ha
    have E : Hid (sumV l = toldV (isum l)) := Lib.hid (by unfold sumV; rw [ha]; rfl)
    have K := Lib.hid (is_any g c l hl w h)
    have HA := Lib.hid (amts_iff.1 ha)
    rw [ha] at K
    clear ha
    go_enter Tryz.func46, Tryz.ntmps46
    go_wp2_with fail
    refine K.out.mono ?_
    rintro e w' ⟨rfl, rfl⟩
    go_wp2_with fail
    go_loop [4, 5, 15] (fun a b i => ∃ (k lo : Nat) (hi : Int), k ≤ l.length ∧ i = .int .i64 (k : Int) ∧ a = .int .u64 (lo : Int) ∧ b = .int .i64 hi ∧ lo < 18446744073709551616 ∧ -(k : Int) ≤ hi ∧ hi ≤ k ∧ Hid (hi * 18446744073709551616 + lo = isum (l.take k))) (fun _ _ i => l.length - (intOf i).toNat)
    case atStart => exact ⟨0, 0, 0, by omega, rfl, rfl, rfl, by omega, by omega, by omega, Lib.hid rfl⟩
    case round =>
      obtain ⟨k, lo, hi, hk, rfl, rfl, rfl, hlo, h1, h2, HI⟩ := hrel
      by_cases hlt : k < l.length
      · have hc := h k hlt
        obtain ⟨x, hx⟩ : ∃ x, x = l[k] := ⟨_, rfl⟩
        rw [← hx] at hc
        obtain ⟨x1, x2⟩ : Amt x := HA.out x (by rw [hx]; exact List.getElem_mem _)
        have HS : Hid (isum (l.take (k + 1)) = isum (l.take k) + x) := Lib.hid (by rw [List.take_succ_eq_append_getElem hlt, isum_append, hx])
        clear hx
        obtain ⟨u, hu⟩ : ∃ u : Nat, (u : Int) = x % 18446744073709551616 := ⟨(x % 18446744073709551616).toNat, by omega⟩
        obtain ⟨t, ht⟩ : ∃ t : Nat, t = (lo + u) % 18446744073709551616 := ⟨_, rfl⟩
        obtain ⟨y, hy⟩ : ∃ y : Nat, y = (lo + u) / 18446744073709551616 := ⟨_, rfl⟩
        obtain ⟨s, hs⟩ : ∃ s : Int, s = x / 9223372036854775808 + y := ⟨_, rfl⟩
        have hd := add64_run lo u hlo (by omega) w
        have e1 : IntKind.u64.wrap x = (u : Int) := by rw [IntKind.wrap_u64]; omega
        have R1 : Hid (wrap64 (((lo : Int) + (u : Int)) / 18446744073709551616) = (y : Int)) := Lib.hid (by unfold wrap64; omega)
        have R2 : Hid (wrap64 (x / 9223372036854775808 + (y : Int)) = s) := Lib.hid (by unfold wrap64; omega)
        have R3 : Hid (wrap64 (hi + s) = hi + s) := Lib.hid (by unfold wrap64; omega)
        have R4 : Hid (((lo : Int) + (u : Int)) % 18446744073709551616 = (t : Int)) := Lib.hid (by omega)
        have R5 : Hid (t < 18446744073709551616 ∧ -(1 : Int) ≤ s ∧ s ≤ 1) := Lib.hid (by omega)
        have R6 : Hid ((hi + s) * 18446744073709551616 + t = isum (l.take (k + 1))) := Lib.hid (by rw [HS.out, ← HI.out]; omega)
        clear hu ht hy hs
        go_wp2_with fail
        go_round
        case rel =>
          rw [R1.out, R2.out, R3.out, R4.out]
          obtain ⟨r1, r2, r3⟩ := R5.out
          exact ⟨k + 1, t, hi + s, by omega, by go_num, rfl, rfl, r1, by omega, by omega, R6⟩
        case measure => simp [intOf]; omega
      · have HT := HI.out
        rw [List.take_of_length_le (by omega)] at HT
        obtain ⟨S, hS⟩ : ∃ S, S = isum l := ⟨_, rfl⟩
        rw [← hS] at HT E
        clear HI
        obtain ⟨z, hz⟩ : ∃ z : Int, IntKind.i64.wrap (lo : Int) = z := ⟨_, rfl⟩
        have hz2 : wrap64 (lo : Int) = z := by rw [← hz]; unfold wrap64; rw [IntKind.wrap_i64]
        obtain ⟨q, hq⟩ : ∃ q : Int, z / 9223372036854775808 = q := ⟨_, rfl⟩
        have hz3 : z = (lo : Int) ∧ lo < 9223372036854775808 ∨ z = (lo : Int) - 18446744073709551616 ∧ 9223372036854775808 ≤ lo := by
          rw [← hz2]; unfold wrap64; omega
        clear HA K
        by_cases hqq : hi = q
        · have d1 : (hi == q) = true := by simpa using hqq
          have d2 : (hi != q) = false := by simpa using hqq
          have hz4 : S = z := by omega
          obtain ⟨r, y, hry⟩ := toldV_form z
          have KT := Lib.hid (fun w => ntold_any z w)
          rw [hz4, hry] at E
          rw [hry] at KT
          clear hz3 HT hqq hz4 hry hS
          go_wp2_with fail
          refine (KT.out _).mono ?_
          rintro e w' ⟨rfl, hb⟩
          go_wp2_with fail
          go_ret2
          exact ⟨by rw [E.out]; rfl, hb⟩
        · have d1 : (hi == q) = false := by simpa using hqq
          have d2 : (hi != q) = true := by simpa using hqq
          have HZ : Hid (toldV S = .tuple #[.int .i64 0, .int .i64 2]) := Lib.hid (by unfold toldV; rw [if_neg (by omega)])
          clear hz3 HT hqq
          go_wp2_with fail
          go_ret2
          exact ⟨by rw [E.out, HZ.out]; rfl, Below.refl _ _⟩
end Go.Proofs.YtlmejpkngnilcaaGreatDoor
