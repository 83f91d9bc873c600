/- The contracts of math/bits' LeadingZeros64 and Div64. -/
import Derived.Test.YtkgoaodpjeonnaaDiv
import Derived.Test.YtkgoaodpjeonnaaShelf
import Derived.Laws.Bits64
import Derived.Laws.BitsAllLaws
import Derived.WalkKit
import Derived.WalkSpells
import Derived.WalkLawsBesides
import Derived.Outline
import Derived.Lib.Hide
import Derived.Deep.QuietTactic
import Derived.BigQuiet
namespace Go.Proofs.Ytkgoaodpjeonnaa
open Go.RowKit

theorem u64_wrap_in {n : Nat} {x : Int} (hx : x = (n : Int)) (hn : n < 18446744073709551616) : IntKind.u64.wrap x = (n : Int) := by rw [hx, IntKind.wrap_u64]; omega
theorem u64_wrap_mod {n m : Nat} {x : Int} (hx : x = (n : Int)) (hm : m = n % Dv.W64) : IntKind.u64.wrap x = (m : Int) := by
  have e : Dv.W64 = 18446744073709551616 := rfl
  rw [e] at hm
  rw [hx, IntKind.wrap_u64, hm]; omega
theorem cast_shl (y s : Nat) : (y : Int) * 2 ^ s = ((y * 2 ^ s : Nat) : Int) := by simp
theorem cast_shr (l s : Nat) : (l : Int) / 2 ^ s = ((l / 2 ^ s : Nat) : Int) := by simp
theorem u64_and_mask (x : Nat) (hx : x < 18446744073709551616) : bits .and .u64 (x : Int) 4294967295 = ((x % 4294967296 : Nat) : Int) := by
  have h := u64_and_nat x 4294967295 hx (by omega)
  rw [show ((4294967295 : Nat) : Int) = 4294967295 from rfl] at h
  rw [h, show (4294967295 : Nat) = 2 ^ 32 - 1 from rfl, Nat.and_two_pow_sub_one_eq_mod]
theorem u64_or_low (h s M : Nat) (hM : M < 2 ^ s) (h1 : h * 2 ^ s < 18446744073709551616) (h2 : M < 18446744073709551616) : bits .or .u64 ((h * 2 ^ s : Nat) : Int) (M : Int) = ((h * 2 ^ s + M : Nat) : Int) := by
  rw [u64_or_nat _ _ h1 h2, ← Nat.shiftLeft_eq, ← Nat.shiftLeft_add_eq_or_of_lt hM]
theorem lz_any (y : Nat) (hy : y < 18446744073709551616) (s : Nat) (hs : s = 64 - Lib.bitLen y) (w : World) :
    Calls Try.prog 53 #[.int .u64 (y : Int)] w fun e w' => e = .returned (.int .i64 (s : Int)) ∧ w = w' := by
  have hle := Lib.bitLen_le y 64 (Nat.le_refl _) (by omega)
  obtain ⟨b, hb⟩ : ∃ b, b = Lib.bitLen y := ⟨_, rfl⟩
  have C := Try.bits_Len64 (y : Int) w (by omega) (by omega)
  rw [Int.toNat_natCast, ← hb] at C
  rw [← hb] at hle hs
  have HC := Lib.hid C; clear C
  have hsb : (64 : Int) - (b : Int) = (s : Int) := by omega
  clear hb hs
  go_enter Try.func53, Try.ntmps53
  go_wp2_with fail
  refine HC.out.mono ?_
  rintro e w' ⟨rfl, rfl⟩
  go_wp2_with fail
  go_ret
  exact ⟨rfl, rfl⟩
/-- What Div64 hands back. -/
def DivOf (h l y : Nat) (e : Ending) : Prop := e = .returned (.tuple #[.int .u64 (((h * Dv.W64 + l) / y : Nat) : Int), .int .u64 (((h * Dv.W64 + l) % y : Nat) : Int)])
set_option maxHeartbeats 400000 in
theorem div_low (l y : Nat) (hy : 0 < y) (hy2 : y < 18446744073709551616) (hl : l < 18446744073709551616) (w : World) :
    Calls Try.prog 47 #[.int .u64 0, .int .u64 (l : Int), .int .u64 (y : Int)] w fun e w' => DivOf 0 l y e ∧ Below w.heap.size w w' := by
  obtain ⟨q, hq⟩ : ∃ q, q = l / y := ⟨_, rfl⟩
  have hqi : (l : Int) / (y : Int) = (q : Int) := by rw [hq]; simp
  have hql : q < 18446744073709551616 := by rw [hq]; exact Nat.lt_of_le_of_lt (Nat.div_le_self _ _) hl
  have HR : Hid (DivOf 0 l y (.returned (.tuple #[.int .u64 (q : Int), .int .u64 ((l : Int) % (y : Int))]))) := Lib.hid (by unfold DivOf; rw [Nat.zero_mul, Nat.zero_add, hq]; simp)
  have hy1 : ((y : Int) == 0) = false := by simp; omega
  have hy3 : (1 : Int) ≤ (y : Int) := by omega
  have hy4 : ¬ (y : Int) ≤ 0 := by omega
  clear hq hy hy2
  go_enter Try.func47, Try.ntmps47
  go_wp2_with fail
  go_quiet (fail)
  go_wp2_with fail
  go_ret2
  exact ⟨HR.out, rfl, rfl, rfl, Nat.le_refl _, fun _ _ => rfl⟩
set_option maxHeartbeats 2000000 in
set_option maxRecDepth 100000 in
theorem div_high (h l y : Nat) (hh : 0 < h) (hhy : h < y) (hy2 : y < 18446744073709551616) (hl : l < 18446744073709551616) (w : World) :
    Calls Try.prog 47 #[.int .u64 (h : Int), .int .u64 (l : Int), .int .u64 (y : Int)] w fun e w' => DivOf h l y e ∧ Below w.heap.size w w' := by
  obtain ⟨s, hs⟩ : ∃ s, s = 64 - Lib.bitLen y := ⟨_, rfl⟩
  obtain ⟨hs64, hf1, hf2⟩ := Dv.lz_fill (y := y) (by omega) hy2 hs
  have HLZ := Lib.hid (lz_any y hy2 s hs); clear hs
  obtain ⟨Y, hY⟩ : ∃ Y, Y = y * 2 ^ s := ⟨_, rfl⟩
  rw [← hY] at hf1 hf2
  obtain ⟨a, ha⟩ : ∃ a, a = Y / 4294967296 := ⟨_, rfl⟩
  obtain ⟨b, hb⟩ : ∃ b, b = Y % 4294967296 := ⟨_, rfl⟩
  obtain ⟨L, hL⟩ : ∃ L, L = l * 2 ^ s % Dv.W64 := ⟨_, rfl⟩
  obtain ⟨d1, hd1⟩ : ∃ d1, d1 = L / 4294967296 := ⟨_, rfl⟩
  obtain ⟨d0, hd0⟩ : ∃ d0, d0 = L % 4294967296 := ⟨_, rfl⟩
  obtain ⟨M, hM⟩ : ∃ M, M = l / 2 ^ (64 - s) := ⟨_, rfl⟩
  obtain ⟨u, hu⟩ : ∃ u, u = h * 2 ^ s + M := ⟨_, rfl⟩
  have hL64 : L < 18446744073709551616 := by rw [hL]; exact Nat.mod_lt _ (by decide)
  obtain ⟨huY, hMs, hq, hr⟩ := Dv.whole hY hhy hs64 hl hL hM hu (by omega : L = d1 * 4294967296 + d0)
  have hH : h * 2 ^ s < 18446744073709551616 := by omega
  have D1 : Dv.Dig a b Y u d1 := ⟨by omega, by omega, by omega, by omega, by omega, huY⟩
  obtain ⟨Q1, hQ1⟩ : ∃ Q1, Q1 = Dv.Q Y u d1 := ⟨_, rfl⟩
  obtain ⟨v, hv⟩ : ∃ v, v = Dv.V Y u d1 := ⟨_, rfl⟩
  have D0 : Dv.Dig a b Y v d0 := ⟨by omega, by omega, by omega, by omega, by omega, by rw [hv]; exact D1.v_lt⟩
  obtain ⟨Q0, hQ0⟩ : ∃ Q0, Q0 = Dv.Q Y v d0 := ⟨_, rfl⟩
  obtain ⟨x, hx⟩ : ∃ x, x = Dv.V Y v d0 := ⟨_, rfl⟩
  obtain ⟨g, hg⟩ : ∃ g, g = u / a := ⟨_, rfl⟩
  obtain ⟨r, hrr⟩ : ∃ r, r = u % a := ⟨_, rfl⟩
  obtain ⟨g0, hg0⟩ : ∃ g0, g0 = v / a := ⟨_, rfl⟩
  obtain ⟨r0, hrr0⟩ : ∃ r0, r0 = v % a := ⟨_, rfl⟩
  obtain ⟨G1, G2, G3, G4⟩ := D1.guess
  obtain ⟨F1, F2, F3, F4⟩ := D0.guess
  rw [← hg, ← hQ1] at G1
  rw [← hg] at G2
  rw [← hg, ← hrr] at G3
  rw [← hrr] at G4
  rw [← hg0, ← hQ0] at F1
  rw [← hg0] at F2
  rw [← hg0, ← hrr0] at F3
  rw [← hrr0] at F4
  have hQ1lt : Q1 < 4294967296 := by rw [hQ1]; exact D1.q_lt
  have hQ0lt : Q0 < 4294967296 := by rw [hQ0]; exact D0.q_lt
  have hqv1 := Dv.Dig.qv Y u d1
  have hqv0 := Dv.Dig.qv Y v d0
  rw [← hQ1, ← hv] at hqv1
  rw [← hQ0, ← hx] at hqv0
  have hvY : v < Y := by rw [hv]; exact D1.v_lt
  have hxY : x < Y := by rw [hx]; exact D0.v_lt
  rw [← hv, ← hQ1, ← hQ0] at hq
  rw [← hv, ← hx] at hr
  -- the run's equations
  have eY : IntKind.u64.wrap ((y : Int) * 2 ^ s) = (Y : Int) := u64_wrap_in (by rw [cast_shl, hY]) hf2
  have ea : (Y : Int) / 4294967296 = (a : Int) := by omega
  have eb : bits .and .u64 (Y : Int) 4294967295 = (b : Int) := by rw [u64_and_mask Y hf2, hb]
  have eL : IntKind.u64.wrap ((l : Int) * 2 ^ s) = (L : Int) := u64_wrap_mod (cast_shl l s) hL
  have ed1 : (L : Int) / 4294967296 = (d1 : Int) := by omega
  have ed0 : bits .and .u64 (L : Int) 4294967295 = (d0 : Int) := by rw [u64_and_mask L hL64, hd0]
  have eH : IntKind.u64.wrap ((h : Int) * 2 ^ s) = ((h * 2 ^ s : Nat) : Int) := u64_wrap_in (cast_shl h s) hH
  have eM : (l : Int) / 2 ^ (64 - s) = (M : Int) := by rw [cast_shr, hM]
  obtain ⟨H, hHH⟩ : ∃ H, H = h * 2 ^ s := ⟨_, rfl⟩
  have eu : bits .or .u64 (H : Int) (M : Int) = (u : Int) := by rw [hHH, u64_or_low h s M hMs hH (by omega), hu]
  rw [← hHH] at eH
  have eg : (u : Int) / (a : Int) = (g : Int) := by rw [hg]; simp
  have eg0 : (v : Int) / (a : Int) = (g0 : Int) := by rw [hg0]; simp
  have ega : (g : Int) * (a : Int) = ((g * a : Nat) : Int) := by simp
  have ega0 : (g0 : Int) * (a : Int) = ((g0 * a : Nat) : Int) := by simp
  obtain ⟨p, hp⟩ : ∃ p, p = g * a := ⟨_, rfl⟩
  obtain ⟨p0, hp0⟩ : ∃ p0, p0 = g0 * a := ⟨_, rfl⟩
  rw [← hp] at ega
  rw [← hp0] at ega0
  have er : (u : Int) - (p : Int) = (r : Int) := by omega
  have er0 : (v : Int) - (p0 : Int) = (r0 : Int) := by omega
  have hplt : p < 18446744073709551616 := by omega
  have hp0lt : p0 < 18446744073709551616 := by omega
  have ha0 : 0 < a := by have := D1.lo; omega
  have halt : a < 4294967296 := D1.hi
  have hblt : b < 4294967296 := D1.hb
  have hdlt : d1 < 4294967296 := D1.hd
  have hdlt0 : d0 < 4294967296 := D0.hd
  have hult : u < 18446744073709551616 := by omega
  have hvlt : v < 18446744073709551616 := by omega
  have ev : IntKind.u64.wrap (IntKind.u64.wrap (IntKind.u64.wrap ((u : Int) * 4294967296) + (d1 : Int)) - IntKind.u64.wrap ((Q1 : Int) * (Y : Int))) = (v : Int) := by
    have : (Q1 : Int) * (Y : Int) = ((Q1 * Y : Nat) : Int) := by simp
    rw [this]
    simp only [IntKind.wrap_u64]
    generalize Q1 * Y = t at *
    omega
  have ex : IntKind.u64.wrap (IntKind.u64.wrap (IntKind.u64.wrap ((v : Int) * 4294967296) + (d0 : Int)) - IntKind.u64.wrap ((Q0 : Int) * (Y : Int))) = (x : Int) := by
    have : (Q0 : Int) * (Y : Int) = ((Q0 * Y : Nat) : Int) := by simp
    rw [this]
    simp only [IntKind.wrap_u64]
    generalize Q0 * Y = t at *
    omega
  have exs : (x : Int) / 2 ^ s = ((x / 2 ^ s : Nat) : Int) := cast_shr x s
  have HR : Hid (DivOf h l y (.returned (.tuple #[.int .u64 ((Q1 : Int) * 4294967296 + (Q0 : Int)), .int .u64 ((x / 2 ^ s : Nat) : Int)]))) := Lib.hid (by
    unfold DivOf
    rw [← hq, ← hr]
    congr)
  obtain ⟨z, hz⟩ : ∃ z, z = x / 2 ^ s := ⟨_, rfl⟩
  rw [← hz] at exs HR
  have HD1 := Lib.hid D1; have HD0 := Lib.hid D0
  have HQ1 := Lib.hid hQ1; have HQ0 := Lib.hid hQ0
  have HG1 : Hid (g * a + r = u) := Lib.hid G3
  have HF1 : Hid (g0 * a + r0 = v) := Lib.hid F3
  have hy1 : ((y : Int) == 0) = false := by simp; omega
  have hh1 : ((h : Int) == 0) = false := by simp; omega
  clear hY ha hb hL hd1 hd0 hM hu huY hMs hq hr hH D1 D0 hQ1 hv hQ0 hx hg hrr hg0 hrr0 G3 F3 hqv1 hqv0 hHH hp hp0 hz
  go_enter Try.func47, Try.ntmps47
  go_wp2_with fail
  refine (HLZ.out _).mono ?_
  rintro e w' ⟨rfl, rfl⟩
  go_wp2_with fail
  go_loop [15, 16] (fun c e => ∃ x r : Nat, c = .int .u64 (x : Int) ∧ e = .int .u64 (r : Int) ∧ Q1 ≤ x ∧ x ≤ 4294967297 ∧ r < 4294967296 ∧ Hid (x * a + r = u)) (fun c _ => (intOf c).toNat)
  case atStart => exact ⟨g, r, rfl, rfl, G1, G2, G4, HG1⟩
  case round =>
    obtain ⟨x, r, rfl, rfl, k1, k2, k3, HI⟩ := hrel
    by_cases t1 : 4294967296 ≤ x
    · obtain ⟨w1, w2⟩ := HD1.out.down HI.out (by rw [← HQ1.out]; exact k1) (.inl t1)
      rw [← HQ1.out] at w1
      by_cases t3 : 4294967296 ≤ r + a
      · have e := HD1.out.broke w2 (by rw [← HQ1.out]; omega) (by omega) t3
        rw [← HQ1.out] at e
        obtain rfl : x = Q1 + 1 := by omega
        have t4 : (4294967296 : Int) ≤ (r : Int) + (a : Int) := by omega
        have t1i : (4294967296 : Int) ≤ ((Q1 : Nat) : Int) + 1 := by omega
        clear e w2 w1 t3 HI t1
        go_wp2_with fail
        go_loop [18, 16] (fun c e => ∃ x r : Nat, c = .int .u64 (x : Int) ∧ e = .int .u64 (r : Int) ∧ Q0 ≤ x ∧ x ≤ 4294967297 ∧ r < 4294967296 ∧ Hid (x * a + r = v)) (fun c _ => (intOf c).toNat)
        case atStart => exact ⟨g0, r0, rfl, rfl, F1, F2, F4, HF1⟩
        case round =>
          obtain ⟨x', r', rfl, rfl, k1', k2', k3', HI'⟩ := hrel
          by_cases t1' : 4294967296 ≤ x'
          · obtain ⟨w1', w2'⟩ := HD0.out.down HI'.out (by rw [← HQ0.out]; exact k1') (.inl t1')
            rw [← HQ0.out] at w1'
            by_cases t3' : 4294967296 ≤ r' + a
            · have e' := HD0.out.broke w2' (by rw [← HQ0.out]; omega) (by omega) t3'
              rw [← HQ0.out] at e'
              obtain rfl : x' = Q0 + 1 := by omega
              have t4' : (4294967296 : Int) ≤ (r' : Int) + (a : Int) := by omega
              have t1i' : (4294967296 : Int) ≤ ((Q0 : Nat) : Int) + 1 := by omega
              clear e' w2' w1' t3' HI' t1'
              go_wp2_with fail
              go_ret2
              exact ⟨HR.out, Below.refl _ _⟩
            · have HW' := Lib.hid w2'
              have t4' : ¬ (4294967296 : Int) ≤ (r' : Int) + (a : Int) := by omega
              clear w2'
              have t1i' : (4294967296 : Int) ≤ (x' : Int) := by omega
              go_wp2_with fail
              go_round
              case rel => exact ⟨x' - 1, r' + a, by go_num, by go_num, by omega, by omega, by omega, HW'⟩
              case measure => simp [intOf]; omega
          · have hpr' : (x' : Int) * (b : Int) = ((x' * b : Nat) : Int) := by simp
            have hpl' := Dv.prod_lt (x := x') (b := b) (by omega) hblt
            obtain ⟨m', hm'⟩ : ∃ m, m = x' * b := ⟨_, rfl⟩
            rw [← hm'] at hpr' hpl'
            have HMM' := Lib.hid hm'; clear hm'
            by_cases t2' : 4294967296 * r' + d0 < m'
            · obtain ⟨w1', w2'⟩ := HD0.out.down HI'.out (by rw [← HQ0.out]; exact k1') (.inr (by rw [← HMM'.out]; exact t2'))
              rw [← HQ0.out] at w1'
              have t5' : (4294967296 : Int) * (r' : Int) + (d0 : Int) < (m' : Int) := by omega
              by_cases t3' : 4294967296 ≤ r' + a
              · have e' := HD0.out.broke w2' (by rw [← HQ0.out]; omega) (by omega) t3'
                rw [← HQ0.out] at e'
                obtain rfl : x' = Q0 + 1 := by omega
                have t4' : (4294967296 : Int) ≤ (r' : Int) + (a : Int) := by omega
                have hpr2' : (((Q0 : Nat) : Int) + 1) * (b : Int) = (m' : Int) := hpr'
                have t1i' : ¬ (4294967296 : Int) ≤ ((Q0 : Nat) : Int) + 1 := by omega
                clear e' w2' w1' t3' HI' HMM' hpr' t1'
                go_wp2_with fail
                go_ret2
                exact ⟨HR.out, Below.refl _ _⟩
              · have HW' := Lib.hid w2'
                have t4' : ¬ (4294967296 : Int) ≤ (r' : Int) + (a : Int) := by omega
                clear w2'
                have t1i' : ¬ (4294967296 : Int) ≤ (x' : Int) := by omega
                go_wp2_with fail
                go_round
                case rel => exact ⟨x' - 1, r' + a, by go_num, by go_num, by omega, by omega, by omega, HW'⟩
                case measure => simp [intOf]; omega
            · have e' := HD0.out.fits HI'.out (by rw [← HQ0.out]; exact k1') (by rw [← HMM'.out]; omega)
              rw [← HQ0.out] at e'
              obtain rfl : Q0 = x' := e'.symm
              have t5' : ¬ (4294967296 : Int) * (r' : Int) + (d0 : Int) < (m' : Int) := by omega
              have t1i' : ¬ (4294967296 : Int) ≤ ((Q0 : Nat) : Int) := by omega
              clear HI' HMM' t1'
              go_wp2_with fail
              go_ret2
              exact ⟨HR.out, Below.refl _ _⟩
      · have HW := Lib.hid w2
        have t4 : ¬ (4294967296 : Int) ≤ (r : Int) + (a : Int) := by omega
        clear w2
        have t1i : (4294967296 : Int) ≤ (x : Int) := by omega
        go_wp2_with fail
        go_round
        case rel => exact ⟨x - 1, r + a, by go_num, by go_num, by omega, by omega, by omega, HW⟩
        case measure => simp [intOf]; omega
    · have hpr : (x : Int) * (b : Int) = ((x * b : Nat) : Int) := by simp
      have hpl := Dv.prod_lt (x := x) (b := b) (by omega) hblt
      obtain ⟨m, hm⟩ : ∃ m, m = x * b := ⟨_, rfl⟩
      rw [← hm] at hpr hpl
      have HMM := Lib.hid hm; clear hm
      by_cases t2 : 4294967296 * r + d1 < m
      · obtain ⟨w1, w2⟩ := HD1.out.down HI.out (by rw [← HQ1.out]; exact k1) (.inr (by rw [← HMM.out]; exact t2))
        rw [← HQ1.out] at w1
        have t5 : (4294967296 : Int) * (r : Int) + (d1 : Int) < (m : Int) := by omega
        by_cases t3 : 4294967296 ≤ r + a
        · have e := HD1.out.broke w2 (by rw [← HQ1.out]; omega) (by omega) t3
          rw [← HQ1.out] at e
          obtain rfl : x = Q1 + 1 := by omega
          have t4 : (4294967296 : Int) ≤ (r : Int) + (a : Int) := by omega
          have hpr2 : (((Q1 : Nat) : Int) + 1) * (b : Int) = (m : Int) := hpr
          have t1i : ¬ (4294967296 : Int) ≤ ((Q1 : Nat) : Int) + 1 := by omega
          clear e w2 w1 t3 HI HMM hpr t1
          go_wp2_with fail
          go_loop [18, 16] (fun c e => ∃ x r : Nat, c = .int .u64 (x : Int) ∧ e = .int .u64 (r : Int) ∧ Q0 ≤ x ∧ x ≤ 4294967297 ∧ r < 4294967296 ∧ Hid (x * a + r = v)) (fun c _ => (intOf c).toNat)
          case atStart => exact ⟨g0, r0, rfl, rfl, F1, F2, F4, HF1⟩
          case round =>
            obtain ⟨x', r', rfl, rfl, k1', k2', k3', HI'⟩ := hrel
            by_cases t1' : 4294967296 ≤ x'
            · obtain ⟨w1', w2'⟩ := HD0.out.down HI'.out (by rw [← HQ0.out]; exact k1') (.inl t1')
              rw [← HQ0.out] at w1'
              by_cases t3' : 4294967296 ≤ r' + a
              · have e' := HD0.out.broke w2' (by rw [← HQ0.out]; omega) (by omega) t3'
                rw [← HQ0.out] at e'
                obtain rfl : x' = Q0 + 1 := by omega
                have t4' : (4294967296 : Int) ≤ (r' : Int) + (a : Int) := by omega
                have t1i' : (4294967296 : Int) ≤ ((Q0 : Nat) : Int) + 1 := by omega
                clear e' w2' w1' t3' HI' t1'
                go_wp2_with fail
                go_ret2
                exact ⟨HR.out, Below.refl _ _⟩
              · have HW' := Lib.hid w2'
                have t4' : ¬ (4294967296 : Int) ≤ (r' : Int) + (a : Int) := by omega
                clear w2'
                have t1i' : (4294967296 : Int) ≤ (x' : Int) := by omega
                go_wp2_with fail
                go_round
                case rel => exact ⟨x' - 1, r' + a, by go_num, by go_num, by omega, by omega, by omega, HW'⟩
                case measure => simp [intOf]; omega
            · have hpr' : (x' : Int) * (b : Int) = ((x' * b : Nat) : Int) := by simp
              have hpl' := Dv.prod_lt (x := x') (b := b) (by omega) hblt
              obtain ⟨m', hm'⟩ : ∃ m, m = x' * b := ⟨_, rfl⟩
              rw [← hm'] at hpr' hpl'
              have HMM' := Lib.hid hm'; clear hm'
              by_cases t2' : 4294967296 * r' + d0 < m'
              · obtain ⟨w1', w2'⟩ := HD0.out.down HI'.out (by rw [← HQ0.out]; exact k1') (.inr (by rw [← HMM'.out]; exact t2'))
                rw [← HQ0.out] at w1'
                have t5' : (4294967296 : Int) * (r' : Int) + (d0 : Int) < (m' : Int) := by omega
                by_cases t3' : 4294967296 ≤ r' + a
                · have e' := HD0.out.broke w2' (by rw [← HQ0.out]; omega) (by omega) t3'
                  rw [← HQ0.out] at e'
                  obtain rfl : x' = Q0 + 1 := by omega
                  have t4' : (4294967296 : Int) ≤ (r' : Int) + (a : Int) := by omega
                  have hpr2' : (((Q0 : Nat) : Int) + 1) * (b : Int) = (m' : Int) := hpr'
                  have t1i' : ¬ (4294967296 : Int) ≤ ((Q0 : Nat) : Int) + 1 := by omega
                  clear e' w2' w1' t3' HI' HMM' hpr' t1'
                  go_wp2_with fail
                  go_ret2
                  exact ⟨HR.out, Below.refl _ _⟩
                · have HW' := Lib.hid w2'
                  have t4' : ¬ (4294967296 : Int) ≤ (r' : Int) + (a : Int) := by omega
                  clear w2'
                  have t1i' : ¬ (4294967296 : Int) ≤ (x' : Int) := by omega
                  go_wp2_with fail
                  go_round
                  case rel => exact ⟨x' - 1, r' + a, by go_num, by go_num, by omega, by omega, by omega, HW'⟩
                  case measure => simp [intOf]; omega
              · have e' := HD0.out.fits HI'.out (by rw [← HQ0.out]; exact k1') (by rw [← HMM'.out]; omega)
                rw [← HQ0.out] at e'
                obtain rfl : Q0 = x' := e'.symm
                have t5' : ¬ (4294967296 : Int) * (r' : Int) + (d0 : Int) < (m' : Int) := by omega
                have t1i' : ¬ (4294967296 : Int) ≤ ((Q0 : Nat) : Int) := by omega
                clear HI' HMM' t1'
                go_wp2_with fail
                go_ret2
                exact ⟨HR.out, Below.refl _ _⟩
        · have HW := Lib.hid w2
          have t4 : ¬ (4294967296 : Int) ≤ (r : Int) + (a : Int) := by omega
          clear w2
          have t1i : ¬ (4294967296 : Int) ≤ (x : Int) := by omega
          go_wp2_with fail
          go_round
          case rel => exact ⟨x - 1, r + a, by go_num, by go_num, by omega, by omega, by omega, HW⟩
          case measure => simp [intOf]; omega
      · have e := HD1.out.fits HI.out (by rw [← HQ1.out]; exact k1) (by rw [← HMM.out]; omega)
        rw [← HQ1.out] at e
        obtain rfl : Q1 = x := e.symm
        have t5 : ¬ (4294967296 : Int) * (r : Int) + (d1 : Int) < (m : Int) := by omega
        have t1i : ¬ (4294967296 : Int) ≤ ((Q1 : Nat) : Int) := by omega
        clear HI HMM t1
        go_wp2_with fail
        go_loop [18, 16] (fun c e => ∃ x r : Nat, c = .int .u64 (x : Int) ∧ e = .int .u64 (r : Int) ∧ Q0 ≤ x ∧ x ≤ 4294967297 ∧ r < 4294967296 ∧ Hid (x * a + r = v)) (fun c _ => (intOf c).toNat)
        case atStart => exact ⟨g0, r0, rfl, rfl, F1, F2, F4, HF1⟩
        case round =>
          obtain ⟨x', r', rfl, rfl, k1', k2', k3', HI'⟩ := hrel
          by_cases t1' : 4294967296 ≤ x'
          · obtain ⟨w1', w2'⟩ := HD0.out.down HI'.out (by rw [← HQ0.out]; exact k1') (.inl t1')
            rw [← HQ0.out] at w1'
            by_cases t3' : 4294967296 ≤ r' + a
            · have e' := HD0.out.broke w2' (by rw [← HQ0.out]; omega) (by omega) t3'
              rw [← HQ0.out] at e'
              obtain rfl : x' = Q0 + 1 := by omega
              have t4' : (4294967296 : Int) ≤ (r' : Int) + (a : Int) := by omega
              have t1i' : (4294967296 : Int) ≤ ((Q0 : Nat) : Int) + 1 := by omega
              clear e' w2' w1' t3' HI' t1'
              go_wp2_with fail
              go_ret2
              exact ⟨HR.out, Below.refl _ _⟩
            · have HW' := Lib.hid w2'
              have t4' : ¬ (4294967296 : Int) ≤ (r' : Int) + (a : Int) := by omega
              clear w2'
              have t1i' : (4294967296 : Int) ≤ (x' : Int) := by omega
              go_wp2_with fail
              go_round
              case rel => exact ⟨x' - 1, r' + a, by go_num, by go_num, by omega, by omega, by omega, HW'⟩
              case measure => simp [intOf]; omega
          · have hpr' : (x' : Int) * (b : Int) = ((x' * b : Nat) : Int) := by simp
            have hpl' := Dv.prod_lt (x := x') (b := b) (by omega) hblt
            obtain ⟨m', hm'⟩ : ∃ m, m = x' * b := ⟨_, rfl⟩
            rw [← hm'] at hpr' hpl'
            have HMM' := Lib.hid hm'; clear hm'
            by_cases t2' : 4294967296 * r' + d0 < m'
            · obtain ⟨w1', w2'⟩ := HD0.out.down HI'.out (by rw [← HQ0.out]; exact k1') (.inr (by rw [← HMM'.out]; exact t2'))
              rw [← HQ0.out] at w1'
              have t5' : (4294967296 : Int) * (r' : Int) + (d0 : Int) < (m' : Int) := by omega
              by_cases t3' : 4294967296 ≤ r' + a
              · have e' := HD0.out.broke w2' (by rw [← HQ0.out]; omega) (by omega) t3'
                rw [← HQ0.out] at e'
                obtain rfl : x' = Q0 + 1 := by omega
                have t4' : (4294967296 : Int) ≤ (r' : Int) + (a : Int) := by omega
                have hpr2' : (((Q0 : Nat) : Int) + 1) * (b : Int) = (m' : Int) := hpr'
                have t1i' : ¬ (4294967296 : Int) ≤ ((Q0 : Nat) : Int) + 1 := by omega
                clear e' w2' w1' t3' HI' HMM' hpr' t1'
                go_wp2_with fail
                go_ret2
                exact ⟨HR.out, Below.refl _ _⟩
              · have HW' := Lib.hid w2'
                have t4' : ¬ (4294967296 : Int) ≤ (r' : Int) + (a : Int) := by omega
                clear w2'
                have t1i' : ¬ (4294967296 : Int) ≤ (x' : Int) := by omega
                go_wp2_with fail
                go_round
                case rel => exact ⟨x' - 1, r' + a, by go_num, by go_num, by omega, by omega, by omega, HW'⟩
                case measure => simp [intOf]; omega
            · have e' := HD0.out.fits HI'.out (by rw [← HQ0.out]; exact k1') (by rw [← HMM'.out]; omega)
              rw [← HQ0.out] at e'
              obtain rfl : Q0 = x' := e'.symm
              have t5' : ¬ (4294967296 : Int) * (r' : Int) + (d0 : Int) < (m' : Int) := by omega
              have t1i' : ¬ (4294967296 : Int) ≤ ((Q0 : Nat) : Int) := by omega
              clear HI' HMM' t1'
              go_wp2_with fail
              go_ret2
              exact ⟨HR.out, Below.refl _ _⟩
end Go.Proofs.Ytkgoaodpjeonnaa
