/- The program's taxed and Tax, of a schedule and an income that may be. -/
import Derived.Test.YtkgoaodpjeonnaaRat
namespace Go.Proofs.Ytkgoaodpjeonnaa
open Go.RowKit

set_option maxHeartbeats 400000 in
theorem taxed_any (A : Option Addr) (c : Nat) (l : List Br) (ded cred lbp most least inc : Int) (w : World) (h : RdS w w.heap.size A l) (ok : SchOk l ded cred lbp most least) (hi : Mon inc) :
    Calls Try.prog 27 #[.agg #[.slice A l.length c, .int .i64 ded, .int .i64 cred, .int .i64 lbp, .int .i64 most, .int .i64 least], .int .i64 inc] w fun e w' => e = .returned (.tuple #[.int .i64 (max (inc - ded) 0), .int .i64 0]) ∧ Below w.heap.size w w' := by
  have hd := ok.ded
  obtain ⟨hd0, hd1⟩ := hd
  have HOK := Lib.hid ok
  have K1 := Lib.hid (money1 inc true (allIn1 hi))
  obtain ⟨hi0, hi1⟩ := hi
  clear ok
  go_enter Try.func27, Try.ntmps27
  go_wp2_with fail
  refine (right_any A c l ded cred lbp most least _ ((h.below ((Below.refl _ _).alloc (Nat.le_refl _) _) (Nat.le_refl _)).more (by simp)) HOK.out).mono ?_
  rintro e w1 ⟨rfl, hb1⟩
  have hx1 := (Box.new (A := A) (n := l.length) (c := c) (ded := ded) (cred := cred) (lbp := lbp) (most := most) (least := least) w).on hb1
  have hb : Below w.heap.size w w1 := ((Below.refl _ _).alloc (Nat.le_refl _) _).trans (hb1.mono (by simp))
  have HX1 := Lib.hid hx1; clear hx1
  go_wp2_with fail
  refine (K1.out _ _ rfl).mono ?_
  rintro e w2 ⟨rfl, hb2⟩
  have x1 := (HX1.out.on hb2).c1
  go_wp2_with fail
  go_ret2
  exact ⟨rfl, hb.trans (hb2.mono hb.size)⟩

set_option maxHeartbeats 1000000 in
set_option maxRecDepth 100000 in
theorem tax_any (A : Option Addr) (c : Nat) (l : List Br) (ded cred lbp most least inc : Int) (w : World) (h : RdS w w.heap.size A l) (ok : SchOk l ded cred lbp most least) (hi : Mon inc) :
    Calls Try.prog 11 #[.agg #[.slice A l.length c, .int .i64 ded, .int .i64 cred, .int .i64 lbp, .int .i64 most, .int .i64 least], .int .i64 inc] w fun e w' => (∃ t : Int, 0 ≤ t ∧ t ≤ 2251799813685248 ∧ e = .returned (.tuple #[.int .i64 t, .int .i64 0])) ∧ Below w.heap.size w w' := by
  have KT := Lib.hid (fun w h => taxed_any A c l ded cred lbp most least inc w h ok hi)
  obtain ⟨hd0, hd1⟩ := ok.ded
  obtain ⟨hc0, hc1⟩ := ok.cred
  obtain ⟨hi0, hi1⟩ := hi
  have o1 := ok.one
  have o10 := ok.ten
  have HALL := Lib.hid ok.all
  obtain ⟨left, hleft⟩ : ∃ left, left = max (inc - ded) 0 := ⟨_, rfl⟩
  rw [← hleft] at KT
  have hl0 : 0 ≤ left := by omega
  have hl1 : left ≤ 1125899906842624 := by omega
  clear ok hleft
  go_enter Try.func11, Try.ntmps11
  go_wp2_with fail
  refine (KT.out _ ((h.below ((Below.refl _ _).alloc (Nat.le_refl _) _) (Nat.le_refl _)).more (by simp))).mono ?_
  rintro e w1 ⟨rfl, hb1⟩
  have hx1 := (Box.new (A := A) (n := l.length) (c := c) (ded := ded) (cred := cred) (lbp := lbp) (most := most) (least := least) w).on hb1
  have hb : Below w.heap.size w w1 := ((Below.refl _ _).alloc (Nat.le_refl _) _).trans (hb1.mono (by simp))
  have x0 := hx1.c0
  have HX1 := Lib.hid hx1; clear hx1 hb1
  go_wp2_with fail
  go_loopw [6, 8, 9, 10, 11, 12, 13] (fun a u p i _ _ _ wr => ∃ j L U P : Int, -1 ≤ j ∧ j < l.length ∧ i = .int .i64 j ∧ a = .int .i64 L ∧ u = .int .i64 U ∧ p = .int .i64 P ∧ 0 ≤ L ∧ 0 ≤ U ∧ U + L ≤ 1125899906842624 ∧ 0 ≤ P ∧ P ≤ 900000000 - 99990000 * j ∧ Below w.heap.size w wr ∧ Box wr w.heap.size A l.length c ded cred lbp most least) (fun _ _ _ i _ _ _ _ => (intOf i + 1).toNat)
  case atStart => exact ⟨_, left, 0, 0, by omega, by omega, rfl, rfl, rfl, rfl, by omega, by omega, by omega, by omega, by omega, hb, HX1.out⟩
  case round =>
    clear x0 HX1 hb hl0 hl1
    obtain ⟨j, L, U, P, hj0, hj1, rfl, rfl, rfl, rfl, hL, hU, hUL, hP0, hP1, hb, hx⟩ := hrel
    have hz := hb.size
    have x0 := hx.c0
    by_cases hj : 0 ≤ j
    · obtain ⟨m, rfl⟩ := Int.eq_ofNat_of_zero_le hj
      have hm : m < l.length := by omega
      obtain ⟨g, off, rfl, hg, r0, r1⟩ := (h.below hb (Nat.le_refl _)).at_ hm
      obtain ⟨f, hf⟩ : ∃ f, f = l[m].f := ⟨_, rfl⟩
      obtain ⟨bp, hbp⟩ : ∃ bp, bp = l[m].b := ⟨_, rfl⟩
      obtain ⟨_, om, ob0, ob1, _⟩ := HALL.out m hm
      rw [← hf] at r0 om
      rw [← hbp] at r1 ob0 ob1
      obtain ⟨hf0, hf1⟩ := om
      have HX := Lib.hid hx
      clear hf hbp hx
      by_cases hle : L ≤ f
      · go_wp2_with fail
        go_roundw
        case rel => exact ⟨(m : Int) - 1, L, U, P, by omega, by omega, rfl, rfl, rfl, rfl, hL, hU, hUL, hP0, by omega, hb.alloc hz _, HX.out.on ((Below.refl _ _).alloc (Nat.le_refl _) _)⟩
        case measure => simp [intOf]
      · obtain ⟨Q, hQ⟩ : ∃ Q, (L - f) / 10000 = Q := ⟨_, rfl⟩
        obtain ⟨R, hR⟩ : ∃ R, (L - f) % 10000 = R := ⟨_, rfl⟩
        have hQ0 : 0 ≤ Q := by omega
        have hR0 : 0 ≤ R := by omega
        have hR1 : R ≤ 9999 := by omega
        have hQR : Q * 10000 + R = L - f := by omega
        obtain ⟨a, ha⟩ : ∃ a, Q * bp = a := ⟨_, rfl⟩
        obtain ⟨b, hb'⟩ : ∃ b, R * bp = b := ⟨_, rfl⟩
        have ha0 : 0 ≤ a := by rw [← ha]; exact Int.mul_nonneg hQ0 ob0
        have ha1 : a ≤ Q * 10000 := by rw [← ha]; exact Int.mul_le_mul_of_nonneg_left ob1 hQ0
        have hb0 : 0 ≤ b := by rw [← hb']; exact Int.mul_nonneg hR0 ob0
        have hb1 : b ≤ 99990000 := by
          have : b ≤ R * 10000 := by rw [← hb']; exact Int.mul_le_mul_of_nonneg_left ob1 hR0
          omega
        go_wp2_with fail
        go_quiet (fail)
        go_wp2_with fail
        go_roundw
        case rel => exact ⟨(m : Int) - 1, f, U + a, P + b, by omega, by omega, rfl, rfl, rfl, rfl, hf0, by omega, by omega, by omega, by omega, below_dr (hb.alloc hz _), HX.out.on (below_dr ((Below.refl _ _).alloc (Nat.le_refl _) _))⟩
        case measure => simp [intOf]
    · obtain rfl : j = -1 := by omega
      have x2 := hx.c2
      clear hx
      go_wp2_with fail
      go_ret2
      exact ⟨⟨_, by omega, by omega, rfl⟩, hb⟩
end Go.Proofs.Ytkgoaodpjeonnaa
