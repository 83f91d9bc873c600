/- The tax and the bill as functions of what they are reckoned from. -/
import Derived.Test.YtkgoaodpjeonnaaBill
import Derived.Test.YtkgoaodpjeonnaaTax
namespace Go.Proofs.Ytkgoaodpjeonnaa
open Go.RowKit

/-- The sum over the brackets below k, from the last one: units, parts. -/
def taxLoop (l : List Br) : Nat → Int → Int → Int → Int × Int
  | 0, _, U, P => (U, P)
  | k + 1, L, U, P => if h : k < l.length then (if L ≤ l[k].f then taxLoop l k L U P else taxLoop l k l[k].f (U + (L - l[k].f) / 10000 * l[k].b) (P + (L - l[k].f) % 10000 * l[k].b)) else (U, P)
theorem taxLoop_step (l : List Br) (k : Nat) (h : k < l.length) (L U P : Int) : taxLoop l (k + 1) L U P = if L ≤ l[k].f then taxLoop l k L U P else taxLoop l k l[k].f (U + (L - l[k].f) / 10000 * l[k].b) (P + (L - l[k].f) % 10000 * l[k].b) := by
  rw [taxLoop, dif_pos h]
def taxV (l : List Br) (ded cred inc : Int) : Int := max ((taxLoop l l.length (max (inc - ded) 0) 0 0).1 + (taxLoop l l.length (max (inc - ded) 0) 0 0).2 / 10000 - cred) 0
set_option maxHeartbeats 1000000 in
set_option maxRecDepth 100000 in
theorem tax_fun (A : Option Addr) (c : Nat) (l : List Br) (ded cred lbp most least inc : Int) (w : World) (h : RdS w w.heap.size A l) (ok : SchOk l ded cred lbp most least) (hi : Mon inc) :
    Calls Try.prog 11 #[.agg #[.slice A l.length c, .int .i64 ded, .int .i64 cred, .int .i64 lbp, .int .i64 most, .int .i64 least], .int .i64 inc] w fun e w' => (0 ≤ taxV l ded cred inc ∧ taxV l ded cred inc ≤ 2251799813685248 ∧ e = .returned (.tuple #[.int .i64 (taxV l ded cred inc), .int .i64 0])) ∧ Below w.heap.size w w' := by
  have KT := Lib.hid (fun w h => taxed_any A c l ded cred lbp most least inc w h ok hi)
  obtain ⟨hd0, hd1⟩ := ok.ded
  obtain ⟨hc0, hc1⟩ := ok.cred
  obtain ⟨hi0, hi1⟩ := hi
  have o1 := ok.one
  have o10 := ok.ten
  have HALL := Lib.hid ok.all
  obtain ⟨left, hleft⟩ : ∃ left, left = max (inc - ded) 0 := ⟨_, rfl⟩
  rw [← hleft] at KT
  obtain ⟨TT, hTT⟩ : ∃ TT, TT = taxLoop l l.length left 0 0 := ⟨_, rfl⟩
  have HTV : Hid (taxV l ded cred inc = max (TT.1 + TT.2 / 10000 - cred) 0) := Lib.hid (by unfold taxV; rw [← hleft, ← hTT])
  have HT0 : Hid (taxLoop l ((l.length : Int) - 1 + 1).toNat left 0 0 = TT) := Lib.hid (by rw [hTT]; congr 1; omega)
  clear hTT
  have hl0 : 0 ≤ left := by omega
  have hl1 : left ≤ 1125899906842624 := by omega
  clear ok hleft
  go_enter Try.func11, Try.ntmps11
  go_wp2_with fail
  refine (KT.out _ ((h.below ((Below.refl _ _).alloc (Nat.le_refl _) _) (Nat.le_refl _)).more (by simp))).mono ?_
  rintro e w1 ⟨rfl, hb1⟩
  have hx1 := (Box.new (A := A) (n := l.length) (c := c) (ded := ded) (cred := cred) (lbp := lbp) (most := most) (least := least) w).on hb1
  have hb : Below w.heap.size w w1 := ((Below.refl _ _).alloc (Nat.le_refl _) _).trans (hb1.mono (by simp))
  have x0 := hx1.c0
  have HX1 := Lib.hid hx1; clear hx1 hb1
  go_wp2_with fail
  go_loopw [6, 8, 9, 10, 11, 12, 13] (fun a u p i _ _ _ wr => ∃ j L U P : Int, -1 ≤ j ∧ j < l.length ∧ i = .int .i64 j ∧ a = .int .i64 L ∧ u = .int .i64 U ∧ p = .int .i64 P ∧ 0 ≤ L ∧ 0 ≤ U ∧ U + L ≤ 1125899906842624 ∧ 0 ≤ P ∧ P ≤ 900000000 - 99990000 * j ∧ Below w.heap.size w wr ∧ Box wr w.heap.size A l.length c ded cred lbp most least ∧ Hid (taxLoop l (j + 1).toNat L U P = TT)) (fun _ _ _ i _ _ _ _ => (intOf i + 1).toNat)
  case atStart => exact ⟨_, left, 0, 0, by omega, by omega, rfl, rfl, rfl, rfl, by omega, by omega, by omega, by omega, by omega, hb, HX1.out, HT0⟩
  case round =>
    clear x0 HX1 hb hl0 hl1
    obtain ⟨j, L, U, P, hj0, hj1, rfl, rfl, rfl, rfl, hL, hU, hUL, hP0, hP1, hb, hx, HTT⟩ := hrel
    have hz := hb.size
    have x0 := hx.c0
    by_cases hj : 0 ≤ j
    · obtain ⟨m, rfl⟩ := Int.eq_ofNat_of_zero_le hj
      have hm : m < l.length := by omega
      obtain ⟨g, off, rfl, hg, r0, r1⟩ := (h.below hb (Nat.le_refl _)).at_ hm
      obtain ⟨f, hf⟩ : ∃ f, f = l[m].f := ⟨_, rfl⟩
      obtain ⟨bp, hbp⟩ : ∃ bp, bp = l[m].b := ⟨_, rfl⟩
      obtain ⟨_, om, ob0, ob1, _⟩ := HALL.out m hm
      rw [← hf] at r0 om
      rw [← hbp] at r1 ob0 ob1
      obtain ⟨hf0, hf1⟩ := om
      have HX := Lib.hid hx
      have HS := Lib.hid (taxLoop_step l m hm L U P)
      rw [← hf, ← hbp] at HS
      have HTT2 : Hid (taxLoop l (m + 1) L U P = TT) := Lib.hid (by have := HTT.out; rwa [show ((m : Int) + 1).toNat = m + 1 by omega] at this)
      clear hf hbp hx HTT
      by_cases hle : L ≤ f
      · go_wp2_with fail
        go_roundw
        case rel => exact ⟨(m : Int) - 1, L, U, P, by omega, by omega, rfl, rfl, rfl, rfl, hL, hU, hUL, hP0, by omega, hb.alloc hz _, HX.out.on ((Below.refl _ _).alloc (Nat.le_refl _) _), Lib.hid (by have := HTT2.out; rw [HS.out, if_pos hle] at this; rwa [show ((m : Int) - 1 + 1).toNat = m by omega])⟩
        case measure => simp [intOf]
      · obtain ⟨Q, hQ⟩ : ∃ Q, (L - f) / 10000 = Q := ⟨_, rfl⟩
        obtain ⟨R, hR⟩ : ∃ R, (L - f) % 10000 = R := ⟨_, rfl⟩
        have hQ0 : 0 ≤ Q := by omega
        have hR0 : 0 ≤ R := by omega
        have hR1 : R ≤ 9999 := by omega
        have hQR : Q * 10000 + R = L - f := by omega
        obtain ⟨a, ha⟩ : ∃ a, Q * bp = a := ⟨_, rfl⟩
        obtain ⟨b, hb'⟩ : ∃ b, R * bp = b := ⟨_, rfl⟩
        have ha0 : 0 ≤ a := by rw [← ha]; exact Int.mul_nonneg hQ0 ob0
        have ha1 : a ≤ Q * 10000 := by rw [← ha]; exact Int.mul_le_mul_of_nonneg_left ob1 hQ0
        have hb0 : 0 ≤ b := by rw [← hb']; exact Int.mul_nonneg hR0 ob0
        have HTT3 : Hid (taxLoop l ((m : Int) - 1 + 1).toNat f (U + a) (P + b) = TT) := Lib.hid (by have := HTT2.out; rw [HS.out, if_neg hle, hQ, hR, ha, hb'] at this; rwa [show ((m : Int) - 1 + 1).toNat = m by omega])
        have hb1 : b ≤ 99990000 := by
          have : b ≤ R * 10000 := by rw [← hb']; exact Int.mul_le_mul_of_nonneg_left ob1 hR0
          omega
        go_wp2_with fail
        go_quiet (fail)
        go_wp2_with fail
        go_roundw
        case rel => exact ⟨(m : Int) - 1, f, U + a, P + b, by omega, by omega, rfl, rfl, rfl, rfl, hf0, by omega, by omega, by omega, by omega, below_dr (hb.alloc hz _), HX.out.on (below_dr ((Below.refl _ _).alloc (Nat.le_refl _) _)), HTT3⟩
        case measure => simp [intOf]
    · obtain rfl : j = -1 := by omega
      have x2 := hx.c2
      have hlast : TT = (U, P) := by have := HTT.out; simpa [taxLoop] using this.symm
      obtain ⟨tv, htv⟩ : ∃ tv, tv = max (U + P / 10000 - cred) 0 := ⟨_, rfl⟩
      have HFIN : Hid (0 ≤ taxV l ded cred inc ∧ taxV l ded cred inc ≤ 2251799813685248 ∧ Ending.returned (.tuple #[.int .i64 (max (U + P / 10000 - cred) 0), .int .i64 0]) = .returned (.tuple #[.int .i64 (taxV l ded cred inc), .int .i64 0])) := Lib.hid (by
        rw [HTV.out, hlast]
        exact ⟨by show 0 ≤ max (U + P / 10000 - cred) 0; omega, by show max (U + P / 10000 - cred) 0 ≤ 2251799813685248; omega, rfl⟩)
      clear hx HTT hlast htv
      go_wp2_with fail
      go_ret2
      exact ⟨HFIN.out, hb⟩
/-- How late is one number. -/
theorem lateOf_one {D F n m : Int} (h : LateOf D F n) (h' : LateOf D F m) : n = m := by
  rcases h with ⟨h, rfl⟩ | ⟨h, y, mo, d, z, k, i, h1, h2, rfl⟩
  · rcases h' with ⟨_, rfl⟩ | ⟨h', _⟩
    · rfl
    · omega
  · rcases h' with ⟨h', _⟩ | ⟨_, y', mo', d', z', k', i', h1', h2', rfl⟩
    · omega
    · obtain ⟨rfl, rfl, rfl⟩ := isDate_inj h1 h1'
      obtain ⟨rfl, rfl, rfl⟩ := isDate_inj h2 h2'
      rfl
def BillIs (t : Int) (lbp most least due filed wh : Int) (e : Ending) : Prop := ∃ L : Int, 0 ≤ t ∧ t ≤ 2251799813685248 ∧ LateOf due filed L ∧ 0 ≤ L ∧ L ≤ 120000 ∧
  e = .returned (.tuple #[.agg #[.int .i64 t, .int .i64 (max (t - wh) 0), .int .i64 (penV lbp most least (max (t - wh) 0) L), .int .i64 (max (wh - t) 0)], .int .i64 0])
set_option maxHeartbeats 2000000 in
set_option maxRecDepth 100000 in
theorem bill_fun (A : Option Addr) (c : Nat) (l : List Br) (ded cred lbp most least per due filed inc wh : Int) (w : World) (h : RdS w w.heap.size A l) (ok : SchOk l ded cred lbp most least) (rok : RetOk per due filed inc wh) :
    Calls Try.prog 5 #[.agg #[.slice A l.length c, .int .i64 ded, .int .i64 cred, .int .i64 lbp, .int .i64 most, .int .i64 least], .agg #[.int .i64 per, .int .i64 due, .int .i64 filed, .int .i64 inc, .int .i64 wh]] w fun e w' => BillIs (taxV l ded cred inc) lbp most least due filed wh e ∧ Below w.heap.size w w' := by
  have KT' := Lib.hid (fun w h => tax_fun A c l ded cred lbp most least inc w h ok rok.inc)
  obtain ⟨t, ht⟩ : ∃ t, t = taxV l ded cred inc := ⟨_, rfl⟩
  rw [← ht] at KT' ⊢
  have KT := KT'
  clear KT' ht
  have KR := Lib.hid (aright_any per due filed inc wh rok)
  have KL := Lib.hid (late_any per due filed inc wh rok)
  have l0 := ok.lbp0
  have l1 := ok.lbp1
  have m0 := ok.most0
  have m1 := ok.most1
  obtain ⟨v0, v1⟩ := ok.least
  obtain ⟨h0, h1⟩ := rok.wh
  clear ok rok
  have hs0 : Box (((w.alloc (.cells #[.slice A l.length c, .int .i64 ded, .int .i64 cred, .int .i64 lbp, .int .i64 most, .int .i64 least] 24)).alloc (.cells #[.int .i64 per, .int .i64 due, .int .i64 filed, .int .i64 inc, .int .i64 wh] 26)).alloc (.cells #[.int .i64 0, .int .i64 0, .int .i64 0, .int .i64 0] 33)) w.heap.size A l.length c ded cred lbp most least := by
    unfold Box; rw [Below.heap_alloc _ _ _ (by simp <;> omega), Below.heap_alloc _ _ _ (by simp)]; exact heap_alloc_new w _
  have hr0 : RBox (((w.alloc (.cells #[.slice A l.length c, .int .i64 ded, .int .i64 cred, .int .i64 lbp, .int .i64 most, .int .i64 least] 24)).alloc (.cells #[.int .i64 per, .int .i64 due, .int .i64 filed, .int .i64 inc, .int .i64 wh] 26)).alloc (.cells #[.int .i64 0, .int .i64 0, .int .i64 0, .int .i64 0] 33)) (w.heap.size + 1) per due filed inc wh := by
    unfold RBox; rw [Below.heap_alloc _ _ _ (by simp)]
    have := heap_alloc_new (w.alloc (.cells #[.slice A l.length c, .int .i64 ded, .int .i64 cred, .int .i64 lbp, .int .i64 most, .int .i64 least] 24)) (.cells #[.int .i64 per, .int .i64 due, .int .i64 filed, .int .i64 inc, .int .i64 wh] 26)
    simpa using this
  have hz0 : ZBox (((w.alloc (.cells #[.slice A l.length c, .int .i64 ded, .int .i64 cred, .int .i64 lbp, .int .i64 most, .int .i64 least] 24)).alloc (.cells #[.int .i64 per, .int .i64 due, .int .i64 filed, .int .i64 inc, .int .i64 wh] 26)).alloc (.cells #[.int .i64 0, .int .i64 0, .int .i64 0, .int .i64 0] 33)) (w.heap.size + 1 + 1) 0 0 0 0 := by
    unfold ZBox
    have := heap_alloc_new ((w.alloc (.cells #[.slice A l.length c, .int .i64 ded, .int .i64 cred, .int .i64 lbp, .int .i64 most, .int .i64 least] 24)).alloc (.cells #[.int .i64 per, .int .i64 due, .int .i64 filed, .int .i64 inc, .int .i64 wh] 26)) (.cells #[.int .i64 0, .int .i64 0, .int .i64 0, .int .i64 0] 33)
    simpa using this
  have hb0 : Below w.heap.size w (((w.alloc (.cells #[.slice A l.length c, .int .i64 ded, .int .i64 cred, .int .i64 lbp, .int .i64 most, .int .i64 least] 24)).alloc (.cells #[.int .i64 per, .int .i64 due, .int .i64 filed, .int .i64 inc, .int .i64 wh] 26)).alloc (.cells #[.int .i64 0, .int .i64 0, .int .i64 0, .int .i64 0] 33)) :=
    (((Below.refl _ _).alloc (Nat.le_refl _) _).alloc (by simp) _).alloc (by simp; omega) _
  have HS0 := Lib.hid hs0; have HR0 := Lib.hid hr0; have HZ0 := Lib.hid hz0; have HB0 := Lib.hid hb0
  clear hs0 hr0 hz0 hb0
  go_enter Try.func5, Try.ntmps5
  go_wp2_with fail
  refine (KT.out _ ((h.below HB0.out (Nat.le_refl _)).more HB0.out.size)).mono ?_
  rintro e w1 ⟨⟨t0, t1, rfl⟩, hb1⟩
  have hb01 := HB0.out.trans (hb1.mono HB0.out.size)
  have HS1 := Lib.hid (HS0.out.on hb1); have HR1 := Lib.hid (HR0.out.on hb1); have HZ1 := Lib.hid (HZ0.out.on hb1)
  have r0 := cell_of_row w1 (w.heap.size + 1) 0 _ _ (0, 0) HR1.out
  have r1 := cell_of_row w1 (w.heap.size + 1) 1 _ _ (0, 0) HR1.out
  have r2 := cell_of_row w1 (w.heap.size + 1) 2 _ _ (0, 0) HR1.out
  have r3 := cell_of_row w1 (w.heap.size + 1) 3 _ _ (0, 0) HR1.out
  have r4 := cell_of_row w1 (w.heap.size + 1) 4 _ _ (0, 0) HR1.out
  simp at r0 r1 r2 r3 r4
  clear hb1
  go_wp2_with fail
  refine (KR.out _).mono ?_
  rintro e w2 ⟨rfl, hb2⟩
  have hb02 := hb01.trans (hb2.mono hb01.size)
  have HS2 := Lib.hid (HS1.out.on hb2); have HR2 := Lib.hid (HR1.out.on hb2); have HZ2 := Lib.hid (HZ1.out.on hb2)
  clear r0 r1 r2 r3 r4 hb2 hb01
  have r0 := cell_of_row w2 (w.heap.size + 1) 0 _ _ (0, 0) HR2.out
  have r1 := cell_of_row w2 (w.heap.size + 1) 1 _ _ (0, 0) HR2.out
  have r2 := cell_of_row w2 (w.heap.size + 1) 2 _ _ (0, 0) HR2.out
  have r3 := cell_of_row w2 (w.heap.size + 1) 3 _ _ (0, 0) HR2.out
  have r4 := cell_of_row w2 (w.heap.size + 1) 4 _ _ (0, 0) HR2.out
  simp at r0 r1 r2 r3 r4
  have hz2 := hb02.size
  have hlt2 := heap_lt HZ2.out
  obtain ⟨P, hP⟩ : ∃ P, max (t - wh) 0 = P := ⟨_, rfl⟩
  obtain ⟨X, hX⟩ : ∃ X, max (wh - t) 0 = X := ⟨_, rfl⟩
  have hP0 : 0 ≤ P := by omega
  have hP1 : P ≤ 2251799813685248 := by omega
  have hltR : w.heap.size + 1 < w2.heap.size := by omega
  have hltS : w.heap.size < w2.heap.size := by omega
  have hg : ZBox (w2.alloc (.cells #[.int .i64 t, .int .i64 P, .int .i64 0, .int .i64 X] 33)) w2.heap.size t P 0 X := heap_alloc_new w2 _
  have HG := Lib.hid hg; clear hg
  have hba : Below w2.heap.size w2 (w2.alloc (.cells #[.int .i64 t, .int .i64 P, .int .i64 0, .int .i64 X] 33)) := (Below.refl _ _).alloc (Nat.le_refl _) _
  have HS2a := Lib.hid (HS2.out.on hba); have HZ2a := Lib.hid (HZ2.out.on hba)
  have hb02a := hb02.trans (hba.mono hz2)
  clear hba
  go_wp2_with fail
  refine (KL.out _).mono ?_
  rintro e w3 ⟨⟨L, hL, L0, L1, rfl⟩, hb3⟩
  have HL := Lib.hid hL; clear hL
  have HS3 := Lib.hid (HS2a.out.on hb3); have HZ3 := Lib.hid (HZ2a.out.on hb3); have HG3 := Lib.hid (HG.out.on hb3)
  have hb03 := hb02a.trans (hb3.mono hb02a.size)
  clear r0 r1 r2 r3 r4 hb3
  have g0 := cell_of_row w3 w2.heap.size 0 _ _ (0, 0) HG3.out
  have g1 := cell_of_row w3 w2.heap.size 1 _ _ (0, 0) HG3.out
  have g2 := cell_of_row w3 w2.heap.size 2 _ _ (0, 0) HG3.out
  have g3 := cell_of_row w3 w2.heap.size 3 _ _ (0, 0) HG3.out
  simp at g0 g1 g2 g3
  have z0 := cell_of_row w3 (w.heap.size + 1 + 1) 0 _ _ (0, 0) HZ3.out
  have z1 := cell_of_row w3 (w.heap.size + 1 + 1) 1 _ _ (0, 0) HZ3.out
  have z2 := cell_of_row w3 (w.heap.size + 1 + 1) 2 _ _ (0, 0) HZ3.out
  have z3 := cell_of_row w3 (w.heap.size + 1 + 1) 3 _ _ (0, 0) HZ3.out
  simp at z0 z1 z2 z3
  have fz0 := frozen_of_row w3 (w.heap.size + 1 + 1) 0 _ _ HZ3.out
  have fz1 := frozen_of_row w3 (w.heap.size + 1 + 1) 1 _ _ HZ3.out
  have fz2 := frozen_of_row w3 (w.heap.size + 1 + 1) 2 _ _ HZ3.out
  have fz3 := frozen_of_row w3 (w.heap.size + 1 + 1) 3 _ _ HZ3.out
  have s3 := HS3.out.c3
  have s4 := HS3.out.c4
  by_cases hPp : 0 < P
  · by_cases hLp : 0 < L
    · obtain ⟨M, hM⟩ : ∃ M, min L most = M := ⟨_, rfl⟩
      obtain ⟨Y, hY⟩ : ∃ Y, lbp * M = Y := ⟨_, rfl⟩
      obtain ⟨x0, x1⟩ := prod_bd (lbp := lbp) (M := M) l0 l1 (by omega) (by omega)
      rw [hY] at x0 x1
      obtain ⟨q, hq⟩ : ∃ q, q = mulV P Y := ⟨_, rfl⟩
      have K := Lib.hid (muldiv_z P Y hP0 (by omega) x0 (by omega) q hq)
      have e : penV lbp most least P L = min (max q least) P := by
        unfold penV; rw [if_pos ⟨hPp, hLp⟩, hM, hY, hq]
      have HR : Hid (BillIs t lbp most least due filed wh (.returned (.tuple #[.agg #[.int .i64 t, .int .i64 P, .int .i64 (min (max q least) P), .int .i64 X], .int .i64 0]))) := Lib.hid ⟨L, t0, t1, HL.out, L0, L1, by rw [hP, e, hX]⟩
      obtain ⟨q0, q1⟩ := mulV_bd P Y
      rw [← hq] at q0 q1
      clear hq e
      go_wp2_with fail
      refine (K.out _).mono ?_
      rintro e w4 ⟨⟨x, rfl⟩, hb4⟩
      have hb04 := hb03.trans (hb4.mono hb03.size)
      have HS4 := Lib.hid (HS3.out.on hb4); have HZ4 := Lib.hid (HZ3.out.on hb4); have HG4 := Lib.hid (HG3.out.on hb4)
      clear g0 g1 g2 g3 z0 z1 z2 z3 fz0 fz1 fz2 fz3 s3 s4 hb4
      have g0 := cell_of_row w4 w2.heap.size 0 _ _ (0, 0) HG4.out
      have g1 := cell_of_row w4 w2.heap.size 1 _ _ (0, 0) HG4.out
      have g2 := cell_of_row w4 w2.heap.size 2 _ _ (0, 0) HG4.out
      have g3 := cell_of_row w4 w2.heap.size 3 _ _ (0, 0) HG4.out
      simp at g0 g1 g2 g3
      have z0 := cell_of_row w4 (w.heap.size + 1 + 1) 0 _ _ (0, 0) HZ4.out
      have z1 := cell_of_row w4 (w.heap.size + 1 + 1) 1 _ _ (0, 0) HZ4.out
      have z2 := cell_of_row w4 (w.heap.size + 1 + 1) 2 _ _ (0, 0) HZ4.out
      have z3 := cell_of_row w4 (w.heap.size + 1 + 1) 3 _ _ (0, 0) HZ4.out
      simp at z0 z1 z2 z3
      have fz0 := frozen_of_row w4 (w.heap.size + 1 + 1) 0 _ _ HZ4.out
      have fz1 := frozen_of_row w4 (w.heap.size + 1 + 1) 1 _ _ HZ4.out
      have fz2 := frozen_of_row w4 (w.heap.size + 1 + 1) 2 _ _ HZ4.out
      have fz3 := frozen_of_row w4 (w.heap.size + 1 + 1) 3 _ _ HZ4.out
      have fg2 := frozen_of_row w4 w2.heap.size 2 _ _ HG4.out
      have s5 := HS4.out.c5
      have hne : w.heap.size + 1 + 1 ≠ w2.heap.size := by omega
      obtain ⟨V, hV⟩ : ∃ V, min (max q least) P = V := ⟨_, rfl⟩
      rw [hV] at HR
      go_wp2_with fail
      refine bodyPost_ret (results_c2 rfl _ _ (w.heap.size + 1 + 1) 33 #[.int .i64 t, .int .i64 P, .int .i64 V, .int .i64 X] (0, 0) _ rfl ?hg Try.underlying33 rfl bill_size) rfl ?_
      case hg => exact heap_set4 ((Below.heap_setCell w4 _ _ _ hne).trans HZ4.out)
      exact ⟨HR.out, ((((hb04.setCell (by show w.heap.size ≤ w2.heap.size; omega) _).setCell (by show w.heap.size ≤ w.heap.size + 1 + 1; omega) _).setCell (by show w.heap.size ≤ w.heap.size + 1 + 1; omega) _).setCell (by show w.heap.size ≤ w.heap.size + 1 + 1; omega) _).setCell (by show w.heap.size ≤ w.heap.size + 1 + 1; omega) _⟩
    · have HR : Hid (BillIs t lbp most least due filed wh (.returned (.tuple #[.agg #[.int .i64 t, .int .i64 P, .int .i64 0, .int .i64 X], .int .i64 0]))) := Lib.hid ⟨L, t0, t1, HL.out, L0, L1, by rw [hP, hX]; unfold penV; rw [if_neg (fun h => hLp h.2)]⟩
      go_wp2_with fail
      refine bodyPost_ret (results_c2 rfl _ _ (w.heap.size + 1 + 1) 33 #[.int .i64 t, .int .i64 P, .int .i64 0, .int .i64 X] (0, 0) _ rfl ?hg Try.underlying33 rfl bill_size) rfl ?_
      case hg => exact heap_set4 HZ3.out
      exact ⟨HR.out, (((hb03.setCell (by show w.heap.size ≤ w.heap.size + 1 + 1; omega) _).setCell (by show w.heap.size ≤ w.heap.size + 1 + 1; omega) _).setCell (by show w.heap.size ≤ w.heap.size + 1 + 1; omega) _).setCell (by show w.heap.size ≤ w.heap.size + 1 + 1; omega) _⟩
  · have HR : Hid (BillIs t lbp most least due filed wh (.returned (.tuple #[.agg #[.int .i64 t, .int .i64 P, .int .i64 0, .int .i64 X], .int .i64 0]))) := Lib.hid ⟨L, t0, t1, HL.out, L0, L1, by rw [hP, hX]; unfold penV; rw [if_neg (fun h => hPp h.1)]⟩
    go_wp2_with fail
    refine bodyPost_ret (results_c2 rfl _ _ (w.heap.size + 1 + 1) 33 #[.int .i64 t, .int .i64 P, .int .i64 0, .int .i64 X] (0, 0) _ rfl ?hg Try.underlying33 rfl bill_size) rfl ?_
    case hg => exact heap_set4 HZ3.out
    exact ⟨HR.out, (((hb03.setCell (by show w.heap.size ≤ w.heap.size + 1 + 1; omega) _).setCell (by show w.heap.size ≤ w.heap.size + 1 + 1; omega) _).setCell (by show w.heap.size ≤ w.heap.size + 1 + 1; omega) _).setCell (by show w.heap.size ≤ w.heap.size + 1 + 1; omega) _⟩
end Go.Proofs.Ytkgoaodpjeonnaa
