/- The program's Bill of a schedule and a return that may be; the statement's own penalty. -/
import Derived.Test.YtkgoaodpjeonnaaLate
namespace Go.Proofs.Ytkgoaodpjeonnaa
open Go.RowKit

theorem results_c2 {P : Program} {fn : Func} {p u : Tmp} {ty : TypeId} (h : fn.results = #[.cell p ty, .tmp u]) (tmps : Array Value) (w : World) (g : Nat) (t : TypeId) (cs : Array Value) (fr : Nat × Nat) (d : TypeDesc)
    (hp : tmps.getD p undef = .pointer (some ⟨g, 0, none⟩)) (hg : w.heap[g]? = some (.cells cs t fr)) (hu : P.underlying ty = some d) (hd : (match d, hu with | .struct _, _ => true | .array _ _, _ => true | _, _ => false) = true) (hs : (P.info? ty).map (fun x => x.size) = some cs.size) :
    (results fn tmps).run P w = .ok (.tuple #[.agg cs, tmps.getD u undef]) w := by
  have h1 := results_cell_row (P := P) (fn := { fn with results := #[.cell p ty] }) (p := p) (ty := ty) rfl tmps w g t cs fr d hp hg hu hd hs
  have h2 : ((asAddr (tmps.getD p undef)).run P w).andThen (fun a w1 => (loadVar ty a).run P w1) = .ok (.agg cs) w := by
    simpa [results] using h1
  rw [hp] at h2
  have h3 : (loadVar ty ⟨g, 0, none⟩).run P w = .ok (.agg cs) w := by simpa [asAddr] using h2
  have hp2 := hp
  simp at hp2
  simp [results, h, asAddr, hp2, h3]
theorem bill_size : (Try.prog.info? 33).map (fun x => x.size) = some 4 := by kernel_rfl
theorem heap_set4 {w : World} {g : Nat} {x y z v a b c d : Value} {T : TypeId} (h : w.heap[g]? = some (.cells #[x, y, z, v] T)) : ((((w.setCell ⟨g, 0, none⟩ a).setCell ⟨g, 1, none⟩ b).setCell ⟨g, 2, none⟩ c).setCell ⟨g, 3, none⟩ d).heap[g]? = some (.cells #[a, b, c, d] T) := by
  have h1 := heap_setCell_same w g 0 _ T a h
  have h2 := heap_setCell_same _ g 1 _ T b h1
  have h3 := heap_setCell_same _ g 2 _ T c h2
  have h4 := heap_setCell_same _ g 3 _ T d h3
  simpa using h4
/-- A product's part, as MulDiv has it. -/
def mulV (a b : Int) : Int := if a.toNat * b.toNat / 10000 ≤ 4611686018427387904 then ((a.toNat * b.toNat / 10000 : Nat) : Int) else 0
def penV (lbp most least P L : Int) : Int := if 0 < P ∧ 0 < L then min (max (mulV P (lbp * min L most)) least) P else 0
theorem muldiv_z (a b : Int) (a0 : 0 ≤ a) (a1 : a ≤ 4611686018427387904) (b0 : 0 ≤ b) (b1 : b ≤ 4611686018427387904) (v : Int) (hv : v = mulV a b) (w : World) :
    Calls Try.prog 14 #[.int .i64 a, .int .i64 b, .int .i64 10000] w fun e w' => (∃ x : Int, e = .returned (.tuple #[.int .i64 v, .int .i64 x])) ∧ Below w.heap.size w w' := by
  obtain ⟨a, rfl⟩ := Int.eq_ofNat_of_zero_le a0
  obtain ⟨b, rfl⟩ := Int.eq_ofNat_of_zero_le b0
  refine (muldiv_any a b 10000 (by omega) (by omega) (by omega) (by omega) w).mono ?_
  rintro e w' ⟨h, hb⟩
  refine ⟨?_, hb⟩
  subst hv
  unfold mulV
  rw [Int.toNat_natCast, Int.toNat_natCast]
  rcases h with ⟨h, rfl⟩ | ⟨h, rfl⟩
  · exact ⟨_, by rw [if_pos h]⟩
  · exact ⟨_, by rw [if_neg (by omega)]⟩
theorem mulV_bd (a b : Int) : 0 ≤ mulV a b ∧ mulV a b ≤ 4611686018427387904 := by
  unfold mulV
  generalize a.toNat * b.toNat / 10000 = q
  split <;> omega
theorem prod_bd {lbp M : Int} (l0 : 0 ≤ lbp) (l1 : lbp ≤ 10000) (m0 : 0 ≤ M) (m1 : M ≤ 60) : 0 ≤ lbp * M ∧ lbp * M ≤ 600000 := by
  refine ⟨Int.mul_nonneg l0 m0, ?_⟩
  have h1 : lbp * M ≤ lbp * 60 := Int.mul_le_mul_of_nonneg_left m1 l0
  omega
/-- The boxed return. -/
def RBox (w : World) (g : Nat) (per due filed inc wh : Int) : Prop := w.heap[g]? = some (.cells #[.int .i64 per, .int .i64 due, .int .i64 filed, .int .i64 inc, .int .i64 wh] 26)
theorem RBox.on {w w' : World} {g : Nat} {per due filed inc wh : Int} (h : RBox w g per due filed inc wh) (hb : Below w.heap.size w w') : RBox w' g per due filed inc wh := (hb.block _ (heap_lt h)).trans h
/-- A bill in memory. -/
def ZBox (w : World) (g : Nat) (a b c d : Int) : Prop := w.heap[g]? = some (.cells #[.int .i64 a, .int .i64 b, .int .i64 c, .int .i64 d] 33)
theorem ZBox.on {w w' : World} {g : Nat} {a b c d : Int} (h : ZBox w g a b c d) (hb : Below w.heap.size w w') : ZBox w' g a b c d := (hb.block _ (heap_lt h)).trans h
def BillOf (lbp most least due filed wh : Int) (e : Ending) : Prop := ∃ t L : Int, 0 ≤ t ∧ t ≤ 2251799813685248 ∧ LateOf due filed L ∧ 0 ≤ L ∧ L ≤ 120000 ∧
  e = .returned (.tuple #[.agg #[.int .i64 t, .int .i64 (max (t - wh) 0), .int .i64 (penV lbp most least (max (t - wh) 0) L), .int .i64 (max (wh - t) 0)], .int .i64 0])
set_option maxHeartbeats 2000000 in
set_option maxRecDepth 100000 in
theorem bill_any (A : Option Addr) (c : Nat) (l : List Br) (ded cred lbp most least per due filed inc wh : Int) (w : World) (h : RdS w w.heap.size A l) (ok : SchOk l ded cred lbp most least) (rok : RetOk per due filed inc wh) :
    Calls Try.prog 5 #[.agg #[.slice A l.length c, .int .i64 ded, .int .i64 cred, .int .i64 lbp, .int .i64 most, .int .i64 least], .agg #[.int .i64 per, .int .i64 due, .int .i64 filed, .int .i64 inc, .int .i64 wh]] w fun e w' => BillOf lbp most least due filed wh e ∧ Below w.heap.size w w' := by
  have KT := Lib.hid (fun w h => tax_any A c l ded cred lbp most least inc w h ok rok.inc)
  have KR := Lib.hid (aright_any per due filed inc wh rok)
  have KL := Lib.hid (late_any per due filed inc wh rok)
  have l0 := ok.lbp0
  have l1 := ok.lbp1
  have m0 := ok.most0
  have m1 := ok.most1
  obtain ⟨v0, v1⟩ := ok.least
  obtain ⟨h0, h1⟩ := rok.wh
  clear ok rok
  have hs0 : Box (((w.alloc (.cells #[.slice A l.length c, .int .i64 ded, .int .i64 cred, .int .i64 lbp, .int .i64 most, .int .i64 least] 24)).alloc (.cells #[.int .i64 per, .int .i64 due, .int .i64 filed, .int .i64 inc, .int .i64 wh] 26)).alloc (.cells #[.int .i64 0, .int .i64 0, .int .i64 0, .int .i64 0] 33)) w.heap.size A l.length c ded cred lbp most least := by
    unfold Box; rw [Below.heap_alloc _ _ _ (by simp <;> omega), Below.heap_alloc _ _ _ (by simp)]; exact heap_alloc_new w _
  have hr0 : RBox (((w.alloc (.cells #[.slice A l.length c, .int .i64 ded, .int .i64 cred, .int .i64 lbp, .int .i64 most, .int .i64 least] 24)).alloc (.cells #[.int .i64 per, .int .i64 due, .int .i64 filed, .int .i64 inc, .int .i64 wh] 26)).alloc (.cells #[.int .i64 0, .int .i64 0, .int .i64 0, .int .i64 0] 33)) (w.heap.size + 1) per due filed inc wh := by
    unfold RBox; rw [Below.heap_alloc _ _ _ (by simp)]
    have := heap_alloc_new (w.alloc (.cells #[.slice A l.length c, .int .i64 ded, .int .i64 cred, .int .i64 lbp, .int .i64 most, .int .i64 least] 24)) (.cells #[.int .i64 per, .int .i64 due, .int .i64 filed, .int .i64 inc, .int .i64 wh] 26)
    simpa using this
  have hz0 : ZBox (((w.alloc (.cells #[.slice A l.length c, .int .i64 ded, .int .i64 cred, .int .i64 lbp, .int .i64 most, .int .i64 least] 24)).alloc (.cells #[.int .i64 per, .int .i64 due, .int .i64 filed, .int .i64 inc, .int .i64 wh] 26)).alloc (.cells #[.int .i64 0, .int .i64 0, .int .i64 0, .int .i64 0] 33)) (w.heap.size + 1 + 1) 0 0 0 0 := by
    unfold ZBox
    have := heap_alloc_new ((w.alloc (.cells #[.slice A l.length c, .int .i64 ded, .int .i64 cred, .int .i64 lbp, .int .i64 most, .int .i64 least] 24)).alloc (.cells #[.int .i64 per, .int .i64 due, .int .i64 filed, .int .i64 inc, .int .i64 wh] 26)) (.cells #[.int .i64 0, .int .i64 0, .int .i64 0, .int .i64 0] 33)
    simpa using this
  have hb0 : Below w.heap.size w (((w.alloc (.cells #[.slice A l.length c, .int .i64 ded, .int .i64 cred, .int .i64 lbp, .int .i64 most, .int .i64 least] 24)).alloc (.cells #[.int .i64 per, .int .i64 due, .int .i64 filed, .int .i64 inc, .int .i64 wh] 26)).alloc (.cells #[.int .i64 0, .int .i64 0, .int .i64 0, .int .i64 0] 33)) :=
    (((Below.refl _ _).alloc (Nat.le_refl _) _).alloc (by simp) _).alloc (by simp; omega) _
  have HS0 := Lib.hid hs0; have HR0 := Lib.hid hr0; have HZ0 := Lib.hid hz0; have HB0 := Lib.hid hb0
  clear hs0 hr0 hz0 hb0
  go_enter Try.func5, Try.ntmps5
  go_wp2_with fail
  refine (KT.out _ ((h.below HB0.out (Nat.le_refl _)).more HB0.out.size)).mono ?_
  rintro e w1 ⟨⟨t, t0, t1, rfl⟩, hb1⟩
  have hb01 := HB0.out.trans (hb1.mono HB0.out.size)
  have HS1 := Lib.hid (HS0.out.on hb1); have HR1 := Lib.hid (HR0.out.on hb1); have HZ1 := Lib.hid (HZ0.out.on hb1)
  have r0 := cell_of_row w1 (w.heap.size + 1) 0 _ _ (0, 0) HR1.out
  have r1 := cell_of_row w1 (w.heap.size + 1) 1 _ _ (0, 0) HR1.out
  have r2 := cell_of_row w1 (w.heap.size + 1) 2 _ _ (0, 0) HR1.out
  have r3 := cell_of_row w1 (w.heap.size + 1) 3 _ _ (0, 0) HR1.out
  have r4 := cell_of_row w1 (w.heap.size + 1) 4 _ _ (0, 0) HR1.out
  simp at r0 r1 r2 r3 r4
  clear hb1
  go_wp2_with fail
  refine (KR.out _).mono ?_
  rintro e w2 ⟨rfl, hb2⟩
  have hb02 := hb01.trans (hb2.mono hb01.size)
  have HS2 := Lib.hid (HS1.out.on hb2); have HR2 := Lib.hid (HR1.out.on hb2); have HZ2 := Lib.hid (HZ1.out.on hb2)
  clear r0 r1 r2 r3 r4 hb2 hb01
  have r0 := cell_of_row w2 (w.heap.size + 1) 0 _ _ (0, 0) HR2.out
  have r1 := cell_of_row w2 (w.heap.size + 1) 1 _ _ (0, 0) HR2.out
  have r2 := cell_of_row w2 (w.heap.size + 1) 2 _ _ (0, 0) HR2.out
  have r3 := cell_of_row w2 (w.heap.size + 1) 3 _ _ (0, 0) HR2.out
  have r4 := cell_of_row w2 (w.heap.size + 1) 4 _ _ (0, 0) HR2.out
  simp at r0 r1 r2 r3 r4
  have hz2 := hb02.size
  have hlt2 := heap_lt HZ2.out
  obtain ⟨P, hP⟩ : ∃ P, max (t - wh) 0 = P := ⟨_, rfl⟩
  obtain ⟨X, hX⟩ : ∃ X, max (wh - t) 0 = X := ⟨_, rfl⟩
  have hP0 : 0 ≤ P := by omega
  have hP1 : P ≤ 2251799813685248 := by omega
  have hltR : w.heap.size + 1 < w2.heap.size := by omega
  have hltS : w.heap.size < w2.heap.size := by omega
  have hg : ZBox (w2.alloc (.cells #[.int .i64 t, .int .i64 P, .int .i64 0, .int .i64 X] 33)) w2.heap.size t P 0 X := heap_alloc_new w2 _
  have HG := Lib.hid hg; clear hg
  have hba : Below w2.heap.size w2 (w2.alloc (.cells #[.int .i64 t, .int .i64 P, .int .i64 0, .int .i64 X] 33)) := (Below.refl _ _).alloc (Nat.le_refl _) _
  have HS2a := Lib.hid (HS2.out.on hba); have HZ2a := Lib.hid (HZ2.out.on hba)
  have hb02a := hb02.trans (hba.mono hz2)
  clear hba
  go_wp2_with fail
  refine (KL.out _).mono ?_
  rintro e w3 ⟨⟨L, hL, L0, L1, rfl⟩, hb3⟩
  have HL := Lib.hid hL; clear hL
  have HS3 := Lib.hid (HS2a.out.on hb3); have HZ3 := Lib.hid (HZ2a.out.on hb3); have HG3 := Lib.hid (HG.out.on hb3)
  have hb03 := hb02a.trans (hb3.mono hb02a.size)
  clear r0 r1 r2 r3 r4 hb3
  have g0 := cell_of_row w3 w2.heap.size 0 _ _ (0, 0) HG3.out
  have g1 := cell_of_row w3 w2.heap.size 1 _ _ (0, 0) HG3.out
  have g2 := cell_of_row w3 w2.heap.size 2 _ _ (0, 0) HG3.out
  have g3 := cell_of_row w3 w2.heap.size 3 _ _ (0, 0) HG3.out
  simp at g0 g1 g2 g3
  have z0 := cell_of_row w3 (w.heap.size + 1 + 1) 0 _ _ (0, 0) HZ3.out
  have z1 := cell_of_row w3 (w.heap.size + 1 + 1) 1 _ _ (0, 0) HZ3.out
  have z2 := cell_of_row w3 (w.heap.size + 1 + 1) 2 _ _ (0, 0) HZ3.out
  have z3 := cell_of_row w3 (w.heap.size + 1 + 1) 3 _ _ (0, 0) HZ3.out
  simp at z0 z1 z2 z3
  have fz0 := frozen_of_row w3 (w.heap.size + 1 + 1) 0 _ _ HZ3.out
  have fz1 := frozen_of_row w3 (w.heap.size + 1 + 1) 1 _ _ HZ3.out
  have fz2 := frozen_of_row w3 (w.heap.size + 1 + 1) 2 _ _ HZ3.out
  have fz3 := frozen_of_row w3 (w.heap.size + 1 + 1) 3 _ _ HZ3.out
  have s3 := HS3.out.c3
  have s4 := HS3.out.c4
  by_cases hPp : 0 < P
  · by_cases hLp : 0 < L
    · obtain ⟨M, hM⟩ : ∃ M, min L most = M := ⟨_, rfl⟩
      obtain ⟨Y, hY⟩ : ∃ Y, lbp * M = Y := ⟨_, rfl⟩
      obtain ⟨x0, x1⟩ := prod_bd (lbp := lbp) (M := M) l0 l1 (by omega) (by omega)
      rw [hY] at x0 x1
      obtain ⟨q, hq⟩ : ∃ q, q = mulV P Y := ⟨_, rfl⟩
      have K := Lib.hid (muldiv_z P Y hP0 (by omega) x0 (by omega) q hq)
      have e : penV lbp most least P L = min (max q least) P := by
        unfold penV; rw [if_pos ⟨hPp, hLp⟩, hM, hY, hq]
      have HR : Hid (BillOf lbp most least due filed wh (.returned (.tuple #[.agg #[.int .i64 t, .int .i64 P, .int .i64 (min (max q least) P), .int .i64 X], .int .i64 0]))) := Lib.hid ⟨t, L, t0, t1, HL.out, L0, L1, by rw [hP, e, hX]⟩
      obtain ⟨q0, q1⟩ := mulV_bd P Y
      rw [← hq] at q0 q1
      clear hq e
      go_wp2_with fail
      refine (K.out _).mono ?_
      rintro e w4 ⟨⟨x, rfl⟩, hb4⟩
      have hb04 := hb03.trans (hb4.mono hb03.size)
      have HS4 := Lib.hid (HS3.out.on hb4); have HZ4 := Lib.hid (HZ3.out.on hb4); have HG4 := Lib.hid (HG3.out.on hb4)
      clear g0 g1 g2 g3 z0 z1 z2 z3 fz0 fz1 fz2 fz3 s3 s4 hb4
      have g0 := cell_of_row w4 w2.heap.size 0 _ _ (0, 0) HG4.out
      have g1 := cell_of_row w4 w2.heap.size 1 _ _ (0, 0) HG4.out
      have g2 := cell_of_row w4 w2.heap.size 2 _ _ (0, 0) HG4.out
      have g3 := cell_of_row w4 w2.heap.size 3 _ _ (0, 0) HG4.out
      simp at g0 g1 g2 g3
      have z0 := cell_of_row w4 (w.heap.size + 1 + 1) 0 _ _ (0, 0) HZ4.out
      have z1 := cell_of_row w4 (w.heap.size + 1 + 1) 1 _ _ (0, 0) HZ4.out
      have z2 := cell_of_row w4 (w.heap.size + 1 + 1) 2 _ _ (0, 0) HZ4.out
      have z3 := cell_of_row w4 (w.heap.size + 1 + 1) 3 _ _ (0, 0) HZ4.out
      simp at z0 z1 z2 z3
      have fz0 := frozen_of_row w4 (w.heap.size + 1 + 1) 0 _ _ HZ4.out
      have fz1 := frozen_of_row w4 (w.heap.size + 1 + 1) 1 _ _ HZ4.out
      have fz2 := frozen_of_row w4 (w.heap.size + 1 + 1) 2 _ _ HZ4.out
      have fz3 := frozen_of_row w4 (w.heap.size + 1 + 1) 3 _ _ HZ4.out
      have fg2 := frozen_of_row w4 w2.heap.size 2 _ _ HG4.out
      have s5 := HS4.out.c5
      have hne : w.heap.size + 1 + 1 ≠ w2.heap.size := by omega
      obtain ⟨V, hV⟩ : ∃ V, min (max q least) P = V := ⟨_, rfl⟩
      rw [hV] at HR
      go_wp2_with fail
      refine bodyPost_ret (results_c2 rfl _ _ (w.heap.size + 1 + 1) 33 #[.int .i64 t, .int .i64 P, .int .i64 V, .int .i64 X] (0, 0) _ rfl ?hg Try.underlying33 rfl bill_size) rfl ?_
      case hg => exact heap_set4 ((Below.heap_setCell w4 _ _ _ hne).trans HZ4.out)
      exact ⟨HR.out, ((((hb04.setCell (by show w.heap.size ≤ w2.heap.size; omega) _).setCell (by show w.heap.size ≤ w.heap.size + 1 + 1; omega) _).setCell (by show w.heap.size ≤ w.heap.size + 1 + 1; omega) _).setCell (by show w.heap.size ≤ w.heap.size + 1 + 1; omega) _).setCell (by show w.heap.size ≤ w.heap.size + 1 + 1; omega) _⟩
    · have HR : Hid (BillOf lbp most least due filed wh (.returned (.tuple #[.agg #[.int .i64 t, .int .i64 P, .int .i64 0, .int .i64 X], .int .i64 0]))) := Lib.hid ⟨t, L, t0, t1, HL.out, L0, L1, by rw [hP, hX]; unfold penV; rw [if_neg (fun h => hLp h.2)]⟩
      go_wp2_with fail
      refine bodyPost_ret (results_c2 rfl _ _ (w.heap.size + 1 + 1) 33 #[.int .i64 t, .int .i64 P, .int .i64 0, .int .i64 X] (0, 0) _ rfl ?hg Try.underlying33 rfl bill_size) rfl ?_
      case hg => exact heap_set4 HZ3.out
      exact ⟨HR.out, (((hb03.setCell (by show w.heap.size ≤ w.heap.size + 1 + 1; omega) _).setCell (by show w.heap.size ≤ w.heap.size + 1 + 1; omega) _).setCell (by show w.heap.size ≤ w.heap.size + 1 + 1; omega) _).setCell (by show w.heap.size ≤ w.heap.size + 1 + 1; omega) _⟩
  · have HR : Hid (BillOf lbp most least due filed wh (.returned (.tuple #[.agg #[.int .i64 t, .int .i64 P, .int .i64 0, .int .i64 X], .int .i64 0]))) := Lib.hid ⟨t, L, t0, t1, HL.out, L0, L1, by rw [hP, hX]; unfold penV; rw [if_neg (fun h => hPp h.1)]⟩
    go_wp2_with fail
    refine bodyPost_ret (results_c2 rfl _ _ (w.heap.size + 1 + 1) 33 #[.int .i64 t, .int .i64 P, .int .i64 0, .int .i64 X] (0, 0) _ rfl ?hg Try.underlying33 rfl bill_size) rfl ?_
    case hg => exact heap_set4 HZ3.out
    exact ⟨HR.out, (((hb03.setCell (by show w.heap.size ≤ w.heap.size + 1 + 1; omega) _).setCell (by show w.heap.size ≤ w.heap.size + 1 + 1; omega) _).setCell (by show w.heap.size ≤ w.heap.size + 1 + 1; omega) _).setCell (by show w.heap.size ≤ w.heap.size + 1 + 1; omega) _⟩
end Go.Proofs.Ytkgoaodpjeonnaa
