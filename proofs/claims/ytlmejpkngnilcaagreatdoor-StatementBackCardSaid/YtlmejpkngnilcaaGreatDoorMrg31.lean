/- Parts of the proof, one behind the other: Contracts of cmp.Compare, cmp.Or (at ints), alloc.within, alloc.order. -/
import Derived.Test.YtlmejpkngnilcaaGreatDoorMrg29
import Derived.Test.YtlmejpkngnilcaaGreatDoorMrg02
import Derived.Test.YtlmejpkngnilcaaGreatDoorMrg30
import Derived.Shelf.SlSortCmp.NoneTotal
import Derived.RegionCalls
import Derived.Test.YtlmejpkngnilcaaGreatDoorMrg15
namespace Go.Proofs.YtlmejpkngnilcaaGreatDoor
open Go.RowKit Go.Sort

def cmpI (x y : Int) : Int := if x < y then -1 else if y < x then 1 else 0
def orI : List Int → Int
  | [] => 0
  | x :: l => if x = 0 then orI l else x
theorem orI_cons (x : Int) (l : List Int) : orI (x :: l) = if x = 0 then orI l else x := rfl
theorem cmpI_eq (x y : Int) : Lib.compareInt x y = cmpI x y := by
  unfold Lib.compareInt cmpI
  by_cases h1 : x < y
  · simp [h1]
  · by_cases h2 : y < x <;> simp [h1, h2]
theorem cmp_any (x y : Int) (w : World) : Calls Tryz.prog 100 #[.int .i64 x, .int .i64 y] w fun e w' => e = .returned (.int .i64 (cmpI x y)) ∧ w' = w := by
  rw [← cmpI_eq]
  exact Tryz.cmp_Compare_int x y w
theorem or_any (g c : Nat) (l : List Int) (hl : l.length ≤ 1000) (w : World) (h : HoldsI w g l) :
    Calls Tryz.prog 99 #[.slice (some ⟨g, 0, none⟩) l.length c] w fun e w' => e = .returned (.int .i64 (orI l)) ∧ w' = w := by
  go_enter Tryz.func99, Tryz.ntmps99
  go_wp2
  go_loop [8] (fun i => ∃ k : Nat, k ≤ l.length ∧ i = .int .i64 (k : Int) ∧ Hid (orI (l.drop k) = orI l)) (fun i => l.length - (intOf i).toNat)
  case atStart => exact ⟨0, by omega, rfl, Lib.hid rfl⟩
  case round =>
    obtain ⟨k, hk, rfl, HI⟩ := hrel
    by_cases hlt : k < l.length
    · have hc := h k hlt
      have hd : l.drop k = l[k] :: l.drop (k + 1) := List.drop_eq_getElem_cons hlt
      obtain ⟨x, hx⟩ : ∃ x, x = l[k] := ⟨_, rfl⟩
      rw [← hx] at hc hd
      clear hx
      by_cases hx0 : x = 0
      · have HJ : Hid (orI (l.drop (k + 1)) = orI l) := Lib.hid (by rw [← HI.out, hd]; rw [orI_cons, if_pos hx0])
        clear hd
        subst hx0
        go_wp2
        go_round
        case rel => exact ⟨k + 1, by omega, by go_num, HJ⟩
        case measure => simp [intOf]; omega
      · have HJ : Hid (orI l = x) := Lib.hid (by rw [← HI.out, hd]; rw [orI_cons, if_neg hx0])
        clear hd
        have d1 : (x == 0) = false := by simpa using hx0
        have d2 : (x != 0) = true := by simpa using hx0
        clear hx0
        go_wp2
        go_ret
        exact ⟨ret_i HJ.out.symm, rfl⟩
    · have HJ : Hid (orI l = 0) := Lib.hid (by rw [← HI.out, List.drop_eq_nil_of_le (by omega)]; rfl)
      go_wp2
      go_ret
      exact ⟨ret_i HJ.out.symm, rfl⟩
/-- The order of two items. -/
def ordI (a b : It) : Int := orI [cmpI a.due b.due, cmpI a.kind b.kind, cmpI a.period b.period]
theorem grow_drewN (w : World) (os : Array Obj) (n : Nat) : (grow w os).drewN n = grow (w.drewN n) os := rfl
theorem grow_order (w : World) (a b c : Obj) (n m : Nat) : ∃ q os, ((((w.alloc a).alloc b).drewN n).alloc c).drewN m = grow (w.drewN q) os := by
  refine ⟨n + m, #[a] ++ #[b] ++ #[c], ?_⟩
  simp only [alloc_eq_grow, grow_drewN, World.drewN_drewN, grow_grow]
set_option maxHeartbeats 1000000 in
set_option maxRecDepth 100000 in
theorem order_any (a b : It) (w : World) : Calls Tryz.prog 72 #[.agg #[.int .i64 a.due, .int .i64 a.kind, .int .i64 a.period, .int .i64 a.open_], .agg #[.int .i64 b.due, .int .i64 b.kind, .int .i64 b.period, .int .i64 b.open_]] w
    fun e w' => e = .returned (.int .i64 (ordI a b)) ∧ ∃ q os, w' = grow (w.drewN q) os := by
  obtain ⟨x, hx⟩ : ∃ x, x = cmpI a.due b.due := ⟨_, rfl⟩
  obtain ⟨y, hy⟩ : ∃ y, y = cmpI a.kind b.kind := ⟨_, rfl⟩
  obtain ⟨z, hz⟩ : ∃ z, z = cmpI a.period b.period := ⟨_, rfl⟩
  have E : Hid (ordI a b = orI [x, y, z]) := Lib.hid (by rw [hx, hy, hz]; rfl)
  have C1 := Lib.hid (fun w => cmp_any a.due b.due w)
  have C2 := Lib.hid (fun w => cmp_any a.kind b.kind w)
  have C3 := Lib.hid (fun w => cmp_any a.period b.period w)
  rw [← hx] at C1; rw [← hy] at C2; rw [← hz] at C3
  clear hx hy hz
  obtain ⟨a1, a2, a3, a4⟩ := a
  obtain ⟨b1, b2, b3, b4⟩ := b
  simp only at C1 C2 C3 ⊢
  go_enter Tryz.func72, Tryz.ntmps72
  go_wp2_with fail
  obtain ⟨W, hW, f0, f1, f2, g0, g1, g2, hs⟩ : ∃ W : World, ((w.alloc (.cells #[.int .i64 a1, .int .i64 a2, .int .i64 a3, .int .i64 a4] 53)).alloc (.cells #[.int .i64 b1, .int .i64 b2, .int .i64 b3, .int .i64 b4] 53)).drew = W ∧
      W.cell? ⟨w.heap.size, 0, none⟩ = some (.int .i64 a1) ∧ W.cell? ⟨w.heap.size, 1, none⟩ = some (.int .i64 a2) ∧ W.cell? ⟨w.heap.size, 2, none⟩ = some (.int .i64 a3) ∧
      W.cell? ⟨w.heap.size + 1, 0, none⟩ = some (.int .i64 b1) ∧ W.cell? ⟨w.heap.size + 1, 1, none⟩ = some (.int .i64 b2) ∧ W.cell? ⟨w.heap.size + 1, 2, none⟩ = some (.int .i64 b3) ∧ W.heap.size = w.heap.size + 1 + 1 := by
    refine ⟨_, rfl, ?_, ?_, ?_, ?_, ?_, ?_, ?_⟩ <;> simp [World.cell?_drew]
  refine region_still_tail 15 (by kernel_rfl) (by kernel_rfl) hW ?_
  simp only [List.take_succ_cons, List.take_zero, List.drop_succ_cons, List.drop_zero]
  have HW := Lib.hid hW
  have HS := Lib.hid hs
  clear hW hs
  repeat still_step
  still_call (C1.out _)
  repeat still_step
  still_call (C2.out _)
  repeat still_step
  still_call (C3.out _)
  repeat still_step
  refine wpStill_nil ?_
  go_wp2_with fail
  have HH : Hid (HoldsI (W.alloc (.cells #[.int .i64 x, .int .i64 y, .int .i64 z] 3)) W.heap.size [x, y, z]) := Lib.hid (fun k hk => by
    match k, hk with
    | 0, _ => simp
    | 1, _ => simp
    | 2, _ => simp)
  refine (or_any W.heap.size 3 [x, y, z] (by simp) _ HH.out).mono ?_
  rintro e w' ⟨rfl, rfl⟩
  go_wp2_with fail
  go_ret
  refine ⟨ret_i E.out.symm, ?_⟩
  rw [← HW.out]
  exact grow_order w _ _ _ 1 0
end Go.Proofs.YtlmejpkngnilcaaGreatDoor
