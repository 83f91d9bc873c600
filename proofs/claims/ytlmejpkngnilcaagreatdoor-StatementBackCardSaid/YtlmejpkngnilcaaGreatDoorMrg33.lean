/- Parts of the proof, one behind the other: Contracts of alloc.within and of the comparison in alloc.places. -/
import Derived.Test.YtlmejpkngnilcaaGreatDoorMrg31
import Derived.Test.YtlmejpkngnilcaaGreatDoorMrg02
import Derived.Test.YtlmejpkngnilcaaGreatDoorMrg32
namespace Go.Proofs.YtlmejpkngnilcaaGreatDoor
open Go.RowKit
open Go.Sort (grow putRow Holds SWO alloc_eq_grow grow_grow)

theorem itn : IT Tryz.prog 90 3 := ⟨Tryz.underlying90, Tryz.underlying3, by kernel_rfl⟩
def wi (n lo hi : Int) : Bool := decide (lo ≤ n) && decide (n ≤ hi)
theorem within_any (n lo hi : Int) (b : Bool) (hb : wi n lo hi = b) (w : World) : Calls Tryz.prog 68 #[.int .i64 n, .int .i64 lo, .int .i64 hi] w fun e w' => e = .returned (.bool b) ∧ w' = w := by
  by_cases h1 : lo ≤ n
  · by_cases h2 : n ≤ hi
    · have E : Hid (b = true) := Lib.hid (by rw [← hb]; simp [wi, h1, h2])
      clear hb
      go_enter Tryz.func68, Tryz.ntmps68
      go_wp2
      go_ret
      exact ⟨ret_bo E.out.symm, rfl⟩
    · have E : Hid (b = false) := Lib.hid (by rw [← hb]; simp [wi, h2])
      clear hb
      go_enter Tryz.func68, Tryz.ntmps68
      go_wp2
      go_ret
      exact ⟨ret_bo E.out.symm, rfl⟩
  · have E : Hid (b = false) := Lib.hid (by rw [← hb]; simp [wi, h1])
    clear hb
    go_enter Tryz.func68, Tryz.ntmps68
    go_wp2
    go_ret
    exact ⟨ret_bo E.out.symm, rfl⟩
theorem within64_any (n lo hi : Int) (b : Bool) (hb : wi n lo hi = b) (w : World) : Calls Tryz.prog 69 #[.int .i64 n, .int .i64 lo, .int .i64 hi] w fun e w' => e = .returned (.bool b) ∧ w' = w := by
  by_cases h1 : lo ≤ n
  · by_cases h2 : n ≤ hi
    · have E : Hid (b = true) := Lib.hid (by rw [← hb]; simp [wi, h1, h2])
      clear hb
      go_enter Tryz.func69, Tryz.ntmps69
      go_wp2
      go_ret
      exact ⟨ret_bo E.out.symm, rfl⟩
    · have E : Hid (b = false) := Lib.hid (by rw [← hb]; simp [wi, h2])
      clear hb
      go_enter Tryz.func69, Tryz.ntmps69
      go_wp2
      go_ret
      exact ⟨ret_bo E.out.symm, rfl⟩
  · have E : Hid (b = false) := Lib.hid (by rw [← hb]; simp [wi, h1])
    clear hb
    go_enter Tryz.func69, Tryz.ntmps69
    go_wp2
    go_ret
    exact ⟨ret_bo E.out.symm, rfl⟩
theorem RdT.row {w : World} {B : Nat} {A : Option Addr} {m : List It} (h : RdT w B A m) (hm : 0 < m.length) : ∃ b off, A = some ⟨b, off, none⟩ ∧ b < B ∧ ∀ k (hk : k < m.length),
    w.cell? ⟨b, off + k * 4, none⟩ = some (.int .i64 m[k].due) ∧ w.cell? ⟨b, off + k * 4 + 1, none⟩ = some (.int .i64 m[k].kind) ∧ w.cell? ⟨b, off + k * 4 + 2, none⟩ = some (.int .i64 m[k].period) ∧
    w.cell? ⟨b, off + k * 4 + 3, none⟩ = some (.int .i64 m[k].open_) := by
  obtain ⟨b, off, hA, hb, hc⟩ := rows_at It.cells 4 (fun _ => rfl) (by omega) h hm
  exact ⟨b, off, hA, hb, fun k hk => ⟨hc k hk 0 _ rfl, hc k hk 1 _ rfl, hc k hk 2 _ rfl, hc k hk 3 _ rfl⟩⟩
set_option maxHeartbeats 1000000 in
set_option maxRecDepth 100000 in
theorem place1_any (l : List It) (A : Option Addr) (c B i j : Nat) (hi : i < l.length) (hj : j < l.length) (W : World) (hb : W.cell? ⟨B, 0, none⟩ = some (.slice A l.length c)) (hl : l.length ≤ 200) (h : RdT W W.heap.size A l) :
    Calls Tryz.prog 71 #[.int .i64 (i : Int), .int .i64 (j : Int), .pointer (some ⟨B, 0, none⟩)] W fun e w' => e = .returned (.int .i64 (ordI l[i] l[j])) ∧ ∃ q os, w' = grow (W.drewN q) os := by
  obtain ⟨b, off, rfl, _, hc⟩ := h.row (by omega)
  obtain ⟨x0, x1, x2, x3⟩ := hc i hi
  obtain ⟨y0, y1, y2, y3⟩ := hc j hj
  clear hc h
  obtain ⟨x, hx⟩ : ∃ x, x = l[i] := ⟨_, rfl⟩
  obtain ⟨y, hy⟩ : ∃ y, y = l[j] := ⟨_, rfl⟩
  rw [← hx] at x0 x1 x2 x3 ⊢
  rw [← hy] at y0 y1 y2 y3 ⊢
  clear hx hy
  go_enter Tryz.func71, Tryz.ntmps71
  go_wp2_with fail
  obtain ⟨V, hV⟩ : ∃ V : World, W.drew = V := ⟨_, rfl⟩
  have HV := Lib.hid hV
  have e : ∀ p, W.cell? p = V.cell? p := fun p => by rw [← hV]; rfl
  rw [e] at hb x0 x1 x2 x3 y0 y1 y2 y3
  clear e
  refine region_still_tail 8 (by kernel_rfl) (by kernel_rfl) hV ?_
  simp only [List.take_succ_cons, List.take_zero, List.drop_succ_cons, List.drop_zero]
  clear hV
  repeat still_step
  refine wpStill_nil ?_
  go_wp2_with fail
  refine (order_any x y V).mono ?_
  rintro e w' ⟨rfl, q, os, rfl⟩
  go_wp2_with fail
  go_ret
  refine ⟨rfl, q + 1, os, ?_⟩
  rw [← HV.out]
  show grow (((W.drewN 1)).drewN q) os = _
  rw [World.drewN_drewN, Nat.add_comm]
end Go.Proofs.YtlmejpkngnilcaaGreatDoor
