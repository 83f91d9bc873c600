/- Contracts: are all numbers of a row within bounds (num.is, rates.money, assess.day); MulDiv of numbers from 0 on. -/
import Derived.Test.YtkgoaodpjeonnaaDivA
import Derived.Below
import Derived.Laws.Rows
namespace Go.Proofs.Ytkgoaodpjeonnaa
open Go.RowKit

def allIn (lo hi : Int) (l : List Int) : Bool := l.all (fun a => decide (lo ≤ a) && decide (a ≤ hi))
theorem allIn_iff {lo hi : Int} {l : List Int} : allIn lo hi l = true ↔ ∀ a ∈ l, lo ≤ a ∧ a ≤ hi := by unfold allIn; simp
/-- Block g holds these numbers. -/
def Holds (w : World) (g : Nat) (l : List Int) : Prop := ∃ T fr, w.heap[g]? = some (.cells (l.map (Value.int .i64)).toArray T fr)
theorem Holds.cell {w : World} {g : Nat} {l : List Int} (h : Holds w g l) (k : Nat) (hk : k < l.length) : w.cell? ⟨g, k, none⟩ = some (.int .i64 l[k]) := by
  obtain ⟨T, fr, h⟩ := h
  rw [cell_of_row w g k _ T fr h]
  simp [hk]
theorem holds_new (w : World) (l : List Int) (T : TypeId) : Holds (w.alloc (.cells (l.map (Value.int .i64)).toArray T)) w.heap.size l := ⟨T, (0, 0), heap_alloc_new w _⟩
theorem ret_bo {a b : Bool} (h : a = b) : Ending.returned (.bool a) = .returned (.bool b) := by rw [h]
set_option maxHeartbeats 400000 in
theorem is_any (g : Nat) (l : List Int) (hl : l.length ≤ 100) (w : World) (h : Holds w g l) :
    Calls Try.prog 30 #[.slice (some ⟨g, 0, none⟩) l.length l.length] w fun e w' => e = .returned (.bool (allIn (-4611686018427387904) 4611686018427387904 l)) ∧ w = w' := by
  go_enter Try.func30, Try.ntmps30
  go_wp2
  go_loop [4, 7] (fun _ i => ∃ k : Nat, k ≤ l.length ∧ i = .int .i64 (k : Int) ∧ Hid (∀ a ∈ l.take k, (-4611686018427387904 : Int) ≤ a ∧ a ≤ 4611686018427387904)) (fun _ i => l.length - (intOf i).toNat)
  case atStart => exact ⟨0, by omega, rfl, Lib.hid (by simp)⟩
  case round =>
    obtain ⟨k, hk, rfl, HI⟩ := hrel
    by_cases hlt : k < l.length
    · have hc := h.cell k hlt
      obtain ⟨x, hx⟩ : ∃ x, x = l[k] := ⟨_, rfl⟩
      rw [← hx] at hc
      have hmem : x ∈ l := by rw [hx]; exact List.getElem_mem _
      have HX := Lib.hid hx; clear hx
      have hno : ¬ ((-4611686018427387904 : Int) ≤ x ∧ x ≤ 4611686018427387904) → allIn (-4611686018427387904) 4611686018427387904 l = false := fun hn => by
        cases ha : allIn (-4611686018427387904) 4611686018427387904 l with
        | false => rfl
        | true => exact absurd (allIn_iff.1 ha x hmem) hn
      by_cases t1 : x < -4611686018427387904
      · have HE := Lib.hid (hno (by omega))
        clear hno hmem
        go_wp2
        go_ret
        exact ⟨ret_bo HE.out.symm, rfl⟩
      · by_cases t2 : 4611686018427387904 < x
        · have HE := Lib.hid (hno (by omega))
          clear hno hmem
          go_wp2
          go_ret
          exact ⟨ret_bo HE.out.symm, rfl⟩
        · have HN : Hid (∀ a ∈ l.take (k + 1), (-4611686018427387904 : Int) ≤ a ∧ a ≤ 4611686018427387904) := Lib.hid (fun a ha => by
            rw [List.take_succ_eq_append_getElem hlt, List.mem_append] at ha
            rcases ha with ha | ha
            · exact HI.out a ha
            · simp at ha; rw [ha, ← HX.out]; omega)
          clear hno hmem
          go_wp2
          go_round
          case rel => exact ⟨k + 1, by omega, by go_num, HN⟩
          case measure => simp [intOf]; omega
    · have HE : Hid (allIn (-4611686018427387904) 4611686018427387904 l = true) := Lib.hid (allIn_iff.2 (by
        have := HI.out
        rw [List.take_of_length_le (by omega)] at this
        exact this))
      go_wp2
      go_ret
      exact ⟨ret_bo HE.out.symm, rfl⟩
set_option maxHeartbeats 400000 in
theorem money_any (g : Nat) (l : List Int) (hl : l.length ≤ 100) (w : World) (h : Holds w g l) :
    Calls Try.prog 41 #[.slice (some ⟨g, 0, none⟩) l.length l.length] w fun e w' => e = .returned (.bool (allIn (0) 1125899906842624 l)) ∧ w = w' := by
  go_enter Try.func41, Try.ntmps41
  go_wp2
  go_loop [4, 7] (fun _ i => ∃ k : Nat, k ≤ l.length ∧ i = .int .i64 (k : Int) ∧ Hid (∀ a ∈ l.take k, (0 : Int) ≤ a ∧ a ≤ 1125899906842624)) (fun _ i => l.length - (intOf i).toNat)
  case atStart => exact ⟨0, by omega, rfl, Lib.hid (by simp)⟩
  case round =>
    obtain ⟨k, hk, rfl, HI⟩ := hrel
    by_cases hlt : k < l.length
    · have hc := h.cell k hlt
      obtain ⟨x, hx⟩ : ∃ x, x = l[k] := ⟨_, rfl⟩
      rw [← hx] at hc
      have hmem : x ∈ l := by rw [hx]; exact List.getElem_mem _
      have HX := Lib.hid hx; clear hx
      have hno : ¬ ((0 : Int) ≤ x ∧ x ≤ 1125899906842624) → allIn (0) 1125899906842624 l = false := fun hn => by
        cases ha : allIn (0) 1125899906842624 l with
        | false => rfl
        | true => exact absurd (allIn_iff.1 ha x hmem) hn
      by_cases t1 : x < 0
      · have HE := Lib.hid (hno (by omega))
        clear hno hmem
        go_wp2
        go_ret
        exact ⟨ret_bo HE.out.symm, rfl⟩
      · by_cases t2 : 1125899906842624 < x
        · have HE := Lib.hid (hno (by omega))
          clear hno hmem
          go_wp2
          go_ret
          exact ⟨ret_bo HE.out.symm, rfl⟩
        · have HN : Hid (∀ a ∈ l.take (k + 1), (0 : Int) ≤ a ∧ a ≤ 1125899906842624) := Lib.hid (fun a ha => by
            rw [List.take_succ_eq_append_getElem hlt, List.mem_append] at ha
            rcases ha with ha | ha
            · exact HI.out a ha
            · simp at ha; rw [ha, ← HX.out]; omega)
          clear hno hmem
          go_wp2
          go_round
          case rel => exact ⟨k + 1, by omega, by go_num, HN⟩
          case measure => simp [intOf]; omega
    · have HE : Hid (allIn (0) 1125899906842624 l = true) := Lib.hid (allIn_iff.2 (by
        have := HI.out
        rw [List.take_of_length_le (by omega)] at this
        exact this))
      go_wp2
      go_ret
      exact ⟨ret_bo HE.out.symm, rfl⟩
set_option maxHeartbeats 400000 in
theorem day_any (g : Nat) (l : List Int) (hl : l.length ≤ 100) (w : World) (h : Holds w g l) :
    Calls Try.prog 42 #[.slice (some ⟨g, 0, none⟩) l.length l.length] w fun e w' => e = .returned (.bool (allIn (0) 3652058 l)) ∧ w = w' := by
  go_enter Try.func42, Try.ntmps42
  go_wp2
  go_loop [4, 7] (fun _ i => ∃ k : Nat, k ≤ l.length ∧ i = .int .i64 (k : Int) ∧ Hid (∀ a ∈ l.take k, (0 : Int) ≤ a ∧ a ≤ 3652058)) (fun _ i => l.length - (intOf i).toNat)
  case atStart => exact ⟨0, by omega, rfl, Lib.hid (by simp)⟩
  case round =>
    obtain ⟨k, hk, rfl, HI⟩ := hrel
    by_cases hlt : k < l.length
    · have hc := h.cell k hlt
      obtain ⟨x, hx⟩ : ∃ x, x = l[k] := ⟨_, rfl⟩
      rw [← hx] at hc
      have hmem : x ∈ l := by rw [hx]; exact List.getElem_mem _
      have HX := Lib.hid hx; clear hx
      have hno : ¬ ((0 : Int) ≤ x ∧ x ≤ 3652058) → allIn (0) 3652058 l = false := fun hn => by
        cases ha : allIn (0) 3652058 l with
        | false => rfl
        | true => exact absurd (allIn_iff.1 ha x hmem) hn
      by_cases t1 : x < 0
      · have HE := Lib.hid (hno (by omega))
        clear hno hmem
        go_wp2
        go_ret
        exact ⟨ret_bo HE.out.symm, rfl⟩
      · by_cases t2 : 3652058 < x
        · have HE := Lib.hid (hno (by omega))
          clear hno hmem
          go_wp2
          go_ret
          exact ⟨ret_bo HE.out.symm, rfl⟩
        · have HN : Hid (∀ a ∈ l.take (k + 1), (0 : Int) ≤ a ∧ a ≤ 3652058) := Lib.hid (fun a ha => by
            rw [List.take_succ_eq_append_getElem hlt, List.mem_append] at ha
            rcases ha with ha | ha
            · exact HI.out a ha
            · simp at ha; rw [ha, ← HX.out]; omega)
          clear hno hmem
          go_wp2
          go_round
          case rel => exact ⟨k + 1, by omega, by go_num, HN⟩
          case measure => simp [intOf]; omega
    · have HE : Hid (allIn (0) 3652058 l = true) := Lib.hid (allIn_iff.2 (by
        have := HI.out
        rw [List.take_of_length_le (by omega)] at this
        exact this))
      go_wp2
      go_ret
      exact ⟨ret_bo HE.out.symm, rfl⟩

theorem size_any (a : Nat) (ha : a ≤ 4611686018427387904) (w : World) :
    Calls Try.prog 45 #[.int .i64 (a : Int)] w fun e w' => e = .returned (.tuple #[.int .u64 (a : Int), .bool false]) ∧ w = w' := by
  go_enter Try.func45, Try.ntmps45
  go_wp2
  go_ret2
  exact ⟨rfl, rfl⟩
end Go.Proofs.Ytkgoaodpjeonnaa
