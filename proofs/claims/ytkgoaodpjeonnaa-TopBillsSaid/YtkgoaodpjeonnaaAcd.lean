/- Contracts: slices.Clone of periods, Payments of none, copied (an account with no period or one). -/
import Derived.Test.YtkgoaodpjeonnaaAcc
import Derived.Test.YtkgoaodpjeonnaaRwp
namespace Go.Proofs.Ytkgoaodpjeonnaa
open Go.RowKit

theorem perT : RT Try.prog 47 60 Per.cells 11 88 (.agg #[.int .i64 0, .int .i64 0, .int .i64 0, .int .i64 0, .int .i64 0, .int .i64 0, .int .i64 0, .int .i64 0, .int .i64 0, .int .i64 0, .int .i64 0]) :=
  ⟨Try.underlying47, by kernel_rfl, fun _ => rfl, fun a u hu => by simp [Per.cells] at hu; rcases hu with h | h | h | h | h | h | h | h | h | h | h <;> (subst h; rfl), by omega, rfl⟩
/-- One period, read. -/
theorem rd_one {w : World} {g : Nat} {p : Per} (h : PB w g p) : RwS Per.cells 11 w w.heap.size (some ⟨g, 0, none⟩) [p] := by
  have hl := h.lt
  obtain ⟨r, T, h⟩ := h
  refine RwS.of (f := Per.cells) (n := 11) (l := [p]) (fun _ => rfl) g 0 hl (fun k hk j u hj => ?_)
  obtain rfl : k = 0 := by simp at hk; exact hk
  have hj' : p.cells[j]? = some u := hj
  rw [cell_of_row w g _ _ T (0, 0) h]
  have hjl : j < p.cells.length := (List.getElem?_eq_some_iff.1 hj').1
  simp only [Nat.zero_mul, Nat.zero_add, List.getElem?_toArray]
  rw [List.getElem?_append_left hjl]
  exact hj'
/-- A row of the call's own that holds one period. -/
theorem OwnS.pb {w : World} {base : Nat} {A : Option Addr} {c : Nat} {p : Per} (h : OwnS Per.cells 11 w base 60 A c [p]) : ∃ g, A = some ⟨g, 0, none⟩ ∧ base ≤ g ∧ g < w.heap.size ∧ PB w g p := by
  have hcap : 1 ≤ c := h.cap
  obtain ⟨h1, h2⟩ := h
  rcases h2 with ⟨_, hn⟩ | ⟨g, cap, cur, hv, hg, hh, hc, hm, hsz, hx⟩
  · simp at hn
  · injection hv with hv
    subst hv
    refine ⟨g, rfl, hg, (Array.getElem?_eq_some_iff.1 hh).1, ?_⟩
    have e1 : cur.toList.take 11 = p.cells := by have := hx; simpa using this
    refine ⟨cur.toList.drop 11, 60, ?_⟩
    rw [← e1, List.take_append_drop]
    simpa using hh
theorem clone_nil (w : World) : Calls Try.prog 48 #[.slice none 0 0] w fun e w' => e = .returned (.slice none 0 0) ∧ w = w' := by
  have hq : (binOp .eql 47 (.slice none 0 0) (.slice none 0 0)).run Try.prog w = .ok (.bool true) w := Lib.run_eql_slice_nil w _ _ none 0 0 0 0 Try.underlying47
  go_enter Try.func48, Try.ntmps48
  go_wp2_with fail
  go_ret
  exact ⟨rfl, rfl⟩
def CloneOf (w : World) (p : Per) (e : Ending) (w' : World) : Prop := ∃ g c, e = .returned (.slice (some ⟨g, 0, none⟩) 1 c) ∧ w.heap.size ≤ g ∧ PB w' g p ∧ Below w.heap.size w w'
set_option maxHeartbeats 800000 in
theorem clone_one (g : Nat) (c : Nat) (p : Per) (w : World) (h : PB w g p) : Calls Try.prog 48 #[.slice (some ⟨g, 0, none⟩) 1 c] w (CloneOf w p) := by
  have hq : (binOp .eql 47 (.slice (some ⟨g, 0, none⟩) 1 c) (.slice none 0 0)).run Try.prog w = .ok (.bool false) w := Lib.run_eql_slice_nil w _ _ (some ⟨g, 0, none⟩) 1 c 0 0 Try.underlying47
  have HR := Lib.hid (rd_one h); clear h
  have HN : Hid (OwnS Per.cells 11 (w.alloc (.cells #[] 60)) w.heap.size 60 (some ⟨w.heap.size, 0, none⟩) 0 []) := Lib.hid (World.ownsRow_lit (e := 60) (size := 11) w #[] 0 (Nat.le_refl _) (by unfold maxLen; omega) rfl)
  go_enter Try.func48, Try.ntmps48
  go_wp2_with (at_builtin; refine wpList_append_s _ rfl _ _ perT rfl w.heap.size (some ⟨w.heap.size, 0, none⟩) 0 [] rfl HN.out w.heap.size (some ⟨g, 0, none⟩) 1 c [p] rfl rfl (HR.out.alloc (Nat.le_refl _) _) (by simp) (by unfold maxLen; simp) (by simp) ?_)
  intro A2 c2 L w2 hL ho hg _
  have HL : Hid (L = [p]) := Lib.hid hL
  have HO := Lib.hid ho
  have HB : Hid (Below w.heap.size w w2) := Lib.hid (((Below.refl _ _).alloc (Nat.le_refl _) _).grown hg (by simp) (fun g hg => (HN.out.blk_ge g hg).1))
  clear hL ho hg
  go_wp2_with fail
  go_ret
  have ho := HO.out
  rw [HL.out] at ho
  obtain ⟨g2, rfl, hg2, _, hp⟩ := ho.pb
  exact ⟨g2, c2, by rw [HL.out]; rfl, hg2, hp, HB.out⟩
theorem pay_nil (w : World) : Calls Try.prog 54 #[.slice none 0 0] w fun e w' => e = .returned (.slice none 0 0) ∧ w = w' := by
  have hq : (binOp .eql 48 (.slice none 0 0) (.slice none 0 0)).run Try.prog w = .ok (.bool true) w := Lib.run_eql_slice_nil w _ _ none 0 0 0 0 Try.underlying48
  go_enter Try.func54, Try.ntmps54
  go_wp2_with fail
  go_ret
  exact ⟨rfl, rfl⟩
theorem payments_nil (ga : Nat) (day bp cr : Int) (A : Option Addr) (n c : Nat) (w : World) (ha : AB w ga day bp cr A n c) :
    Calls Try.prog 49 #[.pointer (some ⟨ga, 0, none⟩)] w fun e w' => e = .returned (.slice none 0 0) ∧ w = w' := by
  obtain ⟨a0, a1, a2, a3, a4, af⟩ := ha.cells
  clear a0 a1 a2 a3 af ha
  go_enter Try.func49, Try.ntmps49
  go_wp2_with fail
  refine (pay_nil _).mono ?_
  rintro e w' ⟨rfl, rfl⟩
  go_wp2_with fail
  go_loop [12] (fun i => i = .int .i64 0) (fun _ => 0)
  case atStart => rfl
  case round =>
    subst hrel
    go_wp2
    go_ret
    exact ⟨rfl, rfl⟩
/-- An account copied: a new block. -/
def CopOf (w : World) (day bp cr : Int) (Q : World → Option Addr → Nat → Prop) (n : Nat) (e : Ending) (w' : World) : Prop := ∃ gb A c, e = .returned (.pointer (some ⟨gb, 0, none⟩)) ∧ w.heap.size ≤ gb ∧ AB w' gb day bp cr A n c ∧ Q w' A gb ∧ Below w.heap.size w w'
def CopNil (w : World) (day bp cr : Int) (e : Ending) (w' : World) : Prop := ∃ gb, e = .returned (.pointer (some ⟨gb, 0, none⟩)) ∧ w.heap.size ≤ gb ∧ AB w' gb day bp cr none 0 0 ∧ Below w.heap.size w w'
theorem heap_set5 {w : World} {g : Nat} {x0 x1 x2 x3 x4 a b : Value} {T : TypeId} (h : w.heap[g]? = some (.cells #[x0, x1, x2, x3, x4] T)) : ((w.setCell ⟨g, 3, none⟩ a).setCell ⟨g, 4, none⟩ b).heap[g]? = some (.cells #[x0, x1, x2, a, b] T) := by
  have h1 := heap_setCell_same w g 3 _ T a h
  have h2 := heap_setCell_same _ g 4 _ T b h1
  simpa using h2
set_option maxHeartbeats 800000 in
theorem copied_nil (ga : Nat) (day bp cr : Int) (w : World) (ha : AB w ga day bp cr none 0 0) :
    Calls Try.prog 34 #[.pointer (some ⟨ga, 0, none⟩)] w (CopNil w day bp cr) := by
  have hlt := ha.lt
  have HA := Lib.hid ha
  have HG : Hid (AB (w.alloc (.cells #[.int .i64 day, .int .i64 bp, .int .i64 cr, .slice none 0 0, .slice none 0 0] 50)) w.heap.size day bp cr none 0 0) := Lib.hid (heap_alloc_new w _)
  have HA1 := Lib.hid (ha.on ((Below.refl _ _).alloc (Nat.le_refl _) (.cells #[.int .i64 day, .int .i64 bp, .int .i64 cr, .slice none 0 0, .slice none 0 0] 50)))
  obtain ⟨a0, a1, a2, a3, a4, af⟩ := ha.cells
  clear ha af
  have a3' := HA1.out.cells.2.2.2.1
  go_enter Try.func34, Try.ntmps34
  go_wp2_with fail
  refine (clone_nil _).mono ?_
  rintro e w' ⟨rfl, rfl⟩
  go_wp2_with fail
  refine (payments_nil ga day bp cr none 0 0 _ HA1.out).mono ?_
  rintro e w' ⟨rfl, rfl⟩
  go_wp2_with fail
  go_ret
  exact ⟨w.heap.size, rfl, Nat.le_refl _, by first | exact heap_set5 HG.out | exact HG.out, by repeat (first | exact (Below.refl _ _).alloc (Nat.le_refl _) _ | refine Below.setCell ?_ (Nat.le_refl _) _)⟩
end Go.Proofs.Ytkgoaodpjeonnaa
