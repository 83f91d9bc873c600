/- Contracts of the reference's Add and Told of wide numbers. -/
import Derived.Test.YtcegcgbcffdjjaaDoorWideB
import Derived.BigRegion
import Derived.Deep.RegionWith
namespace Go.Proofs.YtcegcgbcffdjjaaDoor
open Go.RowKit

def Ag (a b c d : Nat) : Value := .agg #[.int .u64 (a : Int), .int .u64 (b : Int), .int .u64 (c : Int), .int .u64 (d : Int)]
theorem plus_ex (a b c d p q r s : Nat) (ha : a < 4294967296) (hb : b < 4294967296) (hc : c < 4294967296) (hd : d < 4294967296) (hp : p < 4294967296) (hq : q < 4294967296) (hr : r < 4294967296) (hs : s < 4294967296) (hn : mag a b c d + mag p q r s < 340282366920938463463374607431768211456) :
    ∃ e f g h : Nat, Wd.ok ⟨false, e, f, g, h⟩ ∧ mag e f g h = mag a b c d + mag p q r s ∧ ∀ w, Calls Tryd.prog 13 #[Ag a b c d, Ag p q r s] w fun z w' => z = .returned (Ag e f g h) ∧ Below w.heap.size w w' := by
  obtain ⟨s0, e0⟩ : ∃ s0, s0 = a + p := ⟨_, rfl⟩
  obtain ⟨c1, g0⟩ : ∃ c1, c1 = s0 / 4294967296 := ⟨_, rfl⟩
  obtain ⟨o0, f0⟩ : ∃ o0, o0 = s0 % 4294967296 := ⟨_, rfl⟩
  obtain ⟨s1, e1⟩ : ∃ s1, s1 = b + q + c1 := ⟨_, rfl⟩
  obtain ⟨c2, g1⟩ : ∃ c2, c2 = s1 / 4294967296 := ⟨_, rfl⟩
  obtain ⟨o1, f1⟩ : ∃ o1, o1 = s1 % 4294967296 := ⟨_, rfl⟩
  obtain ⟨s2, e2⟩ : ∃ s2, s2 = c + r + c2 := ⟨_, rfl⟩
  obtain ⟨c3, g2⟩ : ∃ c3, c3 = s2 / 4294967296 := ⟨_, rfl⟩
  obtain ⟨o2, f2⟩ : ∃ o2, o2 = s2 % 4294967296 := ⟨_, rfl⟩
  obtain ⟨s3, e3⟩ : ∃ s3, s3 = d + s + c3 := ⟨_, rfl⟩
  obtain ⟨c4, g3⟩ : ∃ c4, c4 = s3 / 4294967296 := ⟨_, rfl⟩
  obtain ⟨o3, f3⟩ : ∃ o3, o3 = s3 % 4294967296 := ⟨_, rfl⟩
  refine ⟨o0, o1, o2, o3, ⟨by show o0 < _; omega, by show o1 < _; omega, by show o2 < _; omega, by show o3 < _; omega⟩, by unfold mag at hn ⊢; omega, fun w => ?_⟩
  exact plus_at a b c d p q r s o0 o1 o2 o3 s0 s1 s2 s3 c1 c2 c3 c4 ha hb hc hd hp hq hr hs e0 f0 g0 e1 f1 g1 e2 f2 g2 e3 f3 g3 w
theorem minus_ex (a b c d p q r s : Nat) (ha : a < 4294967296) (hb : b < 4294967296) (hc : c < 4294967296) (hd : d < 4294967296) (hp : p < 4294967296) (hq : q < 4294967296) (hr : r < 4294967296) (hs : s < 4294967296) (hn : mag p q r s ≤ mag a b c d) :
    ∃ e f g h : Nat, Wd.ok ⟨false, e, f, g, h⟩ ∧ mag e f g h + mag p q r s = mag a b c d ∧ ∀ w, Calls Tryd.prog 15 #[Ag a b c d, Ag p q r s] w fun z w' => z = .returned (Ag e f g h) ∧ Below w.heap.size w w' := by
  obtain ⟨s0, e0⟩ : ∃ s0, s0 = a + 4294967296 - p := ⟨_, rfl⟩
  obtain ⟨c1, g0⟩ : ∃ c1, c1 = 1 - s0 / 4294967296 := ⟨_, rfl⟩
  obtain ⟨o0, f0⟩ : ∃ o0, o0 = s0 % 4294967296 := ⟨_, rfl⟩
  obtain ⟨s1, e1⟩ : ∃ s1, s1 = b + 4294967296 - q - c1 := ⟨_, rfl⟩
  obtain ⟨c2, g1⟩ : ∃ c2, c2 = 1 - s1 / 4294967296 := ⟨_, rfl⟩
  obtain ⟨o1, f1⟩ : ∃ o1, o1 = s1 % 4294967296 := ⟨_, rfl⟩
  obtain ⟨s2, e2⟩ : ∃ s2, s2 = c + 4294967296 - r - c2 := ⟨_, rfl⟩
  obtain ⟨c3, g2⟩ : ∃ c3, c3 = 1 - s2 / 4294967296 := ⟨_, rfl⟩
  obtain ⟨o2, f2⟩ : ∃ o2, o2 = s2 % 4294967296 := ⟨_, rfl⟩
  obtain ⟨s3, e3⟩ : ∃ s3, s3 = d + 4294967296 - s - c3 := ⟨_, rfl⟩
  obtain ⟨c4, g3⟩ : ∃ c4, c4 = 1 - s3 / 4294967296 := ⟨_, rfl⟩
  obtain ⟨o3, f3⟩ : ∃ o3, o3 = s3 % 4294967296 := ⟨_, rfl⟩
  refine ⟨o0, o1, o2, o3, ⟨by show o0 < _; omega, by show o1 < _; omega, by show o2 < _; omega, by show o3 < _; omega⟩, by unfold mag at hn ⊢; omega, fun w => ?_⟩
  exact minus_at a b c d p q r s o0 o1 o2 o3 s0 s1 s2 s3 c1 c2 c3 c4 ha hb hc hd hp hq hr hs (by omega) f0 (by omega) (by omega) f1 (by omega) (by omega) f2 (by omega) (by omega) f3 (by omega) w

theorem heap_lt {w : World} {g : Nat} {o : Obj} (h : w.heap[g]? = some o) : g < w.heap.size := by
  by_cases hl : g < w.heap.size
  · exact hl
  · rw [Array.getElem?_eq_none (by omega)] at h; cases h
/-- A wide number in memory. -/
def WBox (w : World) (g : Nat) (n : Bool) (a b c d : Nat) : Prop := w.heap[g]? = some (.cells #[.bool n, .int .u64 (a : Int), .int .u64 (b : Int), .int .u64 (c : Int), .int .u64 (d : Int)] 34)
section
variable {w w' : World} {g : Nat} {n : Bool} {a b c d : Nat}
theorem WBox.on (h : WBox w g n a b c d) (hb : Below w.heap.size w w') : WBox w' g n a b c d := (hb.block _ (heap_lt h)).trans h
theorem WBox.c0 (h : WBox w g n a b c d) : w.cell? ⟨g, 0, none⟩ = some (.bool n) := by have := cell_of_row w g 0 _ _ (0, 0) h; simpa using this
theorem WBox.c1 (h : WBox w g n a b c d) : w.cell? ⟨g, 1, none⟩ = some (.int .u64 (a : Int)) := by have := cell_of_row w g 1 _ _ (0, 0) h; simpa using this
theorem WBox.c2 (h : WBox w g n a b c d) : w.cell? ⟨g, 2, none⟩ = some (.int .u64 (b : Int)) := by have := cell_of_row w g 2 _ _ (0, 0) h; simpa using this
theorem WBox.c3 (h : WBox w g n a b c d) : w.cell? ⟨g, 3, none⟩ = some (.int .u64 (c : Int)) := by have := cell_of_row w g 3 _ _ (0, 0) h; simpa using this
theorem WBox.c4 (h : WBox w g n a b c d) : w.cell? ⟨g, 4, none⟩ = some (.int .u64 (d : Int)) := by have := cell_of_row w g 4 _ _ (0, 0) h; simpa using this
theorem WBox.fr (h : WBox w g n a b c d) (j : Nat) : w.frozen? ⟨g, j, none⟩ = false := frozen_of_row w g j _ _ h
end
/-- The result's block. -/
def ZB (w : World) (g : Nat) : Prop := w.heap[g]? = some (.cells #[.bool false, .int .u64 0, .int .u64 0, .int .u64 0, .int .u64 0] 34)
theorem ZB.on {w w' : World} {g : Nat} (h : ZB w g) (hb : Below w.heap.size w w') : ZB w' g := (hb.block _ (heap_lt h)).trans h
theorem wfacts {X w1 : World} {g k : Nat} {n : Bool} {a b c d : Nat} (hx : WBox X g n a b c d) (hz : ZB X k) (hb : Below X.heap.size X w1) :
    w1.cell? ⟨g, 0, none⟩ = some (.bool n) ∧ (w1.cell? ⟨k, 0, none⟩ = some (.bool false) ∧ w1.cell? ⟨k, 1, none⟩ = some (.int .u64 0) ∧ w1.cell? ⟨k, 2, none⟩ = some (.int .u64 0) ∧ w1.cell? ⟨k, 3, none⟩ = some (.int .u64 0) ∧ w1.cell? ⟨k, 4, none⟩ = some (.int .u64 0)) ∧
    (w1.frozen? ⟨k, 0, none⟩ = false ∧ w1.frozen? ⟨k, 1, none⟩ = false ∧ w1.frozen? ⟨k, 2, none⟩ = false ∧ w1.frozen? ⟨k, 3, none⟩ = false ∧ w1.frozen? ⟨k, 4, none⟩ = false) ∧ ZB w1 k := by
  have hz1 := hz.on hb
  refine ⟨(hx.on hb).c0, ⟨?_, ?_, ?_, ?_, ?_⟩, ⟨frozen_of_row _ _ _ _ _ hz1, frozen_of_row _ _ _ _ _ hz1, frozen_of_row _ _ _ _ _ hz1, frozen_of_row _ _ _ _ _ hz1, frozen_of_row _ _ _ _ _ hz1⟩, hz1⟩
  · have := cell_of_row w1 k 0 _ _ (0, 0) hz1; simpa using this
  · have := cell_of_row w1 k 1 _ _ (0, 0) hz1; simpa using this
  · have := cell_of_row w1 k 2 _ _ (0, 0) hz1; simpa using this
  · have := cell_of_row w1 k 3 _ _ (0, 0) hz1; simpa using this
  · have := cell_of_row w1 k 4 _ _ (0, 0) hz1; simpa using this
def AddW (w : World) (m n : Bool) (a b c d p q r s : Nat) : World := ((w.alloc (.cells #[.bool m, .int .u64 (a : Int), .int .u64 (b : Int), .int .u64 (c : Int), .int .u64 (d : Int)] 34)).alloc (.cells #[.bool n, .int .u64 (p : Int), .int .u64 (q : Int), .int .u64 (r : Int), .int .u64 (s : Int)] 34)).alloc (.cells #[.bool false, .int .u64 0, .int .u64 0, .int .u64 0, .int .u64 0] 34)
section
variable (w : World) (m n : Bool) (a b c d p q r s : Nat)
theorem addw_0 : WBox (AddW w m n a b c d p q r s) w.heap.size m a b c d := by
  unfold WBox AddW
  rw [Below.heap_alloc _ _ _ (by simp; omega), Below.heap_alloc _ _ _ (by simp)]; exact heap_alloc_new w _
theorem addw_1 : WBox (AddW w m n a b c d p q r s) (w.heap.size + 1) n p q r s := by
  unfold WBox AddW
  rw [Below.heap_alloc _ _ _ (by simp)]
  have := heap_alloc_new (w.alloc (.cells #[.bool m, .int .u64 (a : Int), .int .u64 (b : Int), .int .u64 (c : Int), .int .u64 (d : Int)] 34)) (.cells #[.bool n, .int .u64 (p : Int), .int .u64 (q : Int), .int .u64 (r : Int), .int .u64 (s : Int)] 34)
  simpa using this
theorem addw_2 : ZB (AddW w m n a b c d p q r s) (w.heap.size + 1 + 1) := by
  unfold ZB AddW
  have := heap_alloc_new ((w.alloc (.cells #[.bool m, .int .u64 (a : Int), .int .u64 (b : Int), .int .u64 (c : Int), .int .u64 (d : Int)] 34)).alloc (.cells #[.bool n, .int .u64 (p : Int), .int .u64 (q : Int), .int .u64 (r : Int), .int .u64 (s : Int)] 34)) (.cells #[.bool false, .int .u64 0, .int .u64 0, .int .u64 0, .int .u64 0] 34)
  simpa using this
theorem addw_b : Below w.heap.size w (AddW w m n a b c d p q r s) := (((Below.refl _ _).alloc (Nat.le_refl _) _).alloc (by simp) _).alloc (by simp; omega) _
theorem addw_s : (AddW w m n a b c d p q r s).heap.size = w.heap.size + 3 := by simp [AddW]
end
set_option maxHeartbeats 1000000 in
theorem add_same (n : Bool) (a b c d p q r s : Nat) (ha : a < 4294967296) (hb : b < 4294967296) (hc : c < 4294967296) (hd : d < 4294967296) (hp : p < 4294967296) (hq : q < 4294967296) (hr : r < 4294967296) (hs : s < 4294967296) (hn : mag a b c d + mag p q r s < 340282366920938463463374607431768211456) (w : World) :
    Calls Tryd.prog 8 #[.agg #[.bool n, .int .u64 (a : Int), .int .u64 (b : Int), .int .u64 (c : Int), .int .u64 (d : Int)], .agg #[.bool n, .int .u64 (p : Int), .int .u64 (q : Int), .int .u64 (r : Int), .int .u64 (s : Int)]] w fun z w' => (∃ e f g h : Nat, Wd.ok ⟨n, e, f, g, h⟩ ∧ mag e f g h = mag a b c d + mag p q r s ∧ z = .returned (Wd.v ⟨n, e, f, g, h⟩)) ∧ Below w.heap.size w w' := by
  obtain ⟨e, f, g, h, hok, hm, K⟩ := plus_ex a b c d p q r s ha hb hc hd hp hq hr hs hn
  have HK := Lib.hid K; have HM := Lib.hid hm; have HO := Lib.hid hok
  clear K hm hok ha hb hc hd hp hq hr hs hn
  unfold Ag at HK
  have hbb : (n == n) = true := by simp
  go_enter Tryd.func8, Tryd.ntmps8
  go_wp2_with fail
  go_region_with (go_at_call 13; refine (HK.out _).mono ?_; rintro z w1 ⟨rfl, hb1⟩; obtain ⟨k0, ⟨z0, z1, z2, z3, z4⟩, ⟨f0, f1, f2, f3, f4⟩, HZ⟩ := wfacts (X := (AddW w n n a b c d p q r s).drew) (addw_0 w n n a b c d p q r s) (addw_2 w n n a b c d p q r s) hb1; have HB := Lib.hid ((addw_b w n n a b c d p q r s).drew.trans (hb1.mono (addw_b w n n a b c d p q r s).size)); have HZ := Lib.hid HZ)
  all_goals
    go_wp2_with fail
    refine bodyPost_ret (results_cell_row rfl _ _ (w.heap.size + 1 + 1) 34 #[.bool n, .int .u64 (e : Int), .int .u64 (f : Int), .int .u64 (g : Int), .int .u64 (h : Int)] (0, 0) _ rfl ?hg Tryd.underlying34 rfl wide_size) rfl ?_
    case hg => exact heap_set5 HZ.out
    have hj : w.heap.size ≤ w.heap.size + 1 + 1 := by omega
    exact ⟨⟨e, f, g, h, HO.out, HM.out, rfl⟩, ((((HB.out.setCell hj _).setCell hj _).setCell hj _).setCell hj _).setCell hj _⟩
end Go.Proofs.YtcegcgbcffdjjaaDoor
