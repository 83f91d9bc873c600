/- The walk of StatementSums. -/
import Derived.Test.YtcegcgbcffdjjaaDoorClo
import Derived.Test.YtcegcgbcffdjjaaDoorWideD
import Derived.Deep.DeepCutAuto
import Derived.RegionTactic
import Derived.RegionCalls
namespace Go.Proofs.YtcegcgbcffdjjaaDoor
open Go.RowKit

theorem mag_abs (x : Wd) : (x.mag : Int) = (x.int.natAbs : Int) := by
  unfold Wd.int; split <;> omega
theorem isum_bound (l : List Int) (h : ∀ a ∈ l, Amt a) : -(l.length * 4611686018427387904 : Int) ≤ isum l ∧ isum l ≤ (l.length * 4611686018427387904 : Int) := by
  unfold isum
  suffices H : ∀ (l : List Int) (s : Int), (∀ a ∈ l, Amt a) → s - (l.length * 4611686018427387904 : Int) ≤ l.foldl (· + ·) s ∧ l.foldl (· + ·) s ≤ s + (l.length * 4611686018427387904 : Int) by
    have := H l 0 h; omega
  intro l
  induction l with
  | nil => intro s _; simp
  | cons a l ih =>
    intro s hs
    have h1 := ih (s + a) (fun b hb => hs b (List.mem_cons_of_mem _ hb))
    have h2 := hs a (List.mem_cons_self ..)
    unfold Amt at h2
    rw [List.foldl_cons, List.length_cons]
    push_cast
    omega
theorem sums_told {l : List Int} {a : Int} (h : sumV l = .tuple #[.int .i64 a, .int .i64 0]) : (∀ b ∈ l, Amt b) ∧ toldV (isum l) = .tuple #[.int .i64 a, .int .i64 0] := by
  unfold sumV at h
  split at h
  · rename_i ha
    exact ⟨amts_iff.1 ha, h⟩
  · injection h with h; simp at h
/-- The statement's box. -/
def SBox (v : World) (g : Nat) (id fr to_ owed credit : Int) (A : Option Addr) (n c : Nat) (A2 : Option Addr) (m c2 : Nat) : Prop := v.heap[g]? = some (.cells #[.int .i64 id, .int .i64 fr, .int .i64 to_, .int .i64 owed, .int .i64 credit, .slice A n c, .slice A2 m c2] 25)
section
variable {v v' : World} {g : Nat} {id fr to_ owed credit : Int} {A : Option Addr} {n c : Nat} {A2 : Option Addr} {m c2 D : Nat}
theorem SBox.on (h : SBox v g id fr to_ owed credit A n c A2 m c2) (hb : Below D v v') (hD : g < D) : SBox v' g id fr to_ owed credit A n c A2 m c2 := (hb.block _ hD).trans h
theorem SBox.cells (h : SBox v g id fr to_ owed credit A n c A2 m c2) : v.cell? ⟨g, 0, none⟩ = some (.int .i64 id) ∧ v.cell? ⟨g, 1, none⟩ = some (.int .i64 fr) ∧ v.cell? ⟨g, 2, none⟩ = some (.int .i64 to_) ∧ v.cell? ⟨g, 3, none⟩ = some (.int .i64 owed) ∧
    v.cell? ⟨g, 4, none⟩ = some (.int .i64 credit) ∧ v.cell? ⟨g, 5, none⟩ = some (.slice A n c) ∧ v.cell? ⟨g, 6, none⟩ = some (.slice A2 m c2) := by
  refine ⟨?_, ?_, ?_, ?_, ?_, ?_, ?_⟩ <;> (rw [Lib.cell_of_heap h]; rfl)
end
theorem WBox.all {w : World} {g : Nat} {n : Bool} {a b c d : Nat} (h : WBox w g n a b c d) : w.cell? ⟨g, 0, none⟩ = some (.bool n) ∧ w.cell? ⟨g, 1, none⟩ = some (.int .u64 (a : Int)) ∧ w.cell? ⟨g, 2, none⟩ = some (.int .u64 (b : Int)) ∧
    w.cell? ⟨g, 3, none⟩ = some (.int .u64 (c : Int)) ∧ w.cell? ⟨g, 4, none⟩ = some (.int .u64 (d : Int)) := ⟨h.c0, h.c1, h.c2, h.c3, h.c4⟩
theorem WBox.frs {w : World} {g : Nat} {n : Bool} {a b c d : Nat} (h : WBox w g n a b c d) : w.frozen? ⟨g, 0, none⟩ = false ∧ w.frozen? ⟨g, 1, none⟩ = false ∧ w.frozen? ⟨g, 2, none⟩ = false ∧ w.frozen? ⟨g, 3, none⟩ = false ∧ w.frozen? ⟨g, 4, none⟩ = false := ⟨h.fr 0, h.fr 1, h.fr 2, h.fr 3, h.fr 4⟩
theorem of_e (a : Int) (h0 : -9223372036854775808 ≤ a) (h1 : a ≤ 9223372036854775807) (w : World) :
    Calls Tryd.prog 7 #[.int .i64 a] w fun e w' => (∃ (n : Bool) (p q r s : Nat), Hid (Wd.ok ⟨n, p, q, r, s⟩ ∧ Wd.int ⟨n, p, q, r, s⟩ = a) ∧ e = .returned (.agg #[.bool n, .int .u64 (p : Int), .int .u64 (q : Int), .int .u64 (r : Int), .int .u64 (s : Int)])) ∧ Below w.heap.size w w' :=
  (of_any a h0 h1 w).mono fun _ _ ⟨⟨x, hx, hi, he⟩, hb⟩ => ⟨⟨x.neg, x.a, x.b, x.c, x.d, Lib.hid ⟨hx, hi⟩, he⟩, hb⟩
theorem add_e (x y : Wd) (hx : x.ok) (hy : y.ok) (h1 : x.int.natAbs ≤ 9223372036854775808000) (h2 : y.int.natAbs ≤ 9223372036854775808000) (w : World) :
    Calls Tryd.prog 8 #[.agg #[.bool x.neg, .int .u64 (x.a : Int), .int .u64 (x.b : Int), .int .u64 (x.c : Int), .int .u64 (x.d : Int)], .agg #[.bool y.neg, .int .u64 (y.a : Int), .int .u64 (y.b : Int), .int .u64 (y.c : Int), .int .u64 (y.d : Int)]] w
      fun e w' => (∃ (n : Bool) (p q r s : Nat), Hid (Wd.ok ⟨n, p, q, r, s⟩ ∧ Wd.int ⟨n, p, q, r, s⟩ = x.int + y.int) ∧ e = .returned (.agg #[.bool n, .int .u64 (p : Int), .int .u64 (q : Int), .int .u64 (r : Int), .int .u64 (s : Int)])) ∧ Below w.heap.size w w' :=
  (add_any x y hx hy (by have a1 := mag_abs x; have a2 := mag_abs y; omega) w).mono fun _ _ ⟨⟨z, hz, hi, he⟩, hb⟩ => ⟨⟨z.neg, z.a, z.b, z.c, z.d, Lib.hid ⟨hz, hi⟩, he⟩, hb⟩
/-- Where the loop stands: both sums in their blocks. -/
structure Sst (W1 : World) (B g8 g9 : Nat) (x y : Wd) (wr : World) : Prop where
  b8 : WBox wr g8 x.neg x.a x.b x.c x.d
  b9 : WBox wr g9 y.neg y.a y.b y.c y.d
  below : Below B W1 wr
/-- A sum is put in its block's place. -/
theorem Sst.put8 {W1 : World} {B g8 g9 : Nat} {x y z : Wd} {wr w2 : World} (h : Sst W1 B g8 g9 x y wr) (hb : Below wr.heap.size wr w2) (h8 : B ≤ g8) (hne : g8 ≠ g9) (hB : B ≤ wr.heap.size) :
    Sst W1 B g8 g9 z y (((((w2.setCell ⟨g8, 0, none⟩ (.bool z.neg)).setCell ⟨g8, 1, none⟩ (.int .u64 (z.a : Int))).setCell ⟨g8, 2, none⟩ (.int .u64 (z.b : Int))).setCell ⟨g8, 3, none⟩ (.int .u64 (z.c : Int))).setCell ⟨g8, 4, none⟩ (.int .u64 (z.d : Int))) := by
  refine ⟨heap_set5 (h.b8.on hb), ?_, ?_⟩
  · have h9 := h.b9.on hb
    unfold WBox at h9 ⊢
    rw [heap_setCell_other _ _ _ _ (by exact hne.symm), heap_setCell_other _ _ _ _ (by exact hne.symm), heap_setCell_other _ _ _ _ (by exact hne.symm), heap_setCell_other _ _ _ _ (by exact hne.symm), heap_setCell_other _ _ _ _ (by exact hne.symm)]
    exact h9
  · exact (((((h.below.trans (hb.mono hB)).setCell h8 _).setCell h8 _).setCell h8 _).setCell h8 _).setCell h8 _
theorem Sst.put9 {W1 : World} {B g8 g9 : Nat} {x y z : Wd} {wr w2 : World} (h : Sst W1 B g8 g9 x y wr) (hb : Below wr.heap.size wr w2) (h9 : B ≤ g9) (hne : g8 ≠ g9) (hB : B ≤ wr.heap.size) :
    Sst W1 B g8 g9 x z (((((w2.setCell ⟨g9, 0, none⟩ (.bool z.neg)).setCell ⟨g9, 1, none⟩ (.int .u64 (z.a : Int))).setCell ⟨g9, 2, none⟩ (.int .u64 (z.b : Int))).setCell ⟨g9, 3, none⟩ (.int .u64 (z.c : Int))).setCell ⟨g9, 4, none⟩ (.int .u64 (z.d : Int))) := by
  refine ⟨?_, heap_set5 (h.b9.on hb), ?_⟩
  · have h8 := h.b8.on hb
    unfold WBox at h8 ⊢
    rw [heap_setCell_other _ _ _ _ (by exact hne), heap_setCell_other _ _ _ _ (by exact hne), heap_setCell_other _ _ _ _ (by exact hne), heap_setCell_other _ _ _ _ (by exact hne), heap_setCell_other _ _ _ _ (by exact hne)]
    exact h8
  · exact (((((h.below.trans (hb.mono hB)).setCell h9 _).setCell h9 _).setCell h9 _).setCell h9 _).setCell h9 _
theorem below_undrew {w w1 : World} (h : Below w.drew.heap.size w.drew w1) : Below w.heap.size w w1 := ⟨h.os, h.tape, h.output, h.size, h.block⟩
theorem take_map_succ {l : List Ln} (f : Ln → Int) (s : Int) {k : Nat} (hk : k < l.length) : isum (s :: (l.take (k + 1)).map f) = isum (s :: (l.take k).map f) + f l[k] := by
  rw [List.take_succ_eq_append_getElem hk, List.map_append, ← List.cons_append, List.map_cons, List.map_nil, isum_append]
theorem take_bound {l : List Ln} (f : Ln → Int) (s : Int) (h : ∀ b ∈ s :: l.map f, Amt b) (hl : l.length ≤ 600) (k : Nat) : (isum (s :: (l.take k).map f)).natAbs ≤ 9223372036854775808000 := by
  have h1 := isum_bound (s :: (l.take k).map f) (fun b hb => h b (by
    rcases List.mem_cons.1 hb with rfl | hb
    · exact List.mem_cons_self ..
    · obtain ⟨y, hy, rfl⟩ := List.mem_map.1 hb
      exact List.mem_cons_of_mem _ (List.mem_map_of_mem (List.mem_of_mem_take hy))))
  have h2 : ((s :: (l.take k).map f).length : Int) ≤ 601 := by simp; omega
  have h3 : ((s :: (l.take k).map f).length : Int) * 4611686018427387904 ≤ 601 * 4611686018427387904 := Int.mul_le_mul_of_nonneg_right h2 (by decide)
  omega
set_option maxHeartbeats 4000000 in
set_option maxRecDepth 100000 in
theorem statementSums_walk (id fr to_ owed credit : Int) (A A2 : Option Addr) (c c2 : Nat) (l : List Ln) (m : List It) (w : World) (hL : RdL w w.heap.size A l) (hT : RdT w w.heap.size A2 m) (ht : Tab w) :
    Calls Tryd.prog 3 #[.agg #[.int .i64 id, .int .i64 fr, .int .i64 to_, .int .i64 owed, .int .i64 credit, .slice A l.length c, .slice A2 m.length c2]] w fun e w' => e = .returned (.bool true) ∧ Below w.heap.size w w' := by
  obtain ⟨W, hW, hWs, HS0, HB0⟩ : ∃ W : World, w.alloc (.cells #[.int .i64 id, .int .i64 fr, .int .i64 to_, .int .i64 owed, .int .i64 credit, .slice A l.length c, .slice A2 m.length c2] 25) = W ∧ W.heap.size = w.heap.size + 1 ∧ Hid (SBox W w.heap.size id fr to_ owed credit A l.length c A2 m.length c2) ∧ Hid (Below w.heap.size w W) :=
    ⟨_, rfl, by simp, Lib.hid (heap_alloc_new w _), Lib.hid ((Below.refl _ _).alloc (Nat.le_refl _) _)⟩
  have HL := Lib.hid hL; have HT := Lib.hid hT
  have KA := Lib.hid (awake_any W (ht.below HB0.out))
  clear hL hT ht
  have HWS := Lib.hid hWs; clear hWs
  go_enter Tryd.func3, Tryd.ntmps3
  go_wp2_with fail
  clear hW
  refine KA.out.mono ?_
  rintro e w1 ⟨rfl, hb1⟩
  have HX1 : Hid (Below (w.heap.size + 1) W w1) := Lib.hid (by have := HWS.out; rw [this] at hb1; exact hb1)
  have HS1 : Hid (SBox w1 w.heap.size id fr to_ owed credit A l.length c A2 m.length c2) := Lib.hid (HS0.out.on HX1.out (by omega))
  obtain ⟨r0, r1, r2, r3, r4, r5, r6⟩ := HS1.out.cells
  clear hb1 KA
  go_wp2_with fail
  refine (few_any id fr to_ owed credit A A2 c c2 l.length m.length w1).mono ?_
  rintro e w2 ⟨rfl, hb2⟩
  have hz1 : w.heap.size + 1 ≤ w1.heap.size := by have := HX1.out.size; have := HWS.out; omega
  have HX2 : Hid (Below (w.heap.size + 1) W w2) := Lib.hid (HX1.out.trans (hb2.mono hz1))
  have HS2 : Hid (SBox w2 w.heap.size id fr to_ owed credit A l.length c A2 m.length c2) := Lib.hid (HS1.out.on hb2 (by omega))
  have hz2 : w.heap.size + 1 ≤ w2.heap.size := by have := hb2.size; omega
  clear hb2 r0 r1 r2 r3 r4 r5 r6
  have HF2 : Hid (Below w.heap.size w w2) := Lib.hid (HB0.out.trans (HX2.out.mono (by omega)))
  obtain ⟨fb, hfb⟩ : ∃ fb, fb = fewB l.length m.length := ⟨_, rfl⟩
  rw [← hfb]
  cases fb
  · clear hfb
    go_wp2_with fail
    go_ret
    exact ⟨rfl, HF2.out⟩
  have hl : l.length ≤ 600 := by unfold fewB at hfb; simp at hfb; omega
  have hm : m.length ≤ 250 := by unfold fewB at hfb; simp at hfb; omega
  clear hfb
  have KC := Lib.hid (closing_any id fr to_ owed credit A A2 c c2 l m w2 ((HL.out.below HF2.out (Nat.le_refl _)).more (by omega)) ((HT.out.below HF2.out (Nat.le_refl _)).more (by omega)) (by omega) hm)
  obtain ⟨r0, r1, r2, r3, r4, r5, r6⟩ := HS2.out.cells
  go_wp2_with fail
  refine KC.out.mono ?_
  rintro e w3 ⟨hb3, hc3⟩
  have HX3 : Hid (Below (w.heap.size + 1) W w3) := Lib.hid (HX2.out.trans (hb3.mono hz2))
  have HS3 : Hid (SBox w3 w.heap.size id fr to_ owed credit A l.length c A2 m.length c2) := Lib.hid (HS2.out.on hb3 (by omega))
  have hz3 : w.heap.size + 1 ≤ w3.heap.size := by have := hb3.size; omega
  have HF3 : Hid (Below w.heap.size w w3) := Lib.hid (HB0.out.trans (HX3.out.mono (by omega)))
  clear hb3 r0 r1 r2 r3 r4 r5 r6 KC
  rcases hc3 with rfl | ⟨a, b, rfl, s1, s2⟩
  · go_wp2_with fail
    go_ret
    exact ⟨rfl, HF3.out⟩
  obtain ⟨am1, to1⟩ := sums_told s1
  obtain ⟨am2, to2⟩ := sums_told s2
  have AM1 := Lib.hid am1; have AM2 := Lib.hid am2; have TO1 := Lib.hid to1; have TO2 := Lib.hid to2
  have hb1 := am1 owed (List.mem_cons_self ..)
  have hb2 := am2 credit (List.mem_cons_self ..)
  unfold Amt at hb1 hb2
  have OF1 := Lib.hid (fun w => of_e owed (by omega) (by omega) w)
  have OF2 := Lib.hid (fun w => of_e credit (by omega) (by omega) w)
  clear am1 am2 to1 to2 s1 s2 hb1 hb2
  obtain ⟨r0, r1, r2, r3, r4, r5, r6⟩ := HS3.out.cells
  go_wp2_with fail
  refine (OF1.out _).mono ?_
  rintro e w4 ⟨⟨n8, p8, q8, u8, v8, HI8, rfl⟩, hb4⟩
  have HX4 : Hid (Below (w.heap.size + 1) W w4) := Lib.hid (HX3.out.trans (hb4.mono hz3))
  have HS4 : Hid (SBox w4 w.heap.size id fr to_ owed credit A l.length c A2 m.length c2) := Lib.hid (HS3.out.on hb4 (by omega))
  have hz4 : w.heap.size + 1 ≤ w4.heap.size := by have := hb4.size; omega
  clear hb4 r0 r1 r2 r3 r4 r5 r6
  have hz4' : w.heap.size < w4.heap.size := by omega
  obtain ⟨r0, r1, r2, r3, r4, r5, r6⟩ := HS4.out.cells
  go_wp2_with fail
  refine (OF2.out _).mono ?_
  rintro e w5 ⟨⟨n9, p9, q9, u9, v9, HI9, rfl⟩, hb5⟩
  obtain ⟨g8, hg8⟩ : ∃ g8, g8 = w4.heap.size := ⟨_, rfl⟩
  obtain ⟨g9, hg9⟩ : ∃ g9, g9 = w5.heap.size := ⟨_, rfl⟩
  have h48 : g8 < w5.heap.size := by have := hb5.size; simp at this; omega
  have h89 : g8 < g9 := by omega
  have hB8 : w.heap.size + 1 ≤ g8 := by omega
  have HX5 : Hid (Below (w.heap.size + 1) W w5) := Lib.hid (HX4.out.trans (((Below.refl _ _).alloc (by omega) _).trans (hb5.mono (by simp; omega))))
  have HS5 : Hid (SBox w5 w.heap.size id fr to_ owed credit A l.length c A2 m.length c2) := Lib.hid ((HS4.out.on ((Below.refl (w.heap.size + 1) _).alloc (by omega) _) (by omega)).on hb5 (by simp; omega))
  have HB8 : Hid (WBox w5 g8 n8 p8 q8 u8 v8) := Lib.hid (by
    have h0 : WBox (w4.alloc (.cells #[.bool n8, .int .u64 (p8 : Int), .int .u64 (q8 : Int), .int .u64 (u8 : Int), .int .u64 (v8 : Int)] 34)) g8 n8 p8 q8 u8 v8 := by rw [hg8]; exact heap_alloc_new w4 _
    exact h0.on hb5)
  have HST0 : Hid (Sst W (w.heap.size + 1) g8 g9 ⟨n8, p8, q8, u8, v8⟩ ⟨n9, p9, q9, u9, v9⟩ (w5.alloc (.cells #[.bool n9, .int .u64 (p9 : Int), .int .u64 (q9 : Int), .int .u64 (u9 : Int), .int .u64 (v9 : Int)] 34))) := Lib.hid (by
    refine ⟨?_, ?_, HX5.out.alloc (by omega) _⟩
    · have := HB8.out
      unfold WBox at this ⊢
      rw [Below.heap_alloc _ _ _ (by omega)]; exact this
    · rw [hg9]; exact heap_alloc_new w5 _)
  rw [← hg8]
  clear hb5 r0 r1 r2 r3 r4 r5 r6 OF1 OF2
  have HG8 := Lib.hid hg8; have HG9 := Lib.hid hg9
  have hg9' := hg9.symm
  clear hg8 hg9
  obtain ⟨w6, hw6⟩ : ∃ w6, (w5.alloc (.cells #[.bool n9, .int .u64 (p9 : Int), .int .u64 (q9 : Int), .int .u64 (u9 : Int), .int .u64 (v9 : Int)] 34)) = w6 := ⟨_, rfl⟩
  rw [hw6] at HST0
  go_wp2_with fail
  clear hw6 hg9'
  go_loopw [10] (fun i wr => ∃ (k : Nat) (x y : Wd), k ≤ l.length ∧ i = .int .i64 (k : Int) ∧ Hid (x.ok ∧ x.int = isum (owed :: (l.take k).map Ln.owed)) ∧ Hid (y.ok ∧ y.int = isum (credit :: (l.take k).map Ln.credit)) ∧ Hid (Sst W (w.heap.size + 1) g8 g9 x y wr)) (fun i _ => l.length - (intOf i).toNat)
  case atStart => exact ⟨0, _, _, by omega, rfl, Lib.hid ⟨HI8.out.1, by rw [HI8.out.2]; simp [isum]⟩, Lib.hid ⟨HI9.out.1, by rw [HI9.out.2]; simp [isum]⟩, HST0⟩
  case round =>
    obtain ⟨k, x, y, hk, rfl, HX, HY, HST⟩ := hrel
    have hzr : w.heap.size + 1 ≤ wr.heap.size := by have := HST.out.below.size; have := HWS.out; omega
    have HSr : Hid (SBox wr w.heap.size id fr to_ owed credit A l.length c A2 m.length c2) := Lib.hid (HS0.out.on HST.out.below (by omega))
    have HFr : Hid (Below w.heap.size w wr) := Lib.hid (HB0.out.trans (HST.out.below.mono (by omega)))
    obtain ⟨r0, r1, r2, r3, r4, r5, r6⟩ := HSr.out.cells
    by_cases hlt : k < l.length
    · obtain ⟨b2, off, rfl, hbl, d0, d1, d2, d3, d4⟩ := (HL.out.below HFr.out (Nat.le_refl _)).at_ hlt
      have hA1 : Amt l[k].owed := AM1.out _ (List.mem_cons_of_mem _ (List.mem_map_of_mem (List.getElem_mem hlt)))
      have hA2 : Amt l[k].credit := AM2.out _ (List.mem_cons_of_mem _ (List.mem_map_of_mem (List.getElem_mem hlt)))
      have HT1 := Lib.hid (take_map_succ Ln.owed owed hlt)
      have HT2 := Lib.hid (take_map_succ Ln.credit credit hlt)
      obtain ⟨z, hz⟩ : ∃ z, z = l[k] := ⟨_, rfl⟩
      rw [← hz] at d0 d1 d2 d3 d4 hA1 hA2 HT1 HT2
      have HZC : Hid (z.credit = l[k].credit) := Lib.hid (by rw [hz])
      clear hz
      unfold Amt at hA1 hA2
      have OF1 := Lib.hid (fun w => of_e z.owed (by omega) (by omega) w)
      have OF2 := Lib.hid (fun w => of_e z.credit (by omega) (by omega) w)
      have KX : Hid (x.int.natAbs ≤ 9223372036854775808000) := Lib.hid (by rw [HX.out.2]; exact take_bound Ln.owed owed AM1.out (by omega) k)
      have KY : Hid (y.int.natAbs ≤ 9223372036854775808000) := Lib.hid (by rw [HY.out.2]; exact take_bound Ln.credit credit AM2.out (by omega) k)
      have HA1 := Lib.hid hA1; have HA2 := Lib.hid hA2
      clear hA1 hA2
      obtain ⟨x0, x1, x2, x3, x4⟩ := HST.out.b8.all
      go_wp2_with fail
      go_cut [] (fun wx => ∃ z1 : Wd, Hid (z1.ok ∧ z1.int = x.int + z.owed) ∧ Hid (Sst W (w.heap.size + 1) g8 g9 z1 y wx))
      case first =>
        go_region_with (first
          | (go_at_call 7; refine (OF1.out _).mono ?_; rintro e w7 ⟨⟨n7, p7, q7, u7, v7, HI7, rfl⟩, hb7⟩; have hb7 := below_undrew hb7; obtain ⟨x0, x1, x2, x3, x4⟩ := (HST.out.b8.on (w' := w7) hb7).all; have HB7 := Lib.hid hb7; have hz7 := hb7.size; clear hb7)
          | (go_at_call 8; refine (add_e x ⟨n7, p7, q7, u7, v7⟩ HX.out.1 HI7.out.1 KX.out (by rw [HI7.out.2]; have := HA1.out; omega) _).mono ?_; rintro e w0 ⟨⟨n0, p0, q0, u0, v0, HI0, rfl⟩, hb0⟩; have hbb : Below wr.heap.size wr w0 := (HB7.out).trans (hb0.mono (by simpa using HB7.out.size)); obtain ⟨x0, x1, x2, x3, x4⟩ := (HST.out.b8.on hbb).all; obtain ⟨f0, f1, f2, f3, f4⟩ := (HST.out.b8.on hbb).frs; have HBB := Lib.hid hbb; clear hb0 hbb))
        all_goals
          go_wp2_with fail
          go_meet
          exact ⟨⟨n0, p0, q0, u0, v0⟩, Lib.hid ⟨HI0.out.1, by rw [HI0.out.2, HI7.out.2]⟩, Lib.hid (HST.out.put8 HBB.out hB8 (by omega) hzr)⟩
      case rest =>
        obtain ⟨z1, HZ1, HST1⟩ := hcut
        clear r0 r1 r2 r3 r4 r5 r6 d0 d1 d2 d3 d4
        have hzc : w.heap.size + 1 ≤ wc.heap.size := by have := HST1.out.below.size; have := HWS.out; omega
        have HSc : Hid (SBox wc w.heap.size id fr to_ owed credit (some ⟨b2, off, none⟩) l.length c A2 m.length c2) := Lib.hid (HS0.out.on HST1.out.below (by omega))
        have HFc : Hid (Below w.heap.size w wc) := Lib.hid (HB0.out.trans (HST1.out.below.mono (by omega)))
        obtain ⟨r0, r1, r2, r3, r4, r5, r6⟩ := HSc.out.cells
        have HD : Hid (wc.cell? ⟨b2, off + k * 5 + 4, none⟩ = some (.int .i64 z.credit)) := Lib.hid (by
          obtain ⟨b3, off3, e3, _, d0, d1, d2, d3, d4⟩ := (HL.out.below HFc.out (Nat.le_refl _)).at_ hlt
          injection e3 with e3
          injection e3 with e3 e4
          subst e3; subst e4
          rw [HZC.out]
          exact d4)
        have d4 := HD.out
        obtain ⟨x0, x1, x2, x3, x4⟩ := HST1.out.b9.all
        go_wp2_with fail
        go_region_with (first
          | (go_at_call 7; refine (OF2.out _).mono ?_; rintro e w7 ⟨⟨n7, p7, q7, u7, v7, HI7, rfl⟩, hb7⟩; have hb7 := below_undrew hb7; obtain ⟨x0, x1, x2, x3, x4⟩ := (HST1.out.b9.on (w' := w7) hb7).all; have HB7 := Lib.hid hb7; have hz7 := hb7.size; clear hb7)
          | (go_at_call 8; refine (add_e y ⟨n7, p7, q7, u7, v7⟩ HY.out.1 HI7.out.1 KY.out (by rw [HI7.out.2]; have := HA2.out; omega) _).mono ?_; rintro e w0 ⟨⟨n0, p0, q0, u0, v0, HI0, rfl⟩, hb0⟩; have hbb : Below wc.heap.size wc w0 := (HB7.out).trans (hb0.mono (by simpa using HB7.out.size)); obtain ⟨x0, x1, x2, x3, x4⟩ := (HST1.out.b9.on hbb).all; obtain ⟨f0, f1, f2, f3, f4⟩ := (HST1.out.b9.on hbb).frs; have HBB := Lib.hid hbb; clear hb0 hbb))
        all_goals
          go_wp2_with fail
          go_round
          case rel => exact ⟨k + 1, z1, ⟨n0, p0, q0, u0, v0⟩, by omega, by go_num, Lib.hid ⟨HZ1.out.1, by rw [HZ1.out.2, HT1.out, HX.out.2]⟩, Lib.hid ⟨HI0.out.1, by rw [HI0.out.2, HI7.out.2, HT2.out, HY.out.2]⟩, Lib.hid (HST1.out.put9 HBB.out (by omega) (by omega) hzc)⟩
          case measure => simp [intOf]; omega
    · have hk2 : k = l.length := by omega
      subst hk2
      have KT1 : Hid (Calls Tryd.prog 9 #[.agg #[.bool x.neg, .int .u64 (x.a : Int), .int .u64 (x.b : Int), .int .u64 (x.c : Int), .int .u64 (x.d : Int)]] wr fun e w' => e = .returned (.tuple #[.int .i64 a, .int .i64 0]) ∧ Below wr.heap.size wr w') := Lib.hid (by
        have := told_wide x HX.out.1 wr
        rw [HX.out.2, List.take_of_length_le (Nat.le_refl _), TO1.out] at this
        exact this)
      have KT2 : Hid (∀ w, Calls Tryd.prog 9 #[.agg #[.bool y.neg, .int .u64 (y.a : Int), .int .u64 (y.b : Int), .int .u64 (y.c : Int), .int .u64 (y.d : Int)]] w fun e w' => e = .returned (.tuple #[.int .i64 b, .int .i64 0]) ∧ Below w.heap.size w w') := Lib.hid fun w => (by
        have := told_wide y HY.out.1 w
        rw [HY.out.2, List.take_of_length_le (Nat.le_refl _), TO2.out] at this
        exact this)
      obtain ⟨x0, x1, x2, x3, x4⟩ := HST.out.b8.all
      go_wp2_with fail
      refine KT1.out.mono ?_
      rintro e w7 ⟨rfl, hb7⟩
      obtain ⟨y0, y1, y2, y3, y4⟩ := (HST.out.b9.on hb7).all
      have HB7 := Lib.hid hb7; clear hb7
      go_wp2_with fail
      refine (KT2.out _).mono ?_
      rintro e w0 ⟨rfl, hb0⟩
      have HBB := Lib.hid (HB7.out.trans (hb0.mono HB7.out.size)); clear hb0
      go_wp2_with fail
      go_ret
      exact ⟨rfl, HFr.out.trans (HBB.out.mono (by omega))⟩
end Go.Proofs.YtcegcgbcffdjjaaDoor
