/- Parts of the proof, one behind the other: The reference's Same, at what is the same. -/
import Derived.Test.YtlmejpkngnilcaaGreatDoorMrg36
namespace Go.Proofs.YtlmejpkngnilcaaGreatDoor
open Go.RowKit

set_option maxHeartbeats 1000000 in
set_option maxRecDepth 100000 in
theorem same17_any (A A2 : Option Addr) (c c2 : Nat) (m : List It) (w : World) (h1 : RdT w w.heap.size A m) (h2 : RdT w w.heap.size A2 m) (hm : m.length ≤ 1000000) :
    Calls Tryz.prog 36 #[.slice A m.length c, .slice A2 m.length c2] w fun e w' => e = .returned (.bool true) ∧ Below w.heap.size w w' := by
  have H1 := Lib.hid h1; have H2 := Lib.hid h2
  clear h1 h2
  go_enter Tryz.func36, Tryz.ntmps36
  go_wp2_with fail
  go_loopw [5] (fun i wr => ∃ k : Nat, k ≤ m.length ∧ i = .int .i64 (k : Int) ∧ Hid (Below w.heap.size w wr)) (fun i _ => m.length - (intOf i).toNat)
  case atStart => exact ⟨0, by omega, rfl, Lib.hid (Below.refl _ _)⟩
  case round =>
    obtain ⟨k, hk, rfl, HB⟩ := hrel
    by_cases hlt : k < m.length
    · obtain ⟨b, off, rfl, _, d0, d1, d2, d3⟩ := (H1.out.below HB.out (Nat.le_refl _)).at_ hlt
      obtain ⟨b', off', rfl, _, e0, e1, e2, e3⟩ := (H2.out.below HB.out (Nat.le_refl _)).at_ hlt
      obtain ⟨y, hy⟩ : ∃ y, y = m[k] := ⟨_, rfl⟩
      rw [← hy] at d0 d1 d2 d3 e0 e1 e2 e3
      clear hy
      go_wp2_with fail
      go_region
      go_wp2_with fail
      exact ⟨⟨k + 1, by omega, by simp, Lib.hid HB.out.drew⟩, by simp [intOf]; omega⟩
    · go_wp2_with fail
      go_ret
      exact ⟨rfl, HB.out⟩
set_option maxHeartbeats 2000000 in
set_option maxRecDepth 100000 in
theorem same22_any (id fr to_ owed credit : Int) (A A2 B B2 : Option Addr) (c c2 d d2 : Nat) (l : List Ln) (m : List It) (w : World) (h1 : RdL w w.heap.size A l) (h2 : RdT w w.heap.size A2 m) (h3 : RdL w w.heap.size B l) (h4 : RdT w w.heap.size B2 m) (hl : l.length ≤ 1000000) (hm : m.length ≤ 1000000) :
    Calls Tryz.prog 10 #[.agg #[.int .i64 id, .int .i64 fr, .int .i64 to_, .int .i64 owed, .int .i64 credit, .slice A l.length c, .slice A2 m.length c2], .agg #[.int .i64 id, .int .i64 fr, .int .i64 to_, .int .i64 owed, .int .i64 credit, .slice B l.length d, .slice B2 m.length d2]] w fun e w' => e = .returned (.bool true) ∧ Below w.heap.size w w' := by
  obtain ⟨W, hW⟩ : ∃ W, W = (w.alloc (.cells #[.int .i64 id, .int .i64 fr, .int .i64 to_, .int .i64 owed, .int .i64 credit, .slice A l.length c, .slice A2 m.length c2] 25)).alloc (.cells #[.int .i64 id, .int .i64 fr, .int .i64 to_, .int .i64 owed, .int .i64 credit, .slice B l.length d, .slice B2 m.length d2] 25) := ⟨_, rfl⟩
  have g0 : W.heap[w.heap.size]? = some (.cells #[.int .i64 id, .int .i64 fr, .int .i64 to_, .int .i64 owed, .int .i64 credit, .slice A l.length c, .slice A2 m.length c2] 25) := by
    rw [hW, heap_alloc_old _ _ (by simp)]; exact heap_alloc_new w _
  have g1 : W.heap[w.heap.size + 1]? = some (.cells #[.int .i64 id, .int .i64 fr, .int .i64 to_, .int .i64 owed, .int .i64 credit, .slice B l.length d, .slice B2 m.length d2] 25) := by
    rw [hW]
    have := heap_alloc_new (w.alloc (.cells #[.int .i64 id, .int .i64 fr, .int .i64 to_, .int .i64 owed, .int .i64 credit, .slice A l.length c, .slice A2 m.length c2] 25)) (.cells #[.int .i64 id, .int .i64 fr, .int .i64 to_, .int .i64 owed, .int .i64 credit, .slice B l.length d, .slice B2 m.length d2] 25)
    rw [show (w.alloc (.cells #[.int .i64 id, .int .i64 fr, .int .i64 to_, .int .i64 owed, .int .i64 credit, .slice A l.length c, .slice A2 m.length c2] 25)).heap.size = w.heap.size + 1 by simp] at this
    exact this
  have hb : Below w.heap.size w W := by rw [hW]; exact ((Below.refl _ _).alloc (Nat.le_refl _) _).alloc (by simp) _
  have hz : W.heap.size = w.heap.size + 2 := by rw [hW]; simp
  have HC : Hid (∀ X, Below W.heap.size W X → (∀ j, X.cell? ⟨w.heap.size, j, none⟩ = W.cell? ⟨w.heap.size, j, none⟩) ∧ ∀ j, X.cell? ⟨w.heap.size + 1, j, none⟩ = W.cell? ⟨w.heap.size + 1, j, none⟩) := Lib.hid (fun X hX => ⟨fun j => hX.cell (p := ⟨w.heap.size, j, none⟩) (by show w.heap.size < _; omega), fun j => hX.cell (p := ⟨w.heap.size + 1, j, none⟩) (by show w.heap.size + 1 < _; omega)⟩)
  have k0 := fun j => cell_of_row W w.heap.size j _ _ (0, 0) g0
  have k1 := fun j => cell_of_row W (w.heap.size + 1) j _ _ (0, 0) g1
  have HQ : Hid ((W.cell? ⟨w.heap.size, 5, none⟩ = some (.slice A l.length c) ∧ W.cell? ⟨w.heap.size, 6, none⟩ = some (.slice A2 m.length c2)) ∧ W.cell? ⟨w.heap.size + 1, 5, none⟩ = some (.slice B l.length d) ∧ W.cell? ⟨w.heap.size + 1, 6, none⟩ = some (.slice B2 m.length d2)) := Lib.hid ⟨⟨k0 5, k0 6⟩, k1 5, k1 6⟩
  have p0 : W.cell? ⟨w.heap.size, 0, none⟩ = some (.int .i64 id) := k0 0
  have p1 : W.cell? ⟨w.heap.size, 1, none⟩ = some (.int .i64 fr) := k0 1
  have p2 : W.cell? ⟨w.heap.size, 2, none⟩ = some (.int .i64 to_) := k0 2
  have p3 : W.cell? ⟨w.heap.size, 3, none⟩ = some (.int .i64 owed) := k0 3
  have p4 : W.cell? ⟨w.heap.size, 4, none⟩ = some (.int .i64 credit) := k0 4
  have p5 : W.cell? ⟨w.heap.size, 5, none⟩ = some (.slice A l.length c) := k0 5
  have r0 : W.cell? ⟨w.heap.size + 1, 0, none⟩ = some (.int .i64 id) := k1 0
  have r1 : W.cell? ⟨w.heap.size + 1, 1, none⟩ = some (.int .i64 fr) := k1 1
  have r2 : W.cell? ⟨w.heap.size + 1, 2, none⟩ = some (.int .i64 to_) := k1 2
  have r3 : W.cell? ⟨w.heap.size + 1, 3, none⟩ = some (.int .i64 owed) := k1 3
  have r4 : W.cell? ⟨w.heap.size + 1, 4, none⟩ = some (.int .i64 credit) := k1 4
  have r5 : W.cell? ⟨w.heap.size + 1, 5, none⟩ = some (.slice B l.length d) := k1 5
  have H1 := Lib.hid (h1.below hb (Nat.le_refl _)); have H2 := Lib.hid (h2.below hb (Nat.le_refl _)); have H3 := Lib.hid (h3.below hb (Nat.le_refl _)); have H4 := Lib.hid (h4.below hb (Nat.le_refl _))
  have HB0 := Lib.hid hb
  have HW := Lib.hid hW
  have HZ := Lib.hid hz
  clear h1 h2 h3 h4 hb hW g0 g1 k0 k1 hz
  go_enter Tryz.func10, Tryz.ntmps10
  go_upto_region 1 with fail
  rw [← HW.out]
  go_wp2_with fail
  clear p0 p1 p2 p3 p4 p5 r0 r1 r2 r3 r4 r5
  go_loopw [5] (fun i wr => ∃ k : Nat, k ≤ l.length ∧ i = .int .i64 (k : Int) ∧ Hid (Below W.heap.size W wr)) (fun i _ => l.length - (intOf i).toNat)
  case atStart => exact ⟨0, by omega, rfl, Lib.hid (Below.refl _ _)⟩
  case round =>
    obtain ⟨k, hk, rfl, HB⟩ := hrel
    obtain ⟨⟨a5, a6⟩, b5, b6⟩ := HQ.out
    have hc := HC.out wr HB.out
    rw [← hc.1] at a5 a6
    rw [← hc.2] at b5 b6
    clear hc
    have hzw : w.heap.size ≤ W.heap.size := by have := HZ.out; omega
    by_cases hlt : k < l.length
    · obtain ⟨b, off, rfl, _, d0, d1, d2, d3, d4⟩ := (H1.out.below HB.out hzw).at_ hlt
      obtain ⟨b', off', rfl, _, e0, e1, e2, e3, e4⟩ := (H3.out.below HB.out hzw).at_ hlt
      obtain ⟨y, hy⟩ : ∃ y, y = l[k] := ⟨_, rfl⟩
      rw [← hy] at d0 d1 d2 d3 d4 e0 e1 e2 e3 e4
      clear hy
      go_wp2_with fail
      go_region
      go_wp2_with fail
      exact ⟨⟨k + 1, by omega, by simp, Lib.hid HB.out.drew⟩, by simp [intOf]; omega⟩
    · have KS := Lib.hid (same17_any A2 B2 c2 d2 m wr ((H2.out.below HB.out hzw).more (by have := HB.out.size; omega)) ((H4.out.below HB.out hzw).more (by have := HB.out.size; omega)) hm)
      go_wp2_with fail
      refine KS.out.mono ?_
      rintro e w9 ⟨rfl, hb9⟩
      have HB9 := Lib.hid hb9
      clear hb9 KS
      go_wp2_with fail
      go_ret
      exact ⟨rfl, HB0.out.trans ((HB.out.trans (HB9.out.mono HB.out.size)).mono HB0.out.size)⟩
end Go.Proofs.YtlmejpkngnilcaaGreatDoor
