/- Contracts of the reference's plus, minus, less: four digits of base 2^32 (written by gen_wide.py). -/
import Derived.Test.YtcegcgbcffdjjaaDoorWide
import Derived.BigRegion
namespace Go.Proofs.YtcegcgbcffdjjaaDoor
open Go.RowKit
theorem arr_size : (Tryd.prog.info? 32).map (fun x => x.size) = some 4 := by kernel_rfl
set_option maxHeartbeats 1000000 in
theorem plus_at (a b c d p q r s o0 o1 o2 o3 s0 s1 s2 s3 c1 c2 c3 c4 : Nat) (ha : a < 4294967296) (hb : b < 4294967296) (hc : c < 4294967296) (hd : d < 4294967296) (hp : p < 4294967296) (hq : q < 4294967296) (hr : r < 4294967296) (hs : s < 4294967296)
    (e0 : s0 = a + p) (f0 : o0 = s0 % 4294967296) (g0 : c1 = s0 / 4294967296) (e1 : s1 = b + q + c1) (f1 : o1 = s1 % 4294967296) (g1 : c2 = s1 / 4294967296) (e2 : s2 = c + r + c2) (f2 : o2 = s2 % 4294967296) (g2 : c3 = s2 / 4294967296) (e3 : s3 = d + s + c3) (f3 : o3 = s3 % 4294967296) (g3 : c4 = s3 / 4294967296) (w : World) :
    Calls Tryd.prog 13 #[.agg #[.int .u64 (a : Int), .int .u64 (b : Int), .int .u64 (c : Int), .int .u64 (d : Int)], .agg #[.int .u64 (p : Int), .int .u64 (q : Int), .int .u64 (r : Int), .int .u64 (s : Int)]] w fun e w' => e = .returned (.agg #[.int .u64 (o0 : Int), .int .u64 (o1 : Int), .int .u64 (o2 : Int), .int .u64 (o3 : Int)]) ∧ Below w.heap.size w w' := by
  have b1 : c1 ≤ 1 := by omega
  have b2 : c2 ≤ 1 := by omega
  have b3 : c3 ≤ 1 := by omega
  have b4 : c4 ≤ 1 := by omega
  have u0 : IntKind.u64.wrap ((a : Int) + (p : Int)) = ((a + p : Nat) : Int) := by rw [IntWalk.u64_in _ (by omega)]; omega
  have v0 : IntKind.u64.wrap ((a : Int) + (p : Int)) = (s0 : Int) := by rw [IntWalk.u64_in _ (by omega)]; omega
  have v0a : IntKind.u64.wrap (IntKind.u64.wrap ((a : Int) + (p : Int)) + 0) = (s0 : Int) := by rw [u0, IntWalk.u64_in _ (by omega)]; omega
  have v0b : IntKind.u64.wrap (s0 : Int) = (s0 : Int) := IntWalk.u64_in _ (by omega)
  have r0 : ((s0 : Int).tmod 4294967296) = (o0 : Int) := by rw [Int.tmod_eq_emod_of_nonneg (by omega)]; omega
  have q0 : ((s0 : Int).tdiv 4294967296) = (c1 : Int) := by rw [Int.tdiv_eq_ediv_of_nonneg (by omega)]; omega
  have w0 : IntKind.u64.wrap (c1 : Int) = (c1 : Int) := IntWalk.u64_in _ (by omega)
  have x0 : IntKind.u64.wrap (o0 : Int) = (o0 : Int) := IntWalk.u64_in _ (by omega)
  have u1 : IntKind.u64.wrap ((b : Int) + (q : Int)) = ((b + q : Nat) : Int) := by rw [IntWalk.u64_in _ (by omega)]; omega
  have v1 : IntKind.u64.wrap (IntKind.u64.wrap ((b : Int) + (q : Int)) + (c1 : Int)) = (s1 : Int) := by rw [u1, IntWalk.u64_in _ (by omega)]; omega
  have r1 : ((s1 : Int).tmod 4294967296) = (o1 : Int) := by rw [Int.tmod_eq_emod_of_nonneg (by omega)]; omega
  have q1 : ((s1 : Int).tdiv 4294967296) = (c2 : Int) := by rw [Int.tdiv_eq_ediv_of_nonneg (by omega)]; omega
  have w1 : IntKind.u64.wrap (c2 : Int) = (c2 : Int) := IntWalk.u64_in _ (by omega)
  have x1 : IntKind.u64.wrap (o1 : Int) = (o1 : Int) := IntWalk.u64_in _ (by omega)
  have u2 : IntKind.u64.wrap ((c : Int) + (r : Int)) = ((c + r : Nat) : Int) := by rw [IntWalk.u64_in _ (by omega)]; omega
  have v2 : IntKind.u64.wrap (IntKind.u64.wrap ((c : Int) + (r : Int)) + (c2 : Int)) = (s2 : Int) := by rw [u2, IntWalk.u64_in _ (by omega)]; omega
  have r2 : ((s2 : Int).tmod 4294967296) = (o2 : Int) := by rw [Int.tmod_eq_emod_of_nonneg (by omega)]; omega
  have q2 : ((s2 : Int).tdiv 4294967296) = (c3 : Int) := by rw [Int.tdiv_eq_ediv_of_nonneg (by omega)]; omega
  have w2 : IntKind.u64.wrap (c3 : Int) = (c3 : Int) := IntWalk.u64_in _ (by omega)
  have x2 : IntKind.u64.wrap (o2 : Int) = (o2 : Int) := IntWalk.u64_in _ (by omega)
  have u3 : IntKind.u64.wrap ((d : Int) + (s : Int)) = ((d + s : Nat) : Int) := by rw [IntWalk.u64_in _ (by omega)]; omega
  have v3 : IntKind.u64.wrap (IntKind.u64.wrap ((d : Int) + (s : Int)) + (c3 : Int)) = (s3 : Int) := by rw [u3, IntWalk.u64_in _ (by omega)]; omega
  have r3 : ((s3 : Int).tmod 4294967296) = (o3 : Int) := by rw [Int.tmod_eq_emod_of_nonneg (by omega)]; omega
  have q3 : ((s3 : Int).tdiv 4294967296) = (c4 : Int) := by rw [Int.tdiv_eq_ediv_of_nonneg (by omega)]; omega
  have w3 : IntKind.u64.wrap (c4 : Int) = (c4 : Int) := IntWalk.u64_in _ (by omega)
  have x3 : IntKind.u64.wrap (o3 : Int) = (o3 : Int) := IntWalk.u64_in _ (by omega)
  obtain ⟨t0, ht0⟩ : ∃ t : Int, IntKind.u64.wrap ((a : Int) + (p : Int)) = t := ⟨_, rfl⟩
  rw [ht0] at v0a
  obtain ⟨t1, ht1⟩ : ∃ t : Int, IntKind.u64.wrap ((b : Int) + (q : Int)) = t := ⟨_, rfl⟩
  rw [ht1] at v1
  obtain ⟨t2, ht2⟩ : ∃ t : Int, IntKind.u64.wrap ((c : Int) + (r : Int)) = t := ⟨_, rfl⟩
  rw [ht2] at v2
  obtain ⟨t3, ht3⟩ : ∃ t : Int, IntKind.u64.wrap ((d : Int) + (s : Int)) = t := ⟨_, rfl⟩
  rw [ht3] at v3
  clear e0 f0 g0 e1 f1 g1 e2 f2 g2 e3 f3 g3 b1 b2 b3 b4 u0 u1 u2 u3
  clear ha hb hc hd hp hq hr hs
  go_enter Tryd.func13, Tryd.ntmps13
  go_wp2_with fail
  go_loopw [6, 7] (fun cc i wr => (i = .int .i64 0 ∧ cc = .int .u64 0 ∧ wr = ((((w.alloc (.cells #[.int .u64 (a : Int), .int .u64 (b : Int), .int .u64 (c : Int), .int .u64 (d : Int)] 32)).alloc (.cells #[.int .u64 (p : Int), .int .u64 (q : Int), .int .u64 (r : Int), .int .u64 (s : Int)] 32)).alloc (.cells #[.int .u64 0, .int .u64 0, .int .u64 0, .int .u64 0] 32)).alloc (.cells #[.int .u64 0, .int .u64 0, .int .u64 0, .int .u64 0] 32))) ∨
    (i = .int .i64 1 ∧ cc = .int .u64 (c1 : Int) ∧ wr = ((((w.alloc (.cells #[.int .u64 (a : Int), .int .u64 (b : Int), .int .u64 (c : Int), .int .u64 (d : Int)] 32)).alloc (.cells #[.int .u64 (p : Int), .int .u64 (q : Int), .int .u64 (r : Int), .int .u64 (s : Int)] 32)).alloc (.cells #[.int .u64 0, .int .u64 0, .int .u64 0, .int .u64 0] 32)).alloc (.cells #[.int .u64 (o0 : Int), .int .u64 0, .int .u64 0, .int .u64 0] 32)).drew) ∨
    (i = .int .i64 2 ∧ cc = .int .u64 (c2 : Int) ∧ wr = ((((w.alloc (.cells #[.int .u64 (a : Int), .int .u64 (b : Int), .int .u64 (c : Int), .int .u64 (d : Int)] 32)).alloc (.cells #[.int .u64 (p : Int), .int .u64 (q : Int), .int .u64 (r : Int), .int .u64 (s : Int)] 32)).alloc (.cells #[.int .u64 0, .int .u64 0, .int .u64 0, .int .u64 0] 32)).alloc (.cells #[.int .u64 (o0 : Int), .int .u64 (o1 : Int), .int .u64 0, .int .u64 0] 32)).drew.drew) ∨
    (i = .int .i64 3 ∧ cc = .int .u64 (c3 : Int) ∧ wr = ((((w.alloc (.cells #[.int .u64 (a : Int), .int .u64 (b : Int), .int .u64 (c : Int), .int .u64 (d : Int)] 32)).alloc (.cells #[.int .u64 (p : Int), .int .u64 (q : Int), .int .u64 (r : Int), .int .u64 (s : Int)] 32)).alloc (.cells #[.int .u64 0, .int .u64 0, .int .u64 0, .int .u64 0] 32)).alloc (.cells #[.int .u64 (o0 : Int), .int .u64 (o1 : Int), .int .u64 (o2 : Int), .int .u64 0] 32)).drew.drew.drew) ∨
    (i = .int .i64 4 ∧ cc = .int .u64 (c4 : Int) ∧ wr = ((((w.alloc (.cells #[.int .u64 (a : Int), .int .u64 (b : Int), .int .u64 (c : Int), .int .u64 (d : Int)] 32)).alloc (.cells #[.int .u64 (p : Int), .int .u64 (q : Int), .int .u64 (r : Int), .int .u64 (s : Int)] 32)).alloc (.cells #[.int .u64 0, .int .u64 0, .int .u64 0, .int .u64 0] 32)).alloc (.cells #[.int .u64 (o0 : Int), .int .u64 (o1 : Int), .int .u64 (o2 : Int), .int .u64 (o3 : Int)] 32)).drew.drew.drew.drew)) (fun _ i _ => (4 - intOf i).toNat)
  case atStart => exact Or.inl ⟨rfl, rfl, rfl⟩
  case round =>
    rcases hrel with ⟨rfl, rfl, rfl⟩ | ⟨rfl, rfl, rfl⟩ | ⟨rfl, rfl, rfl⟩ | ⟨rfl, rfl, rfl⟩ | ⟨rfl, rfl, rfl⟩
    · go_wp2_with fail
      go_region
      go_wp2_with fail
      go_round
      case rel => exact Or.inr (Or.inl ⟨rfl, rfl, by first | trivial | rfl⟩)
      case measure => simp [intOf]
    · go_wp2_with fail
      go_region
      go_wp2_with fail
      go_round
      case rel => exact Or.inr (Or.inr (Or.inl ⟨rfl, rfl, by first | trivial | rfl⟩))
      case measure => simp [intOf]
    · go_wp2_with fail
      go_region
      go_wp2_with fail
      go_round
      case rel => exact Or.inr (Or.inr (Or.inr (Or.inl ⟨rfl, rfl, by first | trivial | rfl⟩)))
      case measure => simp [intOf]
    · go_wp2_with fail
      go_region
      go_wp2_with fail
      go_round
      case rel => exact Or.inr (Or.inr (Or.inr (Or.inr (⟨rfl, rfl, by first | trivial | rfl⟩))))
      case measure => simp [intOf]
    · go_wp2_with fail
      refine bodyPost_ret (results_cell_row rfl _ _ (w.heap.size + 1 + 1) 32 #[.int .u64 (o0 : Int), .int .u64 (o1 : Int), .int .u64 (o2 : Int), .int .u64 (o3 : Int)] (0, 0) _ rfl ?hg Tryd.underlying32 rfl arr_size) rfl ?_
      case hg =>
        have hh : (((((w.alloc (.cells #[.int .u64 (a : Int), .int .u64 (b : Int), .int .u64 (c : Int), .int .u64 (d : Int)] 32)).alloc (.cells #[.int .u64 (p : Int), .int .u64 (q : Int), .int .u64 (r : Int), .int .u64 (s : Int)] 32)).alloc (.cells #[.int .u64 (o0 : Int), .int .u64 (o1 : Int), .int .u64 (o2 : Int), .int .u64 (o3 : Int)] 32)).alloc (.cells #[.int .u64 (o0 : Int), .int .u64 (o1 : Int), .int .u64 (o2 : Int), .int .u64 (o3 : Int)] 32))).heap[w.heap.size + 1 + 1]? = some (.cells #[.int .u64 (o0 : Int), .int .u64 (o1 : Int), .int .u64 (o2 : Int), .int .u64 (o3 : Int)] 32) := by
          rw [Below.heap_alloc _ _ _ (by simp)]
          have := heap_alloc_new ((w.alloc (.cells #[.int .u64 (a : Int), .int .u64 (b : Int), .int .u64 (c : Int), .int .u64 (d : Int)] 32)).alloc (.cells #[.int .u64 (p : Int), .int .u64 (q : Int), .int .u64 (r : Int), .int .u64 (s : Int)] 32)) (.cells #[.int .u64 (o0 : Int), .int .u64 (o1 : Int), .int .u64 (o2 : Int), .int .u64 (o3 : Int)] 32)
          simpa using this
        exact hh
      exact ⟨rfl, (((((Below.refl _ _).alloc (Nat.le_refl _) _).alloc (by simp) _).alloc (by simp; omega) _).alloc (by simp; omega) _).drew.drew.drew.drew⟩
set_option maxHeartbeats 1000000 in
theorem minus_at (a b c d p q r s o0 o1 o2 o3 s0 s1 s2 s3 c1 c2 c3 c4 : Nat) (ha : a < 4294967296) (hb : b < 4294967296) (hc : c < 4294967296) (hd : d < 4294967296) (hp : p < 4294967296) (hq : q < 4294967296) (hr : r < 4294967296) (hs : s < 4294967296)
    (e0 : s0 + p = a + 4294967296) (f0 : o0 = s0 % 4294967296) (g0 : c1 + s0 / 4294967296 = 1) (e1 : s1 + q + c1 = b + 4294967296) (f1 : o1 = s1 % 4294967296) (g1 : c2 + s1 / 4294967296 = 1) (e2 : s2 + r + c2 = c + 4294967296) (f2 : o2 = s2 % 4294967296) (g2 : c3 + s2 / 4294967296 = 1) (e3 : s3 + s + c3 = d + 4294967296) (f3 : o3 = s3 % 4294967296) (g3 : c4 + s3 / 4294967296 = 1) (w : World) :
    Calls Tryd.prog 15 #[.agg #[.int .u64 (a : Int), .int .u64 (b : Int), .int .u64 (c : Int), .int .u64 (d : Int)], .agg #[.int .u64 (p : Int), .int .u64 (q : Int), .int .u64 (r : Int), .int .u64 (s : Int)]] w fun e w' => e = .returned (.agg #[.int .u64 (o0 : Int), .int .u64 (o1 : Int), .int .u64 (o2 : Int), .int .u64 (o3 : Int)]) ∧ Below w.heap.size w w' := by
  have b1 : c1 ≤ 1 := by omega
  have b2 : c2 ≤ 1 := by omega
  have b3 : c3 ≤ 1 := by omega
  have b4 : c4 ≤ 1 := by omega
  obtain ⟨m0, hm0⟩ : ∃ m : Nat, m = a + 4294967296 := ⟨_, rfl⟩
  have y0 : IntKind.u64.wrap ((a : Int) + 4294967296) = (m0 : Int) := by rw [IntWalk.u64_in _ (by omega)]; omega
  obtain ⟨n0, hn0⟩ : ∃ n : Nat, n = m0 - p := ⟨_, rfl⟩
  have u0 : IntKind.u64.wrap ((m0 : Int) - (p : Int)) = (n0 : Int) := by rw [IntWalk.u64_in _ (by omega)]; omega
  have v0 : IntKind.u64.wrap ((n0 : Int) - 0) = (s0 : Int) := by rw [IntWalk.u64_in _ (by omega)]; omega
  have v0b : IntKind.u64.wrap (n0 : Int) = (s0 : Int) := by rw [IntWalk.u64_in _ (by omega)]; omega
  have r0 : ((s0 : Int).tmod 4294967296) = (o0 : Int) := by rw [Int.tmod_eq_emod_of_nonneg (by omega)]; omega
  obtain ⟨d0, hd0⟩ : ∃ d : Nat, d = s0 / 4294967296 := ⟨_, rfl⟩
  have q0 : ((s0 : Int).tdiv 4294967296) = (d0 : Int) := by rw [Int.tdiv_eq_ediv_of_nonneg (by omega)]; omega
  have w0 : IntKind.u64.wrap (d0 : Int) = (d0 : Int) := IntWalk.u64_in _ (by omega)
  have z0 : IntKind.u64.wrap (1 - (d0 : Int)) = (c1 : Int) := by rw [IntWalk.u64_in _ (by omega)]; omega
  have x0 : IntKind.u64.wrap (o0 : Int) = (o0 : Int) := IntWalk.u64_in _ (by omega)
  obtain ⟨m1, hm1⟩ : ∃ m : Nat, m = b + 4294967296 := ⟨_, rfl⟩
  have y1 : IntKind.u64.wrap ((b : Int) + 4294967296) = (m1 : Int) := by rw [IntWalk.u64_in _ (by omega)]; omega
  obtain ⟨n1, hn1⟩ : ∃ n : Nat, n = m1 - q := ⟨_, rfl⟩
  have u1 : IntKind.u64.wrap ((m1 : Int) - (q : Int)) = (n1 : Int) := by rw [IntWalk.u64_in _ (by omega)]; omega
  have v1 : IntKind.u64.wrap ((n1 : Int) - (c1 : Int)) = (s1 : Int) := by rw [IntWalk.u64_in _ (by omega)]; omega
  have r1 : ((s1 : Int).tmod 4294967296) = (o1 : Int) := by rw [Int.tmod_eq_emod_of_nonneg (by omega)]; omega
  obtain ⟨d1, hd1⟩ : ∃ d : Nat, d = s1 / 4294967296 := ⟨_, rfl⟩
  have q1 : ((s1 : Int).tdiv 4294967296) = (d1 : Int) := by rw [Int.tdiv_eq_ediv_of_nonneg (by omega)]; omega
  have w1 : IntKind.u64.wrap (d1 : Int) = (d1 : Int) := IntWalk.u64_in _ (by omega)
  have z1 : IntKind.u64.wrap (1 - (d1 : Int)) = (c2 : Int) := by rw [IntWalk.u64_in _ (by omega)]; omega
  have x1 : IntKind.u64.wrap (o1 : Int) = (o1 : Int) := IntWalk.u64_in _ (by omega)
  obtain ⟨m2, hm2⟩ : ∃ m : Nat, m = c + 4294967296 := ⟨_, rfl⟩
  have y2 : IntKind.u64.wrap ((c : Int) + 4294967296) = (m2 : Int) := by rw [IntWalk.u64_in _ (by omega)]; omega
  obtain ⟨n2, hn2⟩ : ∃ n : Nat, n = m2 - r := ⟨_, rfl⟩
  have u2 : IntKind.u64.wrap ((m2 : Int) - (r : Int)) = (n2 : Int) := by rw [IntWalk.u64_in _ (by omega)]; omega
  have v2 : IntKind.u64.wrap ((n2 : Int) - (c2 : Int)) = (s2 : Int) := by rw [IntWalk.u64_in _ (by omega)]; omega
  have r2 : ((s2 : Int).tmod 4294967296) = (o2 : Int) := by rw [Int.tmod_eq_emod_of_nonneg (by omega)]; omega
  obtain ⟨d2, hd2⟩ : ∃ d : Nat, d = s2 / 4294967296 := ⟨_, rfl⟩
  have q2 : ((s2 : Int).tdiv 4294967296) = (d2 : Int) := by rw [Int.tdiv_eq_ediv_of_nonneg (by omega)]; omega
  have w2 : IntKind.u64.wrap (d2 : Int) = (d2 : Int) := IntWalk.u64_in _ (by omega)
  have z2 : IntKind.u64.wrap (1 - (d2 : Int)) = (c3 : Int) := by rw [IntWalk.u64_in _ (by omega)]; omega
  have x2 : IntKind.u64.wrap (o2 : Int) = (o2 : Int) := IntWalk.u64_in _ (by omega)
  obtain ⟨m3, hm3⟩ : ∃ m : Nat, m = d + 4294967296 := ⟨_, rfl⟩
  have y3 : IntKind.u64.wrap ((d : Int) + 4294967296) = (m3 : Int) := by rw [IntWalk.u64_in _ (by omega)]; omega
  obtain ⟨n3, hn3⟩ : ∃ n : Nat, n = m3 - s := ⟨_, rfl⟩
  have u3 : IntKind.u64.wrap ((m3 : Int) - (s : Int)) = (n3 : Int) := by rw [IntWalk.u64_in _ (by omega)]; omega
  have v3 : IntKind.u64.wrap ((n3 : Int) - (c3 : Int)) = (s3 : Int) := by rw [IntWalk.u64_in _ (by omega)]; omega
  have r3 : ((s3 : Int).tmod 4294967296) = (o3 : Int) := by rw [Int.tmod_eq_emod_of_nonneg (by omega)]; omega
  obtain ⟨d3, hd3⟩ : ∃ d : Nat, d = s3 / 4294967296 := ⟨_, rfl⟩
  have q3 : ((s3 : Int).tdiv 4294967296) = (d3 : Int) := by rw [Int.tdiv_eq_ediv_of_nonneg (by omega)]; omega
  have w3 : IntKind.u64.wrap (d3 : Int) = (d3 : Int) := IntWalk.u64_in _ (by omega)
  have z3 : IntKind.u64.wrap (1 - (d3 : Int)) = (c4 : Int) := by rw [IntWalk.u64_in _ (by omega)]; omega
  have x3 : IntKind.u64.wrap (o3 : Int) = (o3 : Int) := IntWalk.u64_in _ (by omega)
  clear e0 f0 g0 e1 f1 g1 e2 f2 g2 e3 f3 g3 b1 b2 b3 b4 hm0 hn0 hd0 hm1 hn1 hd1 hm2 hn2 hd2 hm3 hn3 hd3
  clear ha hb hc hd hp hq hr hs
  go_enter Tryd.func15, Tryd.ntmps15
  go_wp2_with fail
  go_loopw [6, 7] (fun cc i wr => (i = .int .i64 0 ∧ cc = .int .u64 0 ∧ wr = ((((w.alloc (.cells #[.int .u64 (a : Int), .int .u64 (b : Int), .int .u64 (c : Int), .int .u64 (d : Int)] 32)).alloc (.cells #[.int .u64 (p : Int), .int .u64 (q : Int), .int .u64 (r : Int), .int .u64 (s : Int)] 32)).alloc (.cells #[.int .u64 0, .int .u64 0, .int .u64 0, .int .u64 0] 32)).alloc (.cells #[.int .u64 0, .int .u64 0, .int .u64 0, .int .u64 0] 32))) ∨
    (i = .int .i64 1 ∧ cc = .int .u64 (c1 : Int) ∧ wr = ((((w.alloc (.cells #[.int .u64 (a : Int), .int .u64 (b : Int), .int .u64 (c : Int), .int .u64 (d : Int)] 32)).alloc (.cells #[.int .u64 (p : Int), .int .u64 (q : Int), .int .u64 (r : Int), .int .u64 (s : Int)] 32)).alloc (.cells #[.int .u64 0, .int .u64 0, .int .u64 0, .int .u64 0] 32)).alloc (.cells #[.int .u64 (o0 : Int), .int .u64 0, .int .u64 0, .int .u64 0] 32)).drew) ∨
    (i = .int .i64 2 ∧ cc = .int .u64 (c2 : Int) ∧ wr = ((((w.alloc (.cells #[.int .u64 (a : Int), .int .u64 (b : Int), .int .u64 (c : Int), .int .u64 (d : Int)] 32)).alloc (.cells #[.int .u64 (p : Int), .int .u64 (q : Int), .int .u64 (r : Int), .int .u64 (s : Int)] 32)).alloc (.cells #[.int .u64 0, .int .u64 0, .int .u64 0, .int .u64 0] 32)).alloc (.cells #[.int .u64 (o0 : Int), .int .u64 (o1 : Int), .int .u64 0, .int .u64 0] 32)).drew.drew) ∨
    (i = .int .i64 3 ∧ cc = .int .u64 (c3 : Int) ∧ wr = ((((w.alloc (.cells #[.int .u64 (a : Int), .int .u64 (b : Int), .int .u64 (c : Int), .int .u64 (d : Int)] 32)).alloc (.cells #[.int .u64 (p : Int), .int .u64 (q : Int), .int .u64 (r : Int), .int .u64 (s : Int)] 32)).alloc (.cells #[.int .u64 0, .int .u64 0, .int .u64 0, .int .u64 0] 32)).alloc (.cells #[.int .u64 (o0 : Int), .int .u64 (o1 : Int), .int .u64 (o2 : Int), .int .u64 0] 32)).drew.drew.drew) ∨
    (i = .int .i64 4 ∧ cc = .int .u64 (c4 : Int) ∧ wr = ((((w.alloc (.cells #[.int .u64 (a : Int), .int .u64 (b : Int), .int .u64 (c : Int), .int .u64 (d : Int)] 32)).alloc (.cells #[.int .u64 (p : Int), .int .u64 (q : Int), .int .u64 (r : Int), .int .u64 (s : Int)] 32)).alloc (.cells #[.int .u64 0, .int .u64 0, .int .u64 0, .int .u64 0] 32)).alloc (.cells #[.int .u64 (o0 : Int), .int .u64 (o1 : Int), .int .u64 (o2 : Int), .int .u64 (o3 : Int)] 32)).drew.drew.drew.drew)) (fun _ i _ => (4 - intOf i).toNat)
  case atStart => exact Or.inl ⟨rfl, rfl, rfl⟩
  case round =>
    rcases hrel with ⟨rfl, rfl, rfl⟩ | ⟨rfl, rfl, rfl⟩ | ⟨rfl, rfl, rfl⟩ | ⟨rfl, rfl, rfl⟩ | ⟨rfl, rfl, rfl⟩
    · go_wp2_with fail
      go_region
      go_wp2_with fail
      go_round
      case rel => exact Or.inr (Or.inl ⟨rfl, rfl, by first | trivial | rfl⟩)
      case measure => simp [intOf]
    · go_wp2_with fail
      go_region
      go_wp2_with fail
      go_round
      case rel => exact Or.inr (Or.inr (Or.inl ⟨rfl, rfl, by first | trivial | rfl⟩))
      case measure => simp [intOf]
    · go_wp2_with fail
      go_region
      go_wp2_with fail
      go_round
      case rel => exact Or.inr (Or.inr (Or.inr (Or.inl ⟨rfl, rfl, by first | trivial | rfl⟩)))
      case measure => simp [intOf]
    · go_wp2_with fail
      go_region
      go_wp2_with fail
      go_round
      case rel => exact Or.inr (Or.inr (Or.inr (Or.inr (⟨rfl, rfl, by first | trivial | rfl⟩))))
      case measure => simp [intOf]
    · go_wp2_with fail
      refine bodyPost_ret (results_cell_row rfl _ _ (w.heap.size + 1 + 1) 32 #[.int .u64 (o0 : Int), .int .u64 (o1 : Int), .int .u64 (o2 : Int), .int .u64 (o3 : Int)] (0, 0) _ rfl ?hg Tryd.underlying32 rfl arr_size) rfl ?_
      case hg =>
        have hh : (((((w.alloc (.cells #[.int .u64 (a : Int), .int .u64 (b : Int), .int .u64 (c : Int), .int .u64 (d : Int)] 32)).alloc (.cells #[.int .u64 (p : Int), .int .u64 (q : Int), .int .u64 (r : Int), .int .u64 (s : Int)] 32)).alloc (.cells #[.int .u64 (o0 : Int), .int .u64 (o1 : Int), .int .u64 (o2 : Int), .int .u64 (o3 : Int)] 32)).alloc (.cells #[.int .u64 (o0 : Int), .int .u64 (o1 : Int), .int .u64 (o2 : Int), .int .u64 (o3 : Int)] 32))).heap[w.heap.size + 1 + 1]? = some (.cells #[.int .u64 (o0 : Int), .int .u64 (o1 : Int), .int .u64 (o2 : Int), .int .u64 (o3 : Int)] 32) := by
          rw [Below.heap_alloc _ _ _ (by simp)]
          have := heap_alloc_new ((w.alloc (.cells #[.int .u64 (a : Int), .int .u64 (b : Int), .int .u64 (c : Int), .int .u64 (d : Int)] 32)).alloc (.cells #[.int .u64 (p : Int), .int .u64 (q : Int), .int .u64 (r : Int), .int .u64 (s : Int)] 32)) (.cells #[.int .u64 (o0 : Int), .int .u64 (o1 : Int), .int .u64 (o2 : Int), .int .u64 (o3 : Int)] 32)
          simpa using this
        exact hh
      exact ⟨rfl, (((((Below.refl _ _).alloc (Nat.le_refl _) _).alloc (by simp) _).alloc (by simp; omega) _).alloc (by simp; omega) _).drew.drew.drew.drew⟩
set_option maxHeartbeats 1000000 in
theorem less_any (a b c d p q r s : Nat) (ha : a < 4294967296) (hb : b < 4294967296) (hc : c < 4294967296) (hp : p < 4294967296) (hq : q < 4294967296) (hr : r < 4294967296) (w : World) :
    Calls Tryd.prog 14 #[.agg #[.int .u64 (a : Int), .int .u64 (b : Int), .int .u64 (c : Int), .int .u64 (d : Int)], .agg #[.int .u64 (p : Int), .int .u64 (q : Int), .int .u64 (r : Int), .int .u64 (s : Int)]] w fun e w' => e = .returned (.bool (decide (mag a b c d < mag p q r s))) ∧ Below w.heap.size w w' := by
  obtain ⟨z, hz⟩ : ∃ z, z = decide (mag a b c d < mag p q r s) := ⟨_, rfl⟩
  rw [← hz]
  have k3 : Hid (d ≠ s → z = decide (d < s)) := Lib.hid (by
    intros; subst hz; apply decide_eq_decide.2; unfold mag; omega)
  have k2 : Hid (d = s → c ≠ r → z = decide (c < r)) := Lib.hid (by
    intros; subst hz; apply decide_eq_decide.2; unfold mag; omega)
  have k1 : Hid (d = s → c = r → b ≠ q → z = decide (b < q)) := Lib.hid (by
    intros; subst hz; apply decide_eq_decide.2; unfold mag; omega)
  have k0 : Hid (d = s → c = r → b = q → a ≠ p → z = decide (a < p)) := Lib.hid (by
    intros; subst hz; apply decide_eq_decide.2; unfold mag; omega)
  have kz : Hid (d = s → c = r → b = q → a = p → z = false) := Lib.hid (by
    intros; subst hz; apply decide_eq_false; unfold mag; omega)
  clear hz
  go_enter Tryd.func14, Tryd.ntmps14
  go_wp2_with fail
  go_loopw [5] (fun i wr => (i = .int .i64 3 ∧ wr = ((w.alloc (.cells #[.int .u64 (a : Int), .int .u64 (b : Int), .int .u64 (c : Int), .int .u64 (d : Int)] 32)).alloc (.cells #[.int .u64 (p : Int), .int .u64 (q : Int), .int .u64 (r : Int), .int .u64 (s : Int)] 32))) ∨
    (i = .int .i64 2 ∧ wr = ((w.alloc (.cells #[.int .u64 (a : Int), .int .u64 (b : Int), .int .u64 (c : Int), .int .u64 (d : Int)] 32)).alloc (.cells #[.int .u64 (p : Int), .int .u64 (q : Int), .int .u64 (r : Int), .int .u64 (s : Int)] 32)).drew ∧ Hid (d = s)) ∨
    (i = .int .i64 1 ∧ wr = ((w.alloc (.cells #[.int .u64 (a : Int), .int .u64 (b : Int), .int .u64 (c : Int), .int .u64 (d : Int)] 32)).alloc (.cells #[.int .u64 (p : Int), .int .u64 (q : Int), .int .u64 (r : Int), .int .u64 (s : Int)] 32)).drew.drew ∧ Hid (d = s) ∧ Hid (c = r)) ∨
    (i = .int .i64 0 ∧ wr = ((w.alloc (.cells #[.int .u64 (a : Int), .int .u64 (b : Int), .int .u64 (c : Int), .int .u64 (d : Int)] 32)).alloc (.cells #[.int .u64 (p : Int), .int .u64 (q : Int), .int .u64 (r : Int), .int .u64 (s : Int)] 32)).drew.drew.drew ∧ Hid (d = s) ∧ Hid (c = r) ∧ Hid (b = q)) ∨
    (i = .int .i64 (-1) ∧ wr = ((w.alloc (.cells #[.int .u64 (a : Int), .int .u64 (b : Int), .int .u64 (c : Int), .int .u64 (d : Int)] 32)).alloc (.cells #[.int .u64 (p : Int), .int .u64 (q : Int), .int .u64 (r : Int), .int .u64 (s : Int)] 32)).drew.drew.drew.drew ∧ Hid (d = s) ∧ Hid (c = r) ∧ Hid (b = q) ∧ Hid (a = p))) (fun i _ => (intOf i + 1).toNat)
  case atStart => exact Or.inl ⟨rfl, rfl⟩
  case round =>
    rcases hrel with ⟨rfl, rfl⟩ | ⟨rfl, rfl, E3⟩ | ⟨rfl, rfl, E3, E2⟩ | ⟨rfl, rfl, E3, E2, E1⟩ | ⟨rfl, rfl, E3, E2, E1, E0⟩
    · by_cases hd : d = s
      · have hd1 : ((d : Int) == (s : Int)) = true := by simp; omega
        have hd2 : ((d : Int) != (s : Int)) = false := by simp; omega
        have HD := Lib.hid hd; clear hd
        go_wp2_with fail
        go_region
        go_wp2_with fail
        go_round
        case rel => exact Or.inr (Or.inl ⟨rfl, by first | trivial | rfl, HD⟩)
        case measure => simp [intOf]
      · have hd1 : ((d : Int) == (s : Int)) = false := by simp; omega
        have hd2 : ((d : Int) != (s : Int)) = true := by simp; omega
        have HK := Lib.hid (k3.out  hd); clear hd
        go_wp2_with fail
        go_region
        go_wp2_with fail
        go_region
        go_wp2_with fail
        go_ret
        exact ⟨by rw [HK.out]; rfl, (((Below.refl _ _).alloc (Nat.le_refl _) _).alloc (by simp) _).drew.drew⟩
    · by_cases hd : c = r
      · have hd1 : ((c : Int) == (r : Int)) = true := by simp; omega
        have hd2 : ((c : Int) != (r : Int)) = false := by simp; omega
        have HD := Lib.hid hd; clear hd
        go_wp2_with fail
        go_region
        go_wp2_with fail
        go_round
        case rel => exact Or.inr (Or.inr (Or.inl ⟨rfl, by first | trivial | rfl, E3, HD⟩))
        case measure => simp [intOf]
      · have hd1 : ((c : Int) == (r : Int)) = false := by simp; omega
        have hd2 : ((c : Int) != (r : Int)) = true := by simp; omega
        have HK := Lib.hid (k2.out E3.out hd); clear hd
        go_wp2_with fail
        go_region
        go_wp2_with fail
        go_region
        go_wp2_with fail
        go_ret
        exact ⟨by rw [HK.out]; rfl, (((Below.refl _ _).alloc (Nat.le_refl _) _).alloc (by simp) _).drew.drew.drew⟩
    · by_cases hd : b = q
      · have hd1 : ((b : Int) == (q : Int)) = true := by simp; omega
        have hd2 : ((b : Int) != (q : Int)) = false := by simp; omega
        have HD := Lib.hid hd; clear hd
        go_wp2_with fail
        go_region
        go_wp2_with fail
        go_round
        case rel => exact Or.inr (Or.inr (Or.inr (Or.inl ⟨rfl, by first | trivial | rfl, E3, E2, HD⟩)))
        case measure => simp [intOf]
      · have hd1 : ((b : Int) == (q : Int)) = false := by simp; omega
        have hd2 : ((b : Int) != (q : Int)) = true := by simp; omega
        have HK := Lib.hid (k1.out E3.out E2.out hd); clear hd
        go_wp2_with fail
        go_region
        go_wp2_with fail
        go_region
        go_wp2_with fail
        go_ret
        exact ⟨by rw [HK.out]; rfl, (((Below.refl _ _).alloc (Nat.le_refl _) _).alloc (by simp) _).drew.drew.drew.drew⟩
    · by_cases hd : a = p
      · have hd1 : ((a : Int) == (p : Int)) = true := by simp; omega
        have hd2 : ((a : Int) != (p : Int)) = false := by simp; omega
        have HD := Lib.hid hd; clear hd
        go_wp2_with fail
        go_region
        go_wp2_with fail
        go_round
        case rel => exact Or.inr (Or.inr (Or.inr (Or.inr (⟨rfl, by first | trivial | rfl, E3, E2, E1, HD⟩))))
        case measure => simp [intOf]
      · have hd1 : ((a : Int) == (p : Int)) = false := by simp; omega
        have hd2 : ((a : Int) != (p : Int)) = true := by simp; omega
        have HK := Lib.hid (k0.out E3.out E2.out E1.out hd); clear hd
        go_wp2_with fail
        go_region
        go_wp2_with fail
        go_region
        go_wp2_with fail
        go_ret
        exact ⟨by rw [HK.out]; rfl, (((Below.refl _ _).alloc (Nat.le_refl _) _).alloc (by simp) _).drew.drew.drew.drew.drew⟩
    · have HK := Lib.hid (kz.out E3.out E2.out E1.out E0.out)
      go_wp2_with fail
      go_ret
      exact ⟨by rw [HK.out]; rfl, (((Below.refl _ _).alloc (Nat.le_refl _) _).alloc (by simp) _).drew.drew.drew.drew⟩
end Go.Proofs.YtcegcgbcffdjjaaDoor
