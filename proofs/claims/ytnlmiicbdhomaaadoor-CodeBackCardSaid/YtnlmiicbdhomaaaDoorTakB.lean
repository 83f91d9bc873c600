/- The contract of the reference's TakeNumber. -/
import Derived.Test.YtnlmiicbdhomaaaDoorTakA
namespace Go.Proofs.YtnlmiicbdhomaaaDoor
open Go.RowKit

theorem rtake_z_plain {b : List UInt8} (hz : Cod.z0 b = true) : Cod.take b = none := by
  unfold Cod.take
  cases b with
  | nil => exact Cod.tgo_nil _ _ _
  | cons c l =>
    have hc : c = 128 := by simpa [Cod.z0] using hz
    subst hc
    rw [Cod.tgo_on (by omega) (.inr rfl) (by decide), hz, Cod.tgo_z (by omega)]

set_option maxHeartbeats 1000000 in
set_option maxRecDepth 100000 in
theorem rtake_z (A : Option Addr) (c : Nat) (b : List UInt8) (w : World) (h : RdB w w.heap.size A b) (hl : b.length ≤ 140737488355328) (hz : Cod.z0 b = true) :
    Calls Tryd.prog 16 #[.slice A b.length c] w (Taken w (Cod.take b)) := by
  have e := rtake_z_plain hz
  have HE := Lib.hid e; clear e
  have HZ := Lib.hid hz; clear hz
  go_enter Tryd.func16, Tryd.ntmps16
  go_wp2
  go_loop [5, 6] (fun v i => ∃ k n : Nat, k ≤ b.length ∧ i = .int .i64 (k : Int) ∧ v = .int .u64 (n : Int) ∧ n < 18446744073709551616) (fun _ i => b.length - (intOf i).toNat)
  case atStart => exact ⟨0, 0, by omega, rfl, rfl, by omega⟩
  case round =>
    obtain ⟨k, n, hk, rfl, rfl, hn⟩ := hrel
    by_cases hlt : k < b.length
    · by_cases h10 : k < 10
      · obtain ⟨g, off, rfl, hab, hcell⟩ := h.at_ hlt
        obtain ⟨g', off', e0, _, hcell0⟩ := h.at_ (k := 0) (by omega)
        injection e0 with e0
        injection e0 with e1 e2
        subst e1 e2
        rw [Nat.add_zero] at hcell0
        by_cases h57 : (144115188075855871 : Int) < (n : Int)
        · go_wp2
          refine bodyPost_ret (results_tmp3 rfl _ _ _) rfl ?_
          refine ⟨Below.refl _ _, ?_⟩
          rw [HE.out]; rfl
        · have hx := b[k].toNat_lt
          have hz := Cod.z0_int (b := b) (by omega)
          rw [HZ.out] at hz
          have hz1 : (b[0]'(by omega)).toNat = 128 := by have := eq_of_beq hz; omega
          have hk1 : b[k].toNat < 128 → 0 < k := by
            intro hx1
            rcases Nat.eq_zero_or_pos k with h0 | h0
            · subst h0; omega
            · exact h0
          obtain ⟨x, hxx⟩ : ∃ x, x = b[k].toNat := ⟨_, rfl⟩
          obtain ⟨y, hy⟩ : ∃ y, y = (b[0]'(by omega)).toNat := ⟨_, rfl⟩
          rw [← hxx] at hcell hx hk1
          rw [← hy] at hz1 hcell0
          clear hz hxx hy
          subst hz1
          have hx2 : (x : Int) < 256 := by omega
          by_cases hend : (x : Int) < 128
          · have hk0 := hk1 (by omega)
            clear hk1 hx
            go_wp2
            refine bodyPost_ret (results_tmp3 rfl _ _ _) rfl ?_
            refine ⟨Below.refl _ _, ?_⟩
            rw [HE.out]; rfl
          · clear hk1 hx
            go_wp2
            go_round
            case rel => exact ⟨k + 1, n * 128 + x % 128, by omega, by go_num, by go_num, by omega⟩
            case measure => simp [intOf]; omega
      · go_wp2
        refine bodyPost_ret (results_tmp3 rfl _ _ _) rfl ?_
        refine ⟨Below.refl _ _, ?_⟩
        rw [HE.out]; rfl
    · go_wp2
      refine bodyPost_ret (results_tmp3 rfl _ _ _) rfl ?_
      refine ⟨Below.refl _ _, ?_⟩
      rw [HE.out]; rfl

theorem ret_tak2 {x : Int} {n : Nat} {A : Option Addr} {k k' c : Nat} (hx : x = (n : Int)) (h : k = k') : Ending.returned (.tuple #[.int .u64 x, .slice A k c, .int .i64 0]) = .returned (.tuple #[.int .u64 (n : Int), .slice A k' c, .int .i64 0]) := by rw [h, hx]
theorem pow_10 : (128 : Nat) ^ 9 = 9223372036854775808 := by decide

set_option maxHeartbeats 1000000 in
set_option maxRecDepth 100000 in
theorem rtake_n (A : Option Addr) (c : Nat) (b : List UInt8) (w : World) (h : RdB w w.heap.size A b) (hl : b.length ≤ 140737488355328) (hc : b.length ≤ c) (hcc : c ≤ 9223372036854775807) (hz : Cod.z0 b = false) :
    Calls Tryd.prog 16 #[.slice A b.length c] w (Taken w (Cod.take b)) := by
  have HZ := Lib.hid hz; clear hz
  go_enter Tryd.func16, Tryd.ntmps16
  go_wp2
  go_loop [5, 6] (fun v i => ∃ k n : Nat, k ≤ b.length ∧ k ≤ 10 ∧ i = .int .i64 (k : Int) ∧ v = .int .u64 (n : Int) ∧ n < 18446744073709551616 ∧ Hid (Cod.take b = Cod.tgo false k n (b.drop k)) ∧ Hid (0 < k → 128 ^ (k - 1) ≤ n)) (fun _ i => b.length - (intOf i).toNat)
  case atStart => exact ⟨0, 0, by omega, by omega, rfl, rfl, by omega, Lib.hid (by unfold Cod.take; rw [HZ.out]; rfl), Lib.hid (fun h => absurd h (by omega))⟩
  case round =>
    obtain ⟨k, n, hk, hk10, rfl, rfl, hn, HT, HP⟩ := hrel
    by_cases hlt : k < b.length
    · by_cases h10 : k < 10
      · obtain ⟨g, off, rfl, hab, hcell⟩ := h.at_ hlt
        obtain ⟨g', off', e0, _, hcell0⟩ := h.at_ (k := 0) (by omega)
        injection e0 with e0
        injection e0 with e1 e2
        subst e1 e2
        rw [Nat.add_zero] at hcell0
        by_cases h57 : (144115188075855871 : Int) < (n : Int)
        · have e := HT.out
          rw [Cod.tgo_big (by omega)] at e
          have HE := Lib.hid e; clear e
          go_wp2
          refine bodyPost_ret (results_tmp3 rfl _ _ _) rfl ?_
          refine ⟨Below.refl _ _, ?_⟩
          rw [HE.out]; rfl
        · have hx := b[k].toNat_lt
          have hz := Cod.z0_int (b := b) (by omega)
          rw [HZ.out] at hz
          have hp : ¬ b[k].toNat < 128 → 128 ^ k ≤ n * 128 + b[k].toNat % 128 := by
            intro hx1
            rcases Nat.eq_zero_or_pos k with h0 | h0
            · subst h0
              have : ¬ ((b[0].toNat : Int) = 128) := by simpa using hz
              simp; omega
            · have := HP.out h0
              obtain ⟨j, rfl⟩ : ∃ j, k = j + 1 := ⟨k - 1, by omega⟩
              rw [Nat.pow_succ]
              rw [Nat.add_sub_cancel] at this
              omega
          have e := HT.out
          rw [Cod.drop_at b k hlt] at e
          obtain ⟨x, hxx⟩ : ∃ x, x = b[k].toNat := ⟨_, rfl⟩
          obtain ⟨y, hy⟩ : ∃ y, y = (b[0]'(by omega)).toNat := ⟨_, rfl⟩
          rw [← hxx] at hcell hx hp
          rw [← hy] at hz hcell0
          have hx2 : (x : Int) < 256 := by omega
          obtain ⟨m, hm⟩ : ∃ m, m = n * 128 + x % 128 := ⟨_, rfl⟩
          have hm1 : (n : Int) * 128 + (x : Int) % 128 = (m : Int) := by omega
          by_cases hend : (x : Int) < 128
          · rw [Cod.tgo_end (by omega) (.inl rfl) (by omega), ← hxx, ← hm] at e
            have HE := Lib.hid e; clear e
            have hr := h.cut (k := k + 1) (c := c) (by omega) hc
            have hq : b.length - (k + 1) = (b.drop (k + 1)).length := by simp
            obtain ⟨r, hrr⟩ : ∃ r, r = b.drop (k + 1) := ⟨_, rfl⟩
            rw [← hrr] at hr hq HE
            have HR := Lib.hid hr
            have HQ := Lib.hid hq
            have HH := Lib.hid h
            have HM := Lib.hid hm1
            clear hr hq hrr HT h hp hxx hy hx hm1
            by_cases hk0 : 0 < k
            · go_wp2
              go_region
              go_wp2
              all_goals refine bodyPost_ret (results_tmp3 rfl _ _ _) rfl ?_
              all_goals refine ⟨(Below.refl _ _).drew, ?_⟩
              all_goals rw [HE.out]
              all_goals exact ⟨_, _, ret_tak2 HM.out HQ.out, by have := HQ.out; omega, by omega, by
                have q := HR.out
                first
                  | exact Reads.drew q
                  | (rw [if_pos (by assumption)] at q; exact Reads.drew q)
                  | (rw [if_neg (by assumption)] at q; exact Reads.drew q)⟩
            · go_wp2
              go_region
              go_wp2
              all_goals refine bodyPost_ret (results_tmp3 rfl _ _ _) rfl ?_
              all_goals refine ⟨(Below.refl _ _).drew, ?_⟩
              all_goals rw [HE.out]
              all_goals exact ⟨_, _, ret_tak2 HM.out HQ.out, by have := HQ.out; omega, by omega, by
                have q := HR.out
                first
                  | exact Reads.drew q
                  | (rw [if_pos (by assumption)] at q; exact Reads.drew q)
                  | (rw [if_neg (by assumption)] at q; exact Reads.drew q)⟩
          · rw [Cod.tgo_on (by omega) (.inl rfl) (by omega), ← hxx, ← hm] at e
            have HE := Lib.hid e; clear e
            have HP2 := Lib.hid (hp (by omega))
            have HM := Lib.hid hm
            clear hp hx hxx hy hm
            go_wp2
            go_round
            case rel => exact ⟨k + 1, m, by omega, by omega, by go_num, by first | rfl | (rw [hm1]) | go_num, by omega, HE, Lib.hid (fun _ => by rw [HM.out]; exact HP2.out)⟩
            case measure => simp [intOf]; omega
      · have e := HT.out
        have hp := HP.out (by omega)
        have : k = 10 := by omega
        subst this
        have hp2 : 9223372036854775808 ≤ n := by rw [← pow_10]; exact hp
        rw [Cod.tgo_big (by omega)] at e
        have HE := Lib.hid e; clear e hp hp2
        go_wp2
        refine bodyPost_ret (results_tmp3 rfl _ _ _) rfl ?_
        refine ⟨Below.refl _ _, ?_⟩
        rw [HE.out]; rfl
    · have e := HT.out
      rw [List.drop_eq_nil_of_le (by omega), Cod.tgo_nil] at e
      have HE := Lib.hid e; clear e
      go_wp2
      refine bodyPost_ret (results_tmp3 rfl _ _ _) rfl ?_
      refine ⟨Below.refl _ _, ?_⟩
      rw [HE.out]; rfl
theorem rtake_any (A : Option Addr) (c : Nat) (b : List UInt8) (w : World) (h : RdB w w.heap.size A b) (hl : b.length ≤ 140737488355328) (hc : b.length ≤ c) (hcc : c ≤ 9223372036854775807) :
    Calls Tryd.prog 16 #[.slice A b.length c] w (Taken w (Cod.take b)) := by
  cases hz : Cod.z0 b with
  | true => exact rtake_z A c b w h hl hz
  | false => exact rtake_n A c b w h hl hc hcc hz
end Go.Proofs.YtnlmiicbdhomaaaDoor
