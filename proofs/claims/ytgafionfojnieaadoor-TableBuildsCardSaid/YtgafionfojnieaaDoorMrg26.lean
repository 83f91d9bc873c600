/- Parts of the proof, one behind the other: TakeNumber, the program's and the reference's, with more told of the rest: its capacity and its block. -/
import Derived.Test.YtgafionfojnieaaDoorMrg04
namespace Go.Proofs.YtgafionfojnieaaDoor
open Go.RowKit

/-- B's block is A's, or one of bytes, from n on. -/
def Frs (w : World) (n : Nat) (A B : Option Addr) : Prop := ∀ g, blk B = some g → blk A = some g ∨ (n ≤ g ∧ ∃ cs fr, w.heap[g]? = some (.cells cs 5 fr))
theorem Frs.self (w : World) (n : Nat) (A : Option Addr) : Frs w n A A := fun _ h => .inl h
theorem Frs.nil (w : World) (n : Nat) (A : Option Addr) : Frs w n A none := fun g h => by cases h
theorem own_tag {w : World} {base c g : Nat} {e : TypeId} {A : Option Addr} {l : List UInt8} (h : Own w base e A c l) (hg : blk A = some g) : base ≤ g ∧ ∃ cs fr, w.heap[g]? = some (.cells cs e fr) := by
  refine ⟨(h.blk_ge g hg).1, ?_⟩
  rcases h.2 with ⟨hv, _⟩ | ⟨g', cap, cur, hv, _, hh, _⟩
  · injection hv with hv; subst hv; cases hg
  · injection hv with hv
    subst hv
    injection hg with hg
    subst hg
    exact ⟨_, _, hh⟩
theorem Own.frs {w : World} {base c : Nat} {A0 A : Option Addr} {l : List UInt8} (h : Own w base 5 A c l) : Frs w base A0 A := fun _ hg => .inr (own_tag h hg)
theorem Frs.below {w w' : World} {n : Nat} {A B : Option Addr} (h : Frs w n A B) (hb : Below w.heap.size w w') : Frs w' n A B := fun g hg => by
  rcases h g hg with h1 | ⟨h1, cs, fr, h2⟩
  · exact .inl h1
  · exact .inr ⟨h1, cs, fr, (hb.block g (Array.getElem?_eq_some_iff.1 h2).1).trans h2⟩
theorem Frs.trans {w w' : World} {n m : Nat} {A B C : Option Addr} (h : Frs w n A B) (h2 : Frs w' m B C) (hb : Below w.heap.size w w') (hm : n ≤ m) : Frs w' n A C := fun g hg => by
  rcases h2 g hg with h3 | ⟨h3, h4⟩
  · exact h.below hb g h3
  · exact .inr ⟨by omega, h4⟩
theorem Frs.add {w : World} {n k : Nat} {A : Option Addr} {ad : Addr} (h : Frs w n A (some ad)) : Frs w n A (some (ad.add k)) := fun g hg => h g (by rw [← hg]; simp [blk, block_of_add])
def TakenF (w : World) (A0 : Option Addr) (v : Option (Nat × List UInt8)) (e : Ending) (w' : World) : Prop :=
  Below w.heap.size w w' ∧ match v with
  | none => e = .returned (.tuple #[.int .u64 0, .slice none 0 0, .int .i64 3])
  | some (n, r) => ∃ A c, e = .returned (.tuple #[.int .u64 (n : Int), .slice A r.length c, .int .i64 0]) ∧ r.length ≤ c ∧ c ≤ 9223372036854775807 ∧ RdB w' w'.heap.size A r ∧ Frs w' w.heap.size A0 A
theorem takenF_none {w w' : World} {A0 : Option Addr} {e : Ending} (h : TakenF w A0 none e w') : Below w.heap.size w w' ∧ e = .returned (.tuple #[.int .u64 0, .slice none 0 0, .int .i64 3]) := h
theorem takenF_some {w w' : World} {A0 : Option Addr} {e : Ending} {n : Nat} {r : List UInt8} (h : TakenF w A0 (some (n, r)) e w') : Below w.heap.size w w' ∧ ∃ A c, e = .returned (.tuple #[.int .u64 (n : Int), .slice A r.length c, .int .i64 0]) ∧ r.length ≤ c ∧ c ≤ 9223372036854775807 ∧ RdB w' w'.heap.size A r ∧ Frs w' w.heap.size A0 A := h
set_option maxHeartbeats 1000000 in
set_option maxRecDepth 100000 in
theorem takeF_any (A : Option Addr) (c : Nat) (b : List UInt8) (w : World) (h : RdB w w.heap.size A b) (hl : b.length ≤ 140737488355328) (hc : b.length ≤ c) (hcc : c ≤ 9223372036854775807) :
    Calls Tryd.prog 34 #[.slice A b.length c] w (TakenF w A (Cod.take b)) := by
  go_enter Tryd.func34, Tryd.ntmps34
  go_wp2
  go_loop [5, 10] (fun v i => ∃ k n : Nat, k ≤ b.length ∧ i = .int .i64 (k : Int) ∧ v = .int .u64 (n : Int) ∧ n < 18446744073709551616 ∧ Hid (Cod.take b = Cod.tgo (Cod.z0 b) k n (b.drop k))) (fun _ i => b.length - (intOf i).toNat)
  case atStart => exact ⟨0, 0, by omega, rfl, rfl, by omega, Lib.hid rfl⟩
  case round =>
    obtain ⟨k, n, hk, rfl, rfl, hn, HT⟩ := hrel
    by_cases hlt : k < b.length
    · obtain ⟨g, off, rfl, hab, hcell⟩ := h.at_ hlt
      obtain ⟨g', off', e0, _, hcell0⟩ := h.at_ (k := 0) (by omega)
      injection e0 with e0
      injection e0 with e1 e2
      subst e1 e2
      rw [Nat.add_zero] at hcell0
      by_cases h57 : (144115188075855872 : Int) ≤ (n : Int)
      · have e := HT.out
        rw [Cod.tgo_big (by omega)] at e
        have HE := Lib.hid e; clear e
        go_wp2
        refine bodyPost_ret (results_tmp3 rfl _ _ _) rfl ?_
        refine ⟨Below.refl _ _, ?_⟩
        rw [HE.out]; rfl
      · have hx := b[k].toNat_lt
        have hz := Cod.z0_int (b := b) (by omega)
        obtain ⟨y, hy⟩ : ∃ y, y = (b[0]'(by omega)).toNat := ⟨_, rfl⟩
        rw [← hy] at hcell0 hz
        clear hy
        by_cases hzk : Cod.z0 b = true ∧ 0 < k
        · obtain ⟨hz1, hk0⟩ := hzk
          have e := HT.out
          rw [hz1, Cod.tgo_z hk0] at e
          have HE := Lib.hid e; clear e
          rw [hz1] at hz
          go_wp2
          refine bodyPost_ret (results_tmp3 rfl _ _ _) rfl ?_
          refine ⟨Below.refl _ _, ?_⟩
          rw [HE.out]; rfl
        · have hzk' : Cod.z0 b = false ∨ k = 0 := by
            cases hz1 : Cod.z0 b with
            | false => exact .inl rfl
            | true => exact .inr (by simp [hz1] at hzk; omega)
          have hlow := low7 hx
          have hjoin := join7 (n := n) (x := b[k].toNat) (by omega)
          obtain ⟨m, hm⟩ : ∃ m, m = n * 128 + b[k].toNat % 128 := ⟨_, rfl⟩
          rw [← hm] at hjoin
          have hm2 : m < 18446744073709551616 := by omega
          have e := HT.out
          rw [Cod.drop_at b k hlt] at e
          by_cases hend : (b[k].toNat : Int) < 128
          · rw [Cod.tgo_end (by omega) hzk' (by omega), ← hm] at e
            have HE := Lib.hid e; clear e
            obtain ⟨x, hxx⟩ : ∃ x, x = b[k].toNat := ⟨_, rfl⟩
            rw [← hxx] at hlow hjoin hend hcell hx
            have hx2 : (x : Int) < 256 := by omega
            clear hm hxx hx
            have hn' : (n : Int) < 144115188075855872 := by omega
            have hm' : (m : Int) < 18446744073709551616 := by omega
            clear hn hm2
            by_cases hk0 : 0 < k
            · have hz1 : Cod.z0 b = false := hzk'.resolve_right (by omega)
              rw [hz1] at hz
              clear hzk hzk'
              have hr := h.cut (k := k + 1) (c := c) (by omega) hc
              have hq : b.length - (k + 1) = (b.drop (k + 1)).length := by simp
              have hs : (b.drop (k + 1)).length ≤ 140737488355328 := by simp; omega
              obtain ⟨r, hrr⟩ : ∃ r, r = b.drop (k + 1) := ⟨_, rfl⟩
              rw [← hrr] at hr hq hs HE
              have HR := Lib.hid hr
              have HQ := Lib.hid hq
              have HS := Lib.hid hs
              have HH := Lib.hid h
              clear hr hq hs hrr HT h
              go_wp2_with (go_at_call 61; refine (clone_cut (if c = k + 1 then some ⟨g, off, none⟩ else some ⟨g, off + (k + 1), none⟩) (b.length - (k + 1)) (c - (k + 1)) r w HQ.out HR.out HS.out).mono ?_; rintro e w1 ⟨A1, c1, rfl, ho1, hb1⟩; have HO := Lib.hid ho1; have HB := Lib.hid hb1; clear hn' hm' h57 hl hcc hjoin hlow hcell hcell0 ho1 hb1 hc hx2 hend hk hlt hab hz hk0)
              all_goals refine bodyPost_ret (results_tmp3 rfl _ _ _) rfl ?_
              all_goals refine ⟨HB.out, ?_⟩
              all_goals rw [HE.out]
              all_goals exact ⟨A1, c1, rfl, HO.out.cap, own_cap HO.out, HO.out.rd, HO.out.frs⟩
            · clear hz hzk hzk'
              have hr := h.cut (k := k + 1) (c := c) (by omega) hc
              have hq : b.length - (k + 1) = (b.drop (k + 1)).length := by simp
              have hs : (b.drop (k + 1)).length ≤ 140737488355328 := by simp; omega
              obtain ⟨r, hrr⟩ : ∃ r, r = b.drop (k + 1) := ⟨_, rfl⟩
              rw [← hrr] at hr hq hs HE
              have HR := Lib.hid hr
              have HQ := Lib.hid hq
              have HS := Lib.hid hs
              have HH := Lib.hid h
              clear hr hq hs hrr HT h
              go_wp2_with (go_at_call 61; refine (clone_cut (if c = k + 1 then some ⟨g, off, none⟩ else some ⟨g, off + (k + 1), none⟩) (b.length - (k + 1)) (c - (k + 1)) r w HQ.out HR.out HS.out).mono ?_; rintro e w1 ⟨A1, c1, rfl, ho1, hb1⟩; have HO := Lib.hid ho1; have HB := Lib.hid hb1; clear hn' hm' h57 hl hcc hjoin hlow hcell hcell0 ho1 hb1 hc hx2 hend hk hlt hab)
              all_goals refine bodyPost_ret (results_tmp3 rfl _ _ _) rfl ?_
              all_goals refine ⟨HB.out, ?_⟩
              all_goals rw [HE.out]
              all_goals exact ⟨A1, c1, rfl, HO.out.cap, own_cap HO.out, HO.out.rd, HO.out.frs⟩
          · rw [Cod.tgo_on (by omega) hzk' (by omega), ← hm] at e
            have HE := Lib.hid e; clear e
            obtain ⟨x, hxx⟩ : ∃ x, x = b[k].toNat := ⟨_, rfl⟩
            rw [← hxx] at hlow hjoin hend hcell hx
            have hx2 : (x : Int) < 256 := by omega
            clear hm hxx hx
            have hn' : (n : Int) < 144115188075855872 := by omega
            have hm' : (m : Int) < 18446744073709551616 := by omega
            clear hn
            by_cases hk0 : 0 < k
            · have hz1 : Cod.z0 b = false := hzk'.resolve_right (by omega)
              rw [hz1] at hz
              clear hzk hzk'
              go_wp2
              go_round
              case rel => exact ⟨k + 1, m, by omega, by go_num, rfl, by omega, HE⟩
              case measure => simp [intOf]; omega
            · clear hz hzk hzk'
              go_wp2
              go_round
              case rel => exact ⟨k + 1, m, by omega, by go_num, rfl, by omega, HE⟩
              case measure => simp [intOf]; omega
    · have e := HT.out
      rw [List.drop_eq_nil_of_le (by omega), Cod.tgo_nil] at e
      have HE := Lib.hid e; clear e
      go_wp2
      refine bodyPost_ret (results_tmp3 rfl _ _ _) rfl ?_
      refine ⟨Below.refl _ _, ?_⟩
      rw [HE.out]; rfl
set_option maxHeartbeats 1000000 in
set_option maxRecDepth 100000 in
theorem rtakeF_z (A : Option Addr) (c : Nat) (b : List UInt8) (w : World) (h : RdB w w.heap.size A b) (hl : b.length ≤ 140737488355328) (hz : Cod.z0 b = true) :
    Calls Tryd.prog 30 #[.slice A b.length c] w (TakenF w A (Cod.take b)) := by
  have e := rtake_z_plain hz
  have HE := Lib.hid e; clear e
  have HZ := Lib.hid hz; clear hz
  go_enter Tryd.func30, Tryd.ntmps30
  go_wp2
  go_loop [5, 6] (fun v i => ∃ k n : Nat, k ≤ b.length ∧ i = .int .i64 (k : Int) ∧ v = .int .u64 (n : Int) ∧ n < 18446744073709551616) (fun _ i => b.length - (intOf i).toNat)
  case atStart => exact ⟨0, 0, by omega, rfl, rfl, by omega⟩
  case round =>
    obtain ⟨k, n, hk, rfl, rfl, hn⟩ := hrel
    by_cases hlt : k < b.length
    · by_cases h10 : k < 10
      · obtain ⟨g, off, rfl, hab, hcell⟩ := h.at_ hlt
        obtain ⟨g', off', e0, _, hcell0⟩ := h.at_ (k := 0) (by omega)
        injection e0 with e0
        injection e0 with e1 e2
        subst e1 e2
        rw [Nat.add_zero] at hcell0
        by_cases h57 : (144115188075855871 : Int) < (n : Int)
        · go_wp2
          refine bodyPost_ret (results_tmp3 rfl _ _ _) rfl ?_
          refine ⟨Below.refl _ _, ?_⟩
          rw [HE.out]; rfl
        · have hx := b[k].toNat_lt
          have hz := Cod.z0_int (b := b) (by omega)
          rw [HZ.out] at hz
          have hz1 : (b[0]'(by omega)).toNat = 128 := by have := eq_of_beq hz; omega
          have hk1 : b[k].toNat < 128 → 0 < k := by
            intro hx1
            rcases Nat.eq_zero_or_pos k with h0 | h0
            · subst h0; omega
            · exact h0
          obtain ⟨x, hxx⟩ : ∃ x, x = b[k].toNat := ⟨_, rfl⟩
          obtain ⟨y, hy⟩ : ∃ y, y = (b[0]'(by omega)).toNat := ⟨_, rfl⟩
          rw [← hxx] at hcell hx hk1
          rw [← hy] at hz1 hcell0
          clear hz hxx hy
          subst hz1
          have hx2 : (x : Int) < 256 := by omega
          by_cases hend : (x : Int) < 128
          · have hk0 := hk1 (by omega)
            clear hk1 hx
            go_wp2
            refine bodyPost_ret (results_tmp3 rfl _ _ _) rfl ?_
            refine ⟨Below.refl _ _, ?_⟩
            rw [HE.out]; rfl
          · clear hk1 hx
            go_wp2
            go_round
            case rel => exact ⟨k + 1, n * 128 + x % 128, by omega, by go_num, by go_num, by omega⟩
            case measure => simp [intOf]; omega
      · go_wp2
        refine bodyPost_ret (results_tmp3 rfl _ _ _) rfl ?_
        refine ⟨Below.refl _ _, ?_⟩
        rw [HE.out]; rfl
    · go_wp2
      refine bodyPost_ret (results_tmp3 rfl _ _ _) rfl ?_
      refine ⟨Below.refl _ _, ?_⟩
      rw [HE.out]; rfl

theorem ret_tak2F {x : Int} {n : Nat} {A : Option Addr} {k k' c : Nat} (hx : x = (n : Int)) (h : k = k') : Ending.returned (.tuple #[.int .u64 x, .slice A k c, .int .i64 0]) = .returned (.tuple #[.int .u64 (n : Int), .slice A k' c, .int .i64 0]) := by rw [h, hx]

set_option maxHeartbeats 1000000 in
set_option maxRecDepth 100000 in
theorem rtakeF_n (A : Option Addr) (c : Nat) (b : List UInt8) (w : World) (h : RdB w w.heap.size A b) (hl : b.length ≤ 140737488355328) (hc : b.length ≤ c) (hcc : c ≤ 9223372036854775807) (hz : Cod.z0 b = false) :
    Calls Tryd.prog 30 #[.slice A b.length c] w (TakenF w A (Cod.take b)) := by
  have HZ := Lib.hid hz; clear hz
  go_enter Tryd.func30, Tryd.ntmps30
  go_wp2
  go_loop [5, 6] (fun v i => ∃ k n : Nat, k ≤ b.length ∧ k ≤ 10 ∧ i = .int .i64 (k : Int) ∧ v = .int .u64 (n : Int) ∧ n < 18446744073709551616 ∧ Hid (Cod.take b = Cod.tgo false k n (b.drop k)) ∧ Hid (0 < k → 128 ^ (k - 1) ≤ n)) (fun _ i => b.length - (intOf i).toNat)
  case atStart => exact ⟨0, 0, by omega, by omega, rfl, rfl, by omega, Lib.hid (by unfold Cod.take; rw [HZ.out]; rfl), Lib.hid (fun h => absurd h (by omega))⟩
  case round =>
    obtain ⟨k, n, hk, hk10, rfl, rfl, hn, HT, HP⟩ := hrel
    by_cases hlt : k < b.length
    · by_cases h10 : k < 10
      · obtain ⟨g, off, rfl, hab, hcell⟩ := h.at_ hlt
        obtain ⟨g', off', e0, _, hcell0⟩ := h.at_ (k := 0) (by omega)
        injection e0 with e0
        injection e0 with e1 e2
        subst e1 e2
        rw [Nat.add_zero] at hcell0
        by_cases h57 : (144115188075855871 : Int) < (n : Int)
        · have e := HT.out
          rw [Cod.tgo_big (by omega)] at e
          have HE := Lib.hid e; clear e
          go_wp2
          refine bodyPost_ret (results_tmp3 rfl _ _ _) rfl ?_
          refine ⟨Below.refl _ _, ?_⟩
          rw [HE.out]; rfl
        · have hx := b[k].toNat_lt
          have hz := Cod.z0_int (b := b) (by omega)
          rw [HZ.out] at hz
          have hp : ¬ b[k].toNat < 128 → 128 ^ k ≤ n * 128 + b[k].toNat % 128 := by
            intro hx1
            rcases Nat.eq_zero_or_pos k with h0 | h0
            · subst h0
              have : ¬ ((b[0].toNat : Int) = 128) := by simpa using hz
              simp; omega
            · have := HP.out h0
              obtain ⟨j, rfl⟩ : ∃ j, k = j + 1 := ⟨k - 1, by omega⟩
              rw [Nat.pow_succ]
              rw [Nat.add_sub_cancel] at this
              omega
          have e := HT.out
          rw [Cod.drop_at b k hlt] at e
          obtain ⟨x, hxx⟩ : ∃ x, x = b[k].toNat := ⟨_, rfl⟩
          obtain ⟨y, hy⟩ : ∃ y, y = (b[0]'(by omega)).toNat := ⟨_, rfl⟩
          rw [← hxx] at hcell hx hp
          rw [← hy] at hz hcell0
          have hx2 : (x : Int) < 256 := by omega
          obtain ⟨m, hm⟩ : ∃ m, m = n * 128 + x % 128 := ⟨_, rfl⟩
          have hm1 : (n : Int) * 128 + (x : Int) % 128 = (m : Int) := by omega
          by_cases hend : (x : Int) < 128
          · rw [Cod.tgo_end (by omega) (.inl rfl) (by omega), ← hxx, ← hm] at e
            have HE := Lib.hid e; clear e
            have hr := h.cut (k := k + 1) (c := c) (by omega) hc
            have hq : b.length - (k + 1) = (b.drop (k + 1)).length := by simp
            obtain ⟨r, hrr⟩ : ∃ r, r = b.drop (k + 1) := ⟨_, rfl⟩
            rw [← hrr] at hr hq HE
            have HR := Lib.hid hr
            have HQ := Lib.hid hq
            have HH := Lib.hid h
            have HM := Lib.hid hm1
            clear hr hq hrr HT h hp hxx hy hx hm1
            by_cases hk0 : 0 < k
            · go_wp2
              go_region
              go_wp2
              all_goals refine bodyPost_ret (results_tmp3 rfl _ _ _) rfl ?_
              all_goals refine ⟨(Below.refl _ _).drew, ?_⟩
              all_goals rw [HE.out]
              all_goals exact ⟨_, _, ret_tak2F HM.out HQ.out, by have := HQ.out; omega, by omega, by
                have q := HR.out
                first
                  | exact Reads.drew q
                  | (rw [if_pos (by assumption)] at q; exact Reads.drew q)
                  | (rw [if_neg (by assumption)] at q; exact Reads.drew q), fun g hg => .inl hg⟩
            · go_wp2
              go_region
              go_wp2
              all_goals refine bodyPost_ret (results_tmp3 rfl _ _ _) rfl ?_
              all_goals refine ⟨(Below.refl _ _).drew, ?_⟩
              all_goals rw [HE.out]
              all_goals exact ⟨_, _, ret_tak2F HM.out HQ.out, by have := HQ.out; omega, by omega, by
                have q := HR.out
                first
                  | exact Reads.drew q
                  | (rw [if_pos (by assumption)] at q; exact Reads.drew q)
                  | (rw [if_neg (by assumption)] at q; exact Reads.drew q), fun g hg => .inl hg⟩
          · rw [Cod.tgo_on (by omega) (.inl rfl) (by omega), ← hxx, ← hm] at e
            have HE := Lib.hid e; clear e
            have HP2 := Lib.hid (hp (by omega))
            have HM := Lib.hid hm
            clear hp hx hxx hy hm
            go_wp2
            go_round
            case rel => exact ⟨k + 1, m, by omega, by omega, by go_num, by first | rfl | (rw [hm1]) | go_num, by omega, HE, Lib.hid (fun _ => by rw [HM.out]; exact HP2.out)⟩
            case measure => simp [intOf]; omega
      · have e := HT.out
        have hp := HP.out (by omega)
        have : k = 10 := by omega
        subst this
        have hp2 : 9223372036854775808 ≤ n := by rw [← pow_10]; exact hp
        rw [Cod.tgo_big (by omega)] at e
        have HE := Lib.hid e; clear e hp hp2
        go_wp2
        refine bodyPost_ret (results_tmp3 rfl _ _ _) rfl ?_
        refine ⟨Below.refl _ _, ?_⟩
        rw [HE.out]; rfl
    · have e := HT.out
      rw [List.drop_eq_nil_of_le (by omega), Cod.tgo_nil] at e
      have HE := Lib.hid e; clear e
      go_wp2
      refine bodyPost_ret (results_tmp3 rfl _ _ _) rfl ?_
      refine ⟨Below.refl _ _, ?_⟩
      rw [HE.out]; rfl
theorem rtakeF_any (A : Option Addr) (c : Nat) (b : List UInt8) (w : World) (h : RdB w w.heap.size A b) (hl : b.length ≤ 140737488355328) (hc : b.length ≤ c) (hcc : c ≤ 9223372036854775807) :
    Calls Tryd.prog 30 #[.slice A b.length c] w (TakenF w A (Cod.take b)) := by
  cases hz : Cod.z0 b with
  | true => exact rtakeF_z A c b w h hl hz
  | false => exact rtakeF_n A c b w h hl hc hcc hz
end Go.Proofs.YtgafionfojnieaaDoor
