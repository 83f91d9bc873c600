/- slices.Clone at bytes; the contracts of TakeNumber, both. -/
import Derived.Test.YtnlmiicbdhomaaaDoorTak
import Derived.Test.YtnlmiicbdhomaaaDoorCodB
namespace Go.Proofs.YtnlmiicbdhomaaaDoor
open Go.RowKit

theorem ret_tak {n : Nat} {A : Option Addr} {k k' c : Nat} (h : k = k') : Ending.returned (.tuple #[.int .u64 (n : Int), .slice A k c, .int .i64 0]) = .returned (.tuple #[.int .u64 (n : Int), .slice A k' c, .int .i64 0]) := by rw [h]
/-- What was taken, as Go's three results; the rest is read only. -/
def Taken (w : World) (v : Option (Nat × List UInt8)) (e : Ending) (w' : World) : Prop :=
  Below w.heap.size w w' ∧ match v with
  | none => e = .returned (.tuple #[.int .u64 0, .slice none 0 0, .int .i64 3])
  | some (n, r) => ∃ A c, e = .returned (.tuple #[.int .u64 (n : Int), .slice A r.length c, .int .i64 0]) ∧ r.length ≤ c ∧ c ≤ 9223372036854775807 ∧ RdB w' w'.heap.size A r

theorem own_empty (w : World) : Own (w.alloc (.cells #[] 5)) w.heap.size 5 (some ⟨w.heap.size, 0, none⟩) 0 [] :=
  World.ownsRow_lit (e := 5) (size := 1) w #[] 0 (Nat.le_refl _) (by unfold maxLen; omega) rfl

set_option maxHeartbeats 400000 in
theorem clone_any (A : Option Addr) (c : Nat) (l : List UInt8) (w : World) (h : RdB w w.heap.size A l) (hl : l.length ≤ 140737488355328) :
    Calls Tryd.prog 28 #[.slice A l.length c] w fun e w' => ∃ A' c', e = .returned (.slice A' l.length c') ∧ Own w' w.heap.size 5 A' c' l ∧ Below w.heap.size w w' := by
  cases A with
  | none =>
    have hl0 : l = [] := by
      cases l with
      | nil => rfl
      | cons b l => obtain ⟨ad, h, _⟩ := h.2 (by simp); cases h
    subst hl0
    have hq : (binOp .eql 25 (.slice none 0 c) (.slice none 0 0)).run Tryd.prog w = .ok (.bool true) w := Lib.run_eql_slice_nil w _ _ none 0 c 0 0 bt.sl
    go_enter Tryd.func28, Tryd.ntmps28
    go_wp2_with fail
    go_ret
    exact ⟨none, 0, rfl, Own.nil _ _ _, Below.refl _ _⟩
  | some ad =>
    have hq : (binOp .eql 25 (.slice (some ad) l.length c) (.slice none 0 0)).run Tryd.prog w = .ok (.bool false) w := Lib.run_eql_slice_nil w _ _ (some ad) l.length c 0 0 bt.sl
    go_enter Tryd.func28, Tryd.ntmps28
    go_wp2_with (at_builtin; refine wpList_append_b _ rfl (.tmp 5) (.tmp 6) bt rfl w.heap.size (some ⟨w.heap.size, 0, none⟩) 0 [] rfl (own_empty w) _ (some ad) l.length c l rfl rfl (RdB.alloc h (Nat.le_refl _) _) (by simpa using hl) (by simp) ?_; intro A' c' L' w2 hL ho1 hg1 _; have HL := Lib.hid hL; clear hL)
    go_ret
    have e : L' = l := by rw [HL.out]; rfl
    subst e
    exact ⟨A', c', rfl, ho1, ((Below.refl _ _).alloc (Nat.le_refl _) _).grown hg1 (by simp) (fun k hk => by simp [blk] at hk; omega)⟩

theorem low7 {x : Nat} (h : x < 256) : bits .andNot .u8 (x : Int) 128 = (x : Int) % 128 := by
  rw [show (128 : Int) = ((128 : Nat) : Int) from rfl, u8_andNot_nat x 128 (by omega) (by omega)]
  have : x &&& 127 = x % 128 := Nat.and_two_pow_sub_one_eq_mod x 7
  have e : (2 ^ 8 - 1 - 128 : Nat) = 127 := rfl
  simp [this]
theorem join7 {n x : Nat} (hn : n < 144115188075855872) : bits .or .u64 ((n : Int) * 128) ((x : Int) % 128) = ((n * 128 + x % 128 : Nat) : Int) := by
  have e1 : ((n : Int) * 128) = ((n * 128 : Nat) : Int) := by omega
  have e2 : ((x : Int) % 128) = ((x % 128 : Nat) : Int) := by omega
  rw [e1, e2, u64_or_nat _ _ (by omega) (by omega), nat_join7 (n * 128) (x % 128) (by omega) (by omega)]

/-- Where byte k lies. -/
theorem RdB.at_ {w : World} {B : Nat} {A : Option Addr} {l : List UInt8} (h : RdB w B A l) {k : Nat} (hk : k < l.length) : ∃ g off, A = some ⟨g, off, none⟩ ∧ g < B ∧ w.cell? ⟨g, off + k, none⟩ = some (.int .u8 (l[k].toNat : Int)) := by
  obtain ⟨ad, hA, hb, hc⟩ := h.cell hk
  obtain ⟨g, off, spot⟩ := ad
  have hsp : spot = none := by
    cases spot with
    | none => rfl
    | some s =>
      exfalso
      obtain ⟨ad2, hA2, _, hc2⟩ := h.cell (k := 0) (by omega)
      rw [hA] at hA2
      injection hA2 with hA2
      subst hA2
      simp only [Addr.add, if_pos] at hc2
      unfold World.cell? at hc2
      simp only [Option.isSome_some, if_true] at hc2
      split at hc2 <;> cases hc2
  subst hsp
  have hadd : (⟨g, off, none⟩ : Addr).add k = ⟨g, off + k, none⟩ := by unfold Addr.add; split <;> simp_all
  rw [hadd] at hc
  exact ⟨g, off, hA, hb, hc⟩
theorem RdB.cut {w : World} {B g off : Nat} {l : List UInt8} (h : RdB w B (some ⟨g, off, none⟩) l) {k c : Nat} (hk : k ≤ l.length) (hc : l.length ≤ c) : RdB w B (if c = k then some ⟨g, off, none⟩ else some ⟨g, off + k, none⟩) (l.drop k) := by
  have := h.drop hk hc
  have hadd : (⟨g, off, none⟩ : Addr).add k = ⟨g, off + k, none⟩ := by unfold Addr.add; split <;> simp_all
  simp only [Option.map_some, hadd] at this
  exact this
theorem clone_cut (A : Option Addr) (n c : Nat) (l : List UInt8) (w : World) (hn : n = l.length) (h : RdB w w.heap.size A l) (hl : l.length ≤ 140737488355328) :
    Calls Tryd.prog 28 #[.slice A n c] w fun e w' => ∃ A' c', e = .returned (.slice A' l.length c') ∧ Own w' w.heap.size 5 A' c' l ∧ Below w.heap.size w w' := by
  subst hn; exact clone_any A c l w h hl
theorem own_cap {w : World} {B : Nat} {A : Option Addr} {c : Nat} {l : List UInt8} (h : Own w B 5 A c l) : c ≤ 9223372036854775807 := by
  rcases h.2 with ⟨hv, _⟩ | ⟨g, cap, cur, hv, _, _, _, hc, _⟩
  · injection hv with _ _ h3; omega
  · injection hv with _ _ h3; unfold maxLen at hc; omega

theorem add_zero_ (ad : Addr) : ad.add 0 = ad := by unfold Addr.add; simp

set_option maxHeartbeats 1000000 in
set_option maxRecDepth 100000 in
theorem take_any (A : Option Addr) (c : Nat) (b : List UInt8) (w : World) (h : RdB w w.heap.size A b) (hl : b.length ≤ 140737488355328) (hc : b.length ≤ c) (hcc : c ≤ 9223372036854775807) :
    Calls Tryd.prog 14 #[.slice A b.length c] w (Taken w (Cod.take b)) := by
  go_enter Tryd.func14, Tryd.ntmps14
  go_wp2
  go_loop [5, 10] (fun v i => ∃ k n : Nat, k ≤ b.length ∧ i = .int .i64 (k : Int) ∧ v = .int .u64 (n : Int) ∧ n < 18446744073709551616 ∧ Hid (Cod.take b = Cod.tgo (Cod.z0 b) k n (b.drop k))) (fun _ i => b.length - (intOf i).toNat)
  case atStart => exact ⟨0, 0, by omega, rfl, rfl, by omega, Lib.hid rfl⟩
  case round =>
    obtain ⟨k, n, hk, rfl, rfl, hn, HT⟩ := hrel
    by_cases hlt : k < b.length
    · obtain ⟨g, off, rfl, hab, hcell⟩ := h.at_ hlt
      obtain ⟨g', off', e0, _, hcell0⟩ := h.at_ (k := 0) (by omega)
      injection e0 with e0
      injection e0 with e1 e2
      subst e1 e2
      rw [Nat.add_zero] at hcell0
      by_cases h57 : (144115188075855872 : Int) ≤ (n : Int)
      · have e := HT.out
        rw [Cod.tgo_big (by omega)] at e
        have HE := Lib.hid e; clear e
        go_wp2
        refine bodyPost_ret (results_tmp3 rfl _ _ _) rfl ?_
        refine ⟨Below.refl _ _, ?_⟩
        rw [HE.out]; rfl
      · have hx := b[k].toNat_lt
        have hz := Cod.z0_int (b := b) (by omega)
        obtain ⟨y, hy⟩ : ∃ y, y = (b[0]'(by omega)).toNat := ⟨_, rfl⟩
        rw [← hy] at hcell0 hz
        clear hy
        by_cases hzk : Cod.z0 b = true ∧ 0 < k
        · obtain ⟨hz1, hk0⟩ := hzk
          have e := HT.out
          rw [hz1, Cod.tgo_z hk0] at e
          have HE := Lib.hid e; clear e
          rw [hz1] at hz
          go_wp2
          refine bodyPost_ret (results_tmp3 rfl _ _ _) rfl ?_
          refine ⟨Below.refl _ _, ?_⟩
          rw [HE.out]; rfl
        · have hzk' : Cod.z0 b = false ∨ k = 0 := by
            cases hz1 : Cod.z0 b with
            | false => exact .inl rfl
            | true => exact .inr (by simp [hz1] at hzk; omega)
          have hlow := low7 hx
          have hjoin := join7 (n := n) (x := b[k].toNat) (by omega)
          obtain ⟨m, hm⟩ : ∃ m, m = n * 128 + b[k].toNat % 128 := ⟨_, rfl⟩
          rw [← hm] at hjoin
          have hm2 : m < 18446744073709551616 := by omega
          have e := HT.out
          rw [Cod.drop_at b k hlt] at e
          by_cases hend : (b[k].toNat : Int) < 128
          · rw [Cod.tgo_end (by omega) hzk' (by omega), ← hm] at e
            have HE := Lib.hid e; clear e
            obtain ⟨x, hxx⟩ : ∃ x, x = b[k].toNat := ⟨_, rfl⟩
            rw [← hxx] at hlow hjoin hend hcell hx
            have hx2 : (x : Int) < 256 := by omega
            clear hm hxx hx
            have hn' : (n : Int) < 144115188075855872 := by omega
            have hm' : (m : Int) < 18446744073709551616 := by omega
            clear hn hm2
            by_cases hk0 : 0 < k
            · have hz1 : Cod.z0 b = false := hzk'.resolve_right (by omega)
              rw [hz1] at hz
              clear hzk hzk'
              have hr := h.cut (k := k + 1) (c := c) (by omega) hc
              have hq : b.length - (k + 1) = (b.drop (k + 1)).length := by simp
              have hs : (b.drop (k + 1)).length ≤ 140737488355328 := by simp; omega
              obtain ⟨r, hrr⟩ : ∃ r, r = b.drop (k + 1) := ⟨_, rfl⟩
              rw [← hrr] at hr hq hs HE
              have HR := Lib.hid hr
              have HQ := Lib.hid hq
              have HS := Lib.hid hs
              have HH := Lib.hid h
              clear hr hq hs hrr HT h
              go_wp2_with (go_at_call 28; refine (clone_cut (if c = k + 1 then some ⟨g, off, none⟩ else some ⟨g, off + (k + 1), none⟩) (b.length - (k + 1)) (c - (k + 1)) r w HQ.out HR.out HS.out).mono ?_; rintro e w1 ⟨A1, c1, rfl, ho1, hb1⟩; have HO := Lib.hid ho1; have HB := Lib.hid hb1; clear hn' hm' h57 hl hcc hjoin hlow hcell hcell0 ho1 hb1 hc hx2 hend hk hlt hab hz hk0)
              all_goals refine bodyPost_ret (results_tmp3 rfl _ _ _) rfl ?_
              all_goals refine ⟨HB.out, ?_⟩
              all_goals rw [HE.out]
              all_goals exact ⟨A1, c1, rfl, HO.out.cap, own_cap HO.out, HO.out.rd⟩
            · clear hz hzk hzk'
              have hr := h.cut (k := k + 1) (c := c) (by omega) hc
              have hq : b.length - (k + 1) = (b.drop (k + 1)).length := by simp
              have hs : (b.drop (k + 1)).length ≤ 140737488355328 := by simp; omega
              obtain ⟨r, hrr⟩ : ∃ r, r = b.drop (k + 1) := ⟨_, rfl⟩
              rw [← hrr] at hr hq hs HE
              have HR := Lib.hid hr
              have HQ := Lib.hid hq
              have HS := Lib.hid hs
              have HH := Lib.hid h
              clear hr hq hs hrr HT h
              go_wp2_with (go_at_call 28; refine (clone_cut (if c = k + 1 then some ⟨g, off, none⟩ else some ⟨g, off + (k + 1), none⟩) (b.length - (k + 1)) (c - (k + 1)) r w HQ.out HR.out HS.out).mono ?_; rintro e w1 ⟨A1, c1, rfl, ho1, hb1⟩; have HO := Lib.hid ho1; have HB := Lib.hid hb1; clear hn' hm' h57 hl hcc hjoin hlow hcell hcell0 ho1 hb1 hc hx2 hend hk hlt hab)
              all_goals refine bodyPost_ret (results_tmp3 rfl _ _ _) rfl ?_
              all_goals refine ⟨HB.out, ?_⟩
              all_goals rw [HE.out]
              all_goals exact ⟨A1, c1, rfl, HO.out.cap, own_cap HO.out, HO.out.rd⟩
          · rw [Cod.tgo_on (by omega) hzk' (by omega), ← hm] at e
            have HE := Lib.hid e; clear e
            obtain ⟨x, hxx⟩ : ∃ x, x = b[k].toNat := ⟨_, rfl⟩
            rw [← hxx] at hlow hjoin hend hcell hx
            have hx2 : (x : Int) < 256 := by omega
            clear hm hxx hx
            have hn' : (n : Int) < 144115188075855872 := by omega
            have hm' : (m : Int) < 18446744073709551616 := by omega
            clear hn
            by_cases hk0 : 0 < k
            · have hz1 : Cod.z0 b = false := hzk'.resolve_right (by omega)
              rw [hz1] at hz
              clear hzk hzk'
              go_wp2
              go_round
              case rel => exact ⟨k + 1, m, by omega, by go_num, rfl, by omega, HE⟩
              case measure => simp [intOf]; omega
            · clear hz hzk hzk'
              go_wp2
              go_round
              case rel => exact ⟨k + 1, m, by omega, by go_num, rfl, by omega, HE⟩
              case measure => simp [intOf]; omega
    · have e := HT.out
      rw [List.drop_eq_nil_of_le (by omega), Cod.tgo_nil] at e
      have HE := Lib.hid e; clear e
      go_wp2
      refine bodyPost_ret (results_tmp3 rfl _ _ _) rfl ?_
      refine ⟨Below.refl _ _, ?_⟩
      rw [HE.out]; rfl
end Go.Proofs.YtnlmiicbdhomaaaDoor
