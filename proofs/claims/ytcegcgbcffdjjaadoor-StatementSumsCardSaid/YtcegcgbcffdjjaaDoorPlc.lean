/- Contracts of alloc.Order, alloc.Total, slices.Equal at items, slices.ContainsFunc at items. -/
import Derived.Test.YtcegcgbcffdjjaaDoorPlb
import Derived.Test.YtcegcgbcffdjjaaDoorRow
import Derived.Laws.StructEq
namespace Go.Proofs.YtcegcgbcffdjjaaDoor
open Go.RowKit

theorem itT : RT Tryd.prog 23 60 It.cells 4 32 (.agg #[.int .i64 0, .int .i64 0, .int .i64 0, .int .i64 0]) :=
  ⟨Tryd.underlying23, by kernel_rfl, fun _ => rfl, fun a u hu => by
    simp only [It.cells, List.mem_cons, List.not_mem_nil, or_false] at hu
    rcases hu with rfl | rfl | rfl | rfl <;> rfl, by omega, rfl⟩
theorem rdT_new (w : World) (x : It) (g : Nat) (hg : g = w.heap.size) : RdS It.cells 4 (w.alloc (.cells #[.int .i64 x.due, .int .i64 x.kind, .int .i64 x.period, .int .i64 x.open_] 60)) (g + 1) (some ⟨g, 0, none⟩) [x] := by
  subst hg
  refine RdS.of (f := It.cells) (n := 4) (fun _ => rfl) w.heap.size 0 (Nat.lt_succ_self _) fun k hk j u hj => ?_
  have hk0 : k = 0 := by simp at hk; omega
  subst hk0
  match j, hj with
  | 0, hj => simp [It.cells] at hj; subst hj; simp
  | 1, hj => simp [It.cells] at hj; subst hj; simp
  | 2, hj => simp [It.cells] at hj; subst hj; simp
  | 3, hj => simp [It.cells] at hj; subst hj; simp
  | _ + 4, hj => simp [It.cells] at hj
def OrderP (l : List It) (w : World) (e : Ending) (w' : World) : Prop := Below w.heap.size w w' ∧ ((∃ m : Int, m ≠ 0 ∧ e = .returned (.tuple #[.slice none 0 0, .int .i64 m])) ∨
  ∃ (A' : Option Addr) (c' : Nat) (q : List It), e = .returned (.tuple #[.slice A' l.length c', .int .i64 0]) ∧ q.length = l.length ∧ RdT w' w'.heap.size A' q ∧ l.length ≤ 200)
set_option maxHeartbeats 2000000 in
set_option maxRecDepth 100000 in
theorem alcorder_any (l : List It) (A : Option Addr) (c : Nat) (hl : l.length ≤ 1000000) (w : World) (h : RdT w w.heap.size A l) :
    Calls Tryd.prog 21 #[.slice A l.length c] w (OrderP l w) := by
  have K := Lib.hid (places_any l A c hl w h)
  have HR := Lib.hid h
  clear h
  go_enter Tryd.func21, Tryd.ntmps21
  go_wp2_with fail
  refine K.out.mono ?_
  rintro e w1 ⟨hb1, ⟨m, hm, rfl⟩ | ⟨A1, c1, p, rfl, hp1, hp2, hp3, h200⟩⟩
  · have d1 : (m == 0) = false := by simpa using hm
    have d2 : (m != 0) = true := by simpa using hm
    have HM := Lib.hid hm; have HB1 := Lib.hid hb1
    clear hm hb1
    go_wp2_with fail
    go_ret2
    exact ⟨HB1.out, .inl ⟨m, HM.out, rfl⟩⟩
  · have HB1 := Lib.hid hb1; have HP1 := Lib.hid hp1; have HP2 := Lib.hid hp2; have HP3 := Lib.hid hp3
    have hz1 := hb1.size
    clear hb1 hp1 hp2 hp3
    go_wp2_with (refine wpList_make_s _ rfl _ _ itT rfl _ _ l.length rfl rfl (by omega) (by unfold maxLen; omega) ?_)
    intro w2 ho2 hg2
    have HO2 := Lib.hid ho2
    have HB2 : Hid (Below w1.heap.size w1 w2) := Lib.hid (below_grow (Below.refl _ _) hg2 (fun q hq => by cases hq) (Nat.le_refl _))
    have hz2 : w1.heap.size ≤ w2.heap.size := HB2.out.size
    clear ho2 hg2
    go_wp2_with fail
    go_loopw [6, 22] (fun v i wr => ∃ (k : Nat) (A3 : Option Addr) (c3 : Nat) (Q : List It), k ≤ l.length ∧ i = .int .i64 (k : Int) ∧ v = .slice A3 Q.length c3 ∧ Hid (Q.length = k) ∧ OwnS It.cells 4 wr w1.heap.size 60 A3 c3 Q ∧ Below w1.heap.size w1 wr) (fun _ i _ => l.length - (intOf i).toNat)
    case atStart => exact ⟨0, _, l.length, [], by omega, rfl, rfl, Lib.hid rfl, HO2.out, HB2.out⟩
    case round =>
      obtain ⟨k, A3, c3, Q, hk, rfl, rfl, HQ, O3, HB⟩ := hrel
      have hQ : Q.length ≤ 200 := by rw [HQ.out]; omega
      have hsz := HB.size
      by_cases hlt : k < l.length
      · have hR : RdT wr w1.heap.size A l := RdT.more (RdT.below (RdT.below HR.out HB1.out (Nat.le_refl _)) HB hz1) hz1
        obtain ⟨b, off, rfl, _, hc⟩ := hR.row (by omega)
        have hP : RdI wr w1.heap.size A1 (p.map fun (i : Nat) => (i : Int)) := RdI.below HP3.out HB (Nat.le_refl _)
        obtain ⟨g, of2, rfl, _, hpc⟩ := hP.row (by simp [HP1.out]; omega)
        have hkp : k < p.length := by rw [HP1.out]; exact hlt
        have q1 := hpc k (by simpa using hkp)
        rw [List.getElem_map] at q1
        have b1 := HP2.out _ (List.getElem_mem hkp)
        obtain ⟨i1, hi1⟩ : ∃ i1, i1 = p[k] := ⟨_, rfl⟩
        rw [← hi1] at q1 b1
        obtain ⟨x0, x1, x2, x3⟩ := hc i1 b1
        obtain ⟨x, hx⟩ : ∃ x, x = l[i1] := ⟨_, rfl⟩
        rw [← hx] at x0 x1 x2 x3
        clear hx hc hpc hi1 hR hP hkp
        have HO3 := Lib.hid O3; have HBB := Lib.hid HB
        clear O3 HB
        go_wp2_with (at_builtin; refine wpList_append_s _ rfl _ _ itT rfl w1.heap.size A3 c3 Q rfl (HO3.out.alloc _) (wr.heap.size + 1) (some ⟨wr.heap.size, 0, none⟩) 1 1 [x] rfl rfl (by exact rdT_new _ _ _ rfl) (by simp; omega) (by unfold maxLen; simp; omega) (by simp; omega) ?_)
        intro A' c' L' w4 hL' ho hg hat
        have HL' : Hid (L'.length = k + 1) := Lib.hid (by rw [hL', List.length_append, HQ.out]; rfl)
        have HO4 := Lib.hid ho
        have HB4 : Hid (Below w1.heap.size w1 w4) := Lib.hid (below_grow (HBB.out.alloc hsz _) hg (fun q hq => (HO3.out.blk_ge q hq).1) (by simp; omega))
        clear hL' ho hg hat
        go_wp2_with fail
        go_round
        case rel => exact ⟨k + 1, A', c', L', by omega, by go_num, rfl, HL', HO4.out, HB4.out⟩
        case measure => simp [intOf]; omega
      · have hk2 : k = l.length := by omega
        subst hk2
        have HO3 := Lib.hid O3; have HBB := Lib.hid HB
        obtain ⟨n, hn⟩ : ∃ n, n = Q.length := ⟨_, rfl⟩
        rw [← hn]
        have HN := Lib.hid hn
        clear O3 HB hn
        go_wp2_with fail
        go_ret2
        refine ⟨HB1.out.trans (HBB.out.mono hz1), .inr ⟨A3, c3, Q, ?_, HQ.out, HO3.out.rd, h200⟩⟩
        first
          | rfl
          | (rw [HN.out, HQ.out]; rfl)
theorem sum_nil (w : World) : Calls Tryd.prog 26 #[.slice none 0 0] w fun e w' => e = .returned (.tuple #[.int .i64 0, .int .i64 0]) ∧ Below w.heap.size w w' := by
  have KI : Hid (∀ w, Calls Tryd.prog 31 #[.slice none 0 0] w fun e w' => e = .returned (.bool true) ∧ w = w') := Lib.hid fun w => by
    go_enter Tryd.func31, Tryd.ntmps31
    go_wp2
    go_loop [4, 7] (fun _ i => i = .int .i64 0) (fun _ i => 1 - (intOf i).toNat)
    case atStart => rfl
    case round =>
      subst hrel
      go_wp2
      go_ret
      exact ⟨rfl, rfl⟩
  have KT := Lib.hid (fun w => ntold_any 0 w)
  have e0 : toldV 0 = .tuple #[.int .i64 0, .int .i64 0] := by unfold toldV; simp
  rw [e0] at KT
  clear e0
  go_enter Tryd.func26, Tryd.ntmps26
  go_wp2_with fail
  refine (KI.out _).mono ?_
  rintro e w' ⟨rfl, rfl⟩
  go_wp2_with fail
  go_loop [4, 5, 15] (fun a b i => a = .int .u64 0 ∧ b = .int .i64 0 ∧ i = .int .i64 0) (fun _ _ i => 1 - (intOf i).toNat)
  case atStart => exact ⟨rfl, rfl, rfl⟩
  case round =>
    obtain ⟨rfl, rfl, rfl⟩ := hrel
    go_wp2_with fail
    refine (KT.out _).mono ?_
    rintro e w' ⟨rfl, hb⟩
    go_wp2_with fail
    go_ret2
    exact ⟨rfl, hb⟩
def TotalP (w : World) (e : Ending) (w' : World) : Prop := Below w.heap.size w w' ∧ ∃ a x : Int, e = .returned (.tuple #[.int .i64 a, .int .i64 x])
set_option maxHeartbeats 2000000 in
set_option maxRecDepth 100000 in
theorem total_any (l : List It) (A : Option Addr) (c : Nat) (hl : l.length ≤ 1000000) (w : World) (h : RdT w w.heap.size A l) :
    Calls Tryd.prog 23 #[.slice A l.length c] w (TotalP w) := by
  have K := Lib.hid (places_any l A c hl w h)
  have HR := Lib.hid h
  clear h
  go_enter Tryd.func23, Tryd.ntmps23
  go_wp2_with fail
  refine K.out.mono ?_
  rintro e w1 ⟨hb1, ⟨m, hm, rfl⟩ | ⟨A1, c1, p, rfl, hp1, hp2, hp3, h200⟩⟩
  · have d1 : (m == 0) = false := by simpa using hm
    have d2 : (m != 0) = true := by simpa using hm
    have HM := Lib.hid hm; have HB1 := Lib.hid hb1
    clear hm hb1
    go_wp2_with fail
    go_ret2
    exact ⟨HB1.out, 0, m, rfl⟩
  · have HB1 := Lib.hid hb1
    have hz1 := hb1.size
    clear hb1 hp1 hp2 hp3 p
    go_wp2_with fail
    go_loopw [6, 19] (fun v i wr => ∃ (k : Nat) (A3 : Option Addr) (c3 : Nat) (Q : List Int), k ≤ l.length ∧ i = .int .i64 (k : Int) ∧ v = .slice A3 Q.length c3 ∧ Hid (Q.length = k) ∧ OwnI wr w1.heap.size 2 A3 c3 Q ∧ Below w1.heap.size w1 wr) (fun _ i _ => l.length - (intOf i).toNat)
    case atStart => exact ⟨0, none, 0, [], by omega, rfl, rfl, Lib.hid rfl, OwnI.nil _ _ _, Below.refl _ _⟩
    case round =>
      obtain ⟨k, A3, c3, Q, hk, rfl, rfl, HQ, O3, HB⟩ := hrel
      have hQ : Q.length ≤ 200 := by rw [HQ.out]; omega
      have hsz := HB.size
      by_cases hlt : k < l.length
      · have hR : RdT wr w1.heap.size A l := RdT.more (RdT.below (RdT.below HR.out HB1.out (Nat.le_refl _)) HB hz1) hz1
        obtain ⟨b, off, rfl, _, hc⟩ := hR.row (by omega)
        obtain ⟨x0, x1, x2, x3⟩ := hc k hlt
        obtain ⟨x, hx⟩ : ∃ x, x = l[k] := ⟨_, rfl⟩
        rw [← hx] at x0 x1 x2 x3
        clear hx hc hR
        have HO3 := Lib.hid O3; have HBB := Lib.hid HB
        clear O3 HB
        go_wp2_with (at_builtin; refine wpList_append_i _ rfl _ _ it rfl w1.heap.size A3 c3 Q rfl ((HO3.out.alloc _).alloc _) (wr.heap.size + 1 + 1) (some ⟨wr.heap.size + 1, 0, none⟩) 1 1 [x.open_] rfl rfl (by exact rdI_new _ _ _ _ (by simp)) (by simp; omega) (by simp; omega) ?_)
        intro A' c' L' w4 hL' ho hg hat
        have HL' : Hid (L'.length = k + 1) := Lib.hid (by rw [hL', List.length_append, HQ.out]; rfl)
        have HO4 := Lib.hid ho
        have HB4 : Hid (Below w1.heap.size w1 w4) := Lib.hid (below_grow ((HBB.out.alloc hsz _).alloc (by simp; omega) _) hg (fun q hq => (HO3.out.blk_ge q hq).1) (by simp; omega))
        clear hL' ho hg hat
        go_wp2_with fail
        go_round
        case rel => exact ⟨k + 1, A', c', L', by omega, by go_num, rfl, HL', HO4.out, HB4.out⟩
        case measure => simp [intOf]; omega
      · have hk2 : k = l.length := by omega
        subst hk2
        have HFB := Lib.hid (HB1.out.trans (HB.mono hz1))
        have hz3 : w.heap.size ≤ wr.heap.size := by omega
        rcases Nat.eq_zero_or_pos Q.length with h0 | hp
        · have e0 : Q = [] := List.eq_nil_of_length_eq_zero h0
          subst e0
          rcases O3.2 with ⟨hv, _⟩ | ⟨g, cap, cur, hv, hg, hh, hr⟩
          · injection hv with hv1 _ hv3
            subst hv1; subst hv3
            clear O3 HB h0
            go_wp2_with fail
            refine (sum_nil _).mono ?_
            rintro e w5 ⟨rfl, hb5⟩
            have HB5 := Lib.hid hb5; clear hb5
            go_wp2_with fail
            go_ret2
            exact ⟨HFB.out.trans (HB5.out.mono hz3), 0, 0, rfl⟩
          · injection hv with hv1 _ hv3
            subst hv1; subst hv3
            obtain ⟨a, x, hax⟩ := sumV_form ([] : List Int)
            have K5 : Hid (Calls Tryd.prog 26 #[.slice (some ⟨g, 0, none⟩) 0 c3] wr fun e w' => e = .returned (.tuple #[.int .i64 a, .int .i64 x]) ∧ Below wr.heap.size wr w') := Lib.hid (by
              have := sum_any g c3 [] (by simp) wr (fun k hk => absurd hk (by simp))
              rw [hax] at this
              exact this)
            clear O3 HB h0 hax hg hh hr
            go_wp2_with fail
            refine K5.out.mono ?_
            rintro e w5 ⟨rfl, hb5⟩
            have HB5 := Lib.hid hb5; clear hb5
            go_wp2_with fail
            go_ret2
            exact ⟨HFB.out.trans (HB5.out.mono hz3), a, x, rfl⟩
        · obtain ⟨g, rfl, hg, hh⟩ := ownI_form O3 hp
          obtain ⟨a, x, hax⟩ := sumV_form Q
          have K5 := Lib.hid (sum_any g c3 Q (by omega) wr hh)
          rw [hax] at K5
          clear O3 HB hax hh hp
          go_wp2_with fail
          refine K5.out.mono ?_
          rintro e w5 ⟨rfl, hb5⟩
          have HB5 := Lib.hid hb5; clear hb5
          go_wp2_with fail
          go_ret2
          exact ⟨HFB.out.trans (HB5.out.mono hz3), a, x, rfl⟩
instance : Inhabited It := ⟨⟨0, 0, 0, 0⟩⟩
def eqIt (x y : It) : Bool := x.due == y.due && x.kind == y.kind && x.period == y.period && x.open_ == y.open_
theorem neqIt : NeqAt Tryd.prog 60 (fun x => .agg (It.cells x).toArray) eqIt := by
  refine ⟨fun x y w => ?_, GuardAt.agg _ (by kernel_rfl)⟩
  have u3 := Tryd.underlying3
  have a3 := Tryd.isAgg3
  have z3 := Tryd.sizeOf3
  have u2 := Tryd.underlying2
  have a2 := Tryd.isAgg2
  have z2 := Tryd.sizeOf2
  have hS : Tryd.prog.underlying 60 = some (.struct (Tryd.prog.fieldsOf 60)) := by kernel_rfl
  have hp : Tryd.prog.stoodInHeld 60 = false := by kernel_rfl
  simp only [It.cells]
  rw [run_neq_struct, show (10000 : Nat) = 9999 + 1 from rfl, run_equalIn_agg w 9999 60 _ _ hS hp]
  simp only [Program.fieldsOf, Tryd.underlying60]
  go_simp
  unfold eqIt
  by_cases h1 : x.due = y.due <;> by_cases h2 : x.kind = y.kind <;> by_cases h3 : x.period = y.period <;> by_cases h4 : x.open_ = y.open_ <;> simp [h1, h2, h3, h4]
def SomeB (w : World) (e : Ending) (w' : World) : Prop := Below w.heap.size w w' ∧ ∃ b : Bool, e = .returned (.bool b)
theorem eqitem_any (l m : List It) (A A2 : Option Addr) (c c2 : Nat) (hl : l.length ≤ 1000000) (he : m.length = l.length) (w : World) (h : RdT w w.heap.size A l) (h2 : RdT w w.heap.size A2 m) :
    Calls Tryd.prog 22 #[.slice A l.length c, .slice A2 l.length c2] w (SomeB w) := by
  rcases Nat.eq_zero_or_pos l.length with h0 | hp
  · rw [h0]
    go_enter Tryd.func22, Tryd.ntmps22
    go_wp2_with fail
    go_loop [13] (fun i => i = .int .i64 0) (fun i => 1 - (intOf i).toNat)
    case atStart => rfl
    case round =>
      subst hrel
      clear h0
      go_wp2_with fail
      go_ret
      exact ⟨Below.refl _ _, true, rfl⟩
  · obtain ⟨b, off, rfl, _, hc⟩ := RdS.row (f := It.cells) (n := 4) (fun _ => rfl) (by omega) h hp
    obtain ⟨b2, off2, rfl, _, hc2⟩ := RdS.row (f := It.cells) (n := 4) (fun _ => rfl) (by omega) h2 (by omega)
    refine (AnyQ.slices_Equal Tryd.eqItem 4 Tryd.isAgg60 Tryd.sizeOf60 It.cells (fun _ => rfl) eqIt neqIt b off l.length c b2 off2 l.length c2 l m w (Nat.le_refl _) (by omega) (by omega) (by omega) (fun j hj i v hv => ?_) (fun j hj i v hv => ?_)).mono ?_
    · rw [getElem!_pos _ j hj] at hv
      exact hc j hj i v hv
    · rw [getElem!_pos _ j hj] at hv
      exact hc2 j hj i v hv
    · rintro e w' ⟨rfl, q, rfl⟩
      exact ⟨below_row w q #[], _, rfl⟩
theorem paid_any (x : It) (W : World) : Calls Tryd.prog 24 #[.agg #[.int .i64 x.due, .int .i64 x.kind, .int .i64 x.period, .int .i64 x.open_]] W fun e w' => e = .returned (.bool (x.open_ == 0)) ∧ Below W.heap.size W w' := by
  obtain ⟨a1, a2, a3, a4⟩ := x
  simp only
  rcases hb : (a4 == 0) with _ | _
  all_goals
    go_enter Tryd.func24, Tryd.ntmps24
    go_wp2_with fail
    go_ret
    exact ⟨rfl, (Below.refl _ _).alloc (Nat.le_refl _) _⟩
theorem hasitem_any (l : List It) (A : Option Addr) (c : Nat) (hl : l.length ≤ 1000000) (hp : 0 < l.length) (w : World) (h : RdT w w.heap.size A l) :
    Calls Tryd.prog 25 #[.slice A l.length c, .func (.func 24) #[] #[]] w (SomeB w) := by
  obtain ⟨b, off, rfl, hb, hc⟩ := RdS.row (f := It.cells) (n := 4) (fun _ => rfl) (by omega) h hp
  refine (AnyQ.slices_ContainsFunc Tryd.hasItem 4 Tryd.isAgg60 Tryd.sizeOf60 It.cells (fun _ => rfl) (fun x => x.open_ == 0) 24 #[] (enters_of Tryd.func24 (by kernel_rfl) rfl) b off l.length c l w (fun W x hW => ?_) (Nat.le_refl _) (by omega) hb (fun j hj i v hv => ?_)).mono ?_
  · refine (paid_any x W).mono ?_
    rintro e w' ⟨rfl, hb⟩
    exact ⟨rfl, hW.trans (hb.mono hW.size)⟩
  · rw [getElem!_pos _ j hj] at hv
    exact hc j hj i v hv
  · rintro e w' ⟨rfl, hb⟩
    exact ⟨hb, _, rfl⟩
end Go.Proofs.YtcegcgbcffdjjaaDoor
