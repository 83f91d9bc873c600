/- Parts of the proof, one behind the other: The contract of alloc.places: places of items, each within the list.; Contracts of alloc.Order, alloc.Total, slices.Equal at items, slices.ContainsFunc at items.; The contract of statement.Right: it hands back some bool; true means that the sums are OK, and that there are no more than 500 lines. -/
import Derived.Test.YtlmejpkngnilcaaGreatDoorMrg33
import Derived.Test.YtlmejpkngnilcaaGreatDoorMrg34
import Derived.BigRegion
import Derived.Test.YtlmejpkngnilcaaGreatDoorMrg04
import Derived.Test.YtlmejpkngnilcaaGreatDoorMrg02
import Derived.Laws.StructEq
namespace Go.Proofs.YtlmejpkngnilcaaGreatDoor
open Go.RowKit
open Go.Sort (grow putRow Holds SWO PermIn SortedIn alloc_eq_grow grow_grow heap_grow_old mapBlock)

/-- Ahead: in the order of payment. -/
def aheadI (a b : It) : Prop := a.due < b.due ∨ (a.due = b.due ∧ (a.kind < b.kind ∨ (a.kind = b.kind ∧ a.period < b.period)))
theorem cmpI_cases (x y : Int) : (x < y ∧ cmpI x y = -1) ∨ (x = y ∧ cmpI x y = 0) ∨ (y < x ∧ cmpI x y = 1) := by
  unfold cmpI
  split
  · exact .inl ⟨by assumption, rfl⟩
  · split
    · exact .inr (.inr ⟨by assumption, rfl⟩)
    · exact .inr (.inl ⟨by omega, rfl⟩)
theorem ordI_lt (a b : It) : ordI a b < 0 ↔ aheadI a b := by
  unfold ordI aheadI
  rcases cmpI_cases a.due b.due with ⟨h1, e1⟩ | ⟨h1, e1⟩ | ⟨h1, e1⟩ <;> rcases cmpI_cases a.kind b.kind with ⟨h2, e2⟩ | ⟨h2, e2⟩ | ⟨h2, e2⟩ <;> rcases cmpI_cases a.period b.period with ⟨h3, e3⟩ | ⟨h3, e3⟩ | ⟨h3, e3⟩ <;>
    simp [orI, e1, e2, e3] <;> omega
theorem swoI {n : Nat} (f : Fin n → It) : SWO (ltOf fun x y => ordI (f x) (f y)) where
  irrefl x := by unfold ltOf; rw [decide_eq_false_iff_not, ordI_lt]; unfold aheadI; omega
  trans x y z h1 h2 := by
    unfold ltOf at *; rw [decide_eq_true_eq, ordI_lt] at *; unfold aheadI at *; omega
  ntrans x y z h1 h2 := by
    unfold ltOf at *; rw [decide_eq_false_iff_not, ordI_lt] at *; unfold aheadI at *; omega
def ints (k : Nat) : List Int := (List.range k).map fun (i : Nat) => (i : Int)
theorem ints_len (k : Nat) : (ints k).length = k := by simp [ints]
theorem ints_succ (k : Nat) : ints (k + 1) = ints k ++ [(k : Int)] := by simp [ints, List.range_succ]
theorem ints_get (k i : Nat) (h : i < k) : (ints k)[i]'(by rw [ints_len]; exact h) = (i : Int) := by simp [ints]
def GoodP (l : List It) (e : Ending) (w' : World) : Prop := ∃ (A' : Option Addr) (c' : Nat) (p : List Nat), e = .returned (.tuple #[.slice A' l.length c', .int .i64 0]) ∧ p.length = l.length ∧ (∀ i ∈ p, i < l.length) ∧ RdI w' w'.heap.size A' (p.map fun (i : Nat) => (i : Int)) ∧ l.length ≤ 200
def PlaceP (l : List It) (w : World) (e : Ending) (w' : World) : Prop := Below w.heap.size w w' ∧ ((∃ m : Int, m ≠ 0 ∧ e = .returned (.tuple #[.slice none 0 0, .int .i64 m])) ∨ GoodP l e w')
theorem RdT.alloc {w : World} {B : Nat} {A : Option Addr} {m : List It} (h : RdT w B A m) (hB : B ≤ w.heap.size) (o : Obj) : RdT (w.alloc o) B A m := Reads.alloc h hB o
theorem cell_sortW {α : Type} [Inhabited α] (enc : α → Value) (W : World) (blk off n : Nat) (dk : Array α) (os : Array Obj) (a : Addr) (h1 : a.block ≠ blk) (h2 : a.block < W.heap.size) : (sortWorld enc W blk off n dk os).cell? a = W.cell? a := by
  unfold sortWorld
  rw [Sort.cell?_grow _ _ _ (by rw [Sort.size_putRow]; exact h2), Sort.cell?_putRow_other enc _ blk off dk a (Or.inl h1)]
  rfl
theorem grownBy_sortW {α : Type} [Inhabited α] (enc : α → Value) (w : World) (g n : Nat) (d : Array α) (os : Array Obj) : w.grownBy (sortWorld enc w g 0 n d os) (some g) := by
  unfold sortWorld
  refine ⟨rfl, rfl, rfl, by simp, fun k hk hne => ?_⟩
  rw [heap_grow_old _ _ (by simpa using hk)]
  have : g ≠ k := fun e => hne (by rw [e])
  simp [putRow, mapBlock, Sort.ahead, Array.getElem?_modify, this]
theorem iv_flat (m : List Int) : iv m = m.flatMap fun x => [Value.int .i64 x] := by
  unfold iv
  induction m with
  | nil => rfl
  | cons a l ih => rw [List.map_cons, List.flatMap_cons, ih]; rfl
theorem RdI.row {w : World} {B : Nat} {A : Option Addr} {m : List Int} (h : RdI w B A m) (hm : 0 < m.length) : ∃ b off, A = some ⟨b, off, none⟩ ∧ b < B ∧ ∀ k (hk : k < m.length), w.cell? ⟨b, off + k, none⟩ = some (.int .i64 m[k]) := by
  unfold RdI at h
  rw [iv_flat] at h
  obtain ⟨b, off, hA, hb, hc⟩ := rows_at (fun x => [Value.int .i64 x]) 1 (fun _ => rfl) (by omega) h hm
  exact ⟨b, off, hA, hb, fun k hk => by have := hc k hk 0 _ rfl; simpa using this⟩
theorem sort_any (l : List It) (A : Option Addr) (c B base : Nat) (A1 : Option Addr) (c1 : Nat) (hl : l.length ≤ 200) (W : World) (hO : OwnI W base 3 A1 c1 (ints l.length)) (hB : B < base) (hbs : base ≤ W.heap.size)
    (hb : W.cell? ⟨B, 0, none⟩ = some (.slice A l.length c)) (h : RdT W base A l) :
    Calls Tryz.prog 70 #[.slice A1 l.length c1, .func (.func 71) #[] #[.pointer (some ⟨B, 0, none⟩)]] W fun e w' => e = .returned (.tuple #[]) ∧
      (Below base W w' ∧ ∃ p : List Nat, p.length = l.length ∧ (∀ i ∈ p, i < l.length) ∧ RdI w' w'.heap.size A1 (p.map fun (i : Nat) => (i : Int))) := by
  rcases Nat.eq_zero_or_pos l.length with h0 | hp
  · have e0 : l = [] := List.eq_nil_of_length_eq_zero h0
    subst e0
    refine (AnyF.slices_SortFunc_none Tryz.sortInt0 A1 c1 _ W).mono ?_
    rintro e w' ⟨rfl, rfl⟩
    exact ⟨rfl, Below.refl _ _, [], rfl, by simp, RdI.nil⟩
  have hge := hO.blk_ge
  have hO' := hO
  unfold OwnI at hO'
  obtain ⟨g, cap, cur, hv, hg1, hg2, hcur, hrest⟩ : ∃ g cap cur, Value.slice A1 (ints l.length).length c1 = .slice (some ⟨g, 0, none⟩) (ints l.length).length cap ∧ base ≤ g ∧ W.heap[g]? = some (.cells cur 3) ∧ (True ∧ True) := by
    rcases hO'.2 with ⟨_, hn⟩ | ⟨g, cap, cur, hv, hg, hh, _⟩
    · rw [ints_len] at hn; omega
    · exact ⟨g, cap, cur, hv, hg, hh, trivial, trivial⟩
  injection hv with hv
  subst hv
  have hg : g < W.heap.size := (hge g rfl).2
  have hfz : ∀ j, W.frozen? ⟨g, j, none⟩ = false := fun j => Lib.frozen_of_heap hg2 j
  have hrd := hO.rd
  have hcell : ∀ k, k < l.length → W.cell? ⟨g, k, none⟩ = some (.int .i64 (k : Int)) := fun k hk => by
    obtain ⟨ad, h1, _, h3⟩ := hrd.cell (k := k) (by rw [ints_len]; exact hk)
    injection h1 with h1; subst h1
    rw [ints_get _ _ hk] at h3
    unfold Addr.add at h3
    split at h3
    · rename_i h0; subst h0; exact h3
    · simpa using h3
  letI : Inhabited (Fin l.length) := ⟨⟨0, hp⟩⟩
  have hsz : (Array.ofFn (fun i : Fin l.length => i)).size = l.length := by simp
  have hget : ∀ j (hj : j < l.length), (Array.ofFn (fun i : Fin l.length => i))[j]! = ⟨j, hj⟩ := fun j hj => by
    rw [getElem!_pos _ j (by rw [hsz]; exact hj)]; simp
  have key := Any.slices_SortFunc Tryz.sortInt (fun i : Fin l.length => Value.int .i64 (i.val : Int)) (fun _ => rfl) (fun x y => ordI l[x] l[y]) (swoI fun x => l[x]) 71 #[.pointer (some ⟨B, 0, none⟩)] g 0 c1 (Array.ofFn (fun i : Fin l.length => i)) W
    (enters_of Tryz.func71 (by kernel_rfl) rfl)
    (fun m os dk _ x y => by
      have hlt := lt_sortWorld (fun i : Fin l.length => Value.int .i64 (i.val : Int)) W g 0 m dk os hg
      refine place1_any l A c B x.val y.val x.isLt y.isLt (sortWorld (fun i : Fin l.length => Value.int .i64 (i.val : Int)) W g 0 m dk os) ?_ hl ?_
      · rw [cell_sortW _ _ _ _ _ _ _ _ (by show B ≠ g; omega) (by show B < _; omega)]; exact hb
      · have hk : RdT (sortWorld (fun i : Fin l.length => Value.int .i64 (i.val : Int)) W g 0 m dk os) base A l := Reads.keep h fun p hp => cell_sortW _ _ _ _ _ _ _ _ (by omega) (by omega)
        exact hk.more (by omega))
    (fun j hj => by
      rw [hsz] at hj
      rw [Nat.zero_add, hget j hj]
      exact ⟨hcell j hj, hfz j⟩) hg (by rw [hsz]; omega)
  rw [hsz] at key
  refine key.mono ?_
  rintro e w' ⟨rfl, d', n, os, hpm, _, rfl⟩
  have hgr := grownBy_sortW (fun i : Fin l.length => Value.int .i64 (i.val : Int)) W g n d' os
  have hd : d'.size = l.length := by rw [hpm.1, hsz]
  have hlt := lt_sortWorld (fun i : Fin l.length => Value.int .i64 (i.val : Int)) W g 0 n d' os hg
  have hh := holds_sortWorld (fun i : Fin l.length => Value.int .i64 (i.val : Int)) W g 0 n (Array.ofFn (fun i : Fin l.length => i)) d' os hg (fun j hj => by
      rw [hsz] at hj
      rw [Nat.zero_add, hget j hj]
      exact ⟨hcell j hj, hfz j⟩) (by rw [hd, hsz])
  refine ⟨rfl, below_grow (Below.refl _ _) hgr (fun q hq => by injection hq with hq; omega) hbs, d'.toList.map Fin.val, by simp [hd], ?_, ?_⟩
  · intro i hi
    simp only [List.mem_map] at hi
    obtain ⟨x, _, rfl⟩ := hi
    exact x.isLt
  · refine ⟨by simp [iv, hd], fun _ => ⟨⟨g, 0, none⟩, rfl, hlt, fun j u hj => ?_⟩⟩
    have hjl : j < d'.size := by
      rcases Nat.lt_or_ge j d'.size with h | h
      · exact h
      · rw [List.getElem?_eq_none (by simp [iv]; exact h)] at hj; cases hj
    have h1 := (hh j hjl).1
    rw [getElem!_pos _ j hjl, Nat.zero_add] at h1
    simp [iv, hjl] at hj
    subst hj
    unfold Addr.add
    split
    · rename_i h0; subst h0; exact h1
    · simpa using h1
set_option maxHeartbeats 2000000 in
set_option maxRecDepth 100000 in
theorem places_any (l : List It) (A : Option Addr) (c : Nat) (hl : l.length ≤ 1000000) (w : World) (h : RdT w w.heap.size A l) :
    Calls Tryz.prog 47 #[.slice A l.length c] w (PlaceP l w) := by
  by_cases h200 : 200 < l.length
  · go_enter Tryz.func47, Tryz.ntmps47
    go_wp2_with fail
    go_ret2
    exact ⟨(Below.refl _ _).alloc (Nat.le_refl _) _, .inl ⟨1, by decide, rfl⟩⟩
  have h2 : l.length ≤ 200 := by omega
  clear h200 hl
  go_enter Tryz.func47, Tryz.ntmps47
  go_wp2_with fail
  go_loopw [4, 13] (fun v i wr => ∃ (k : Nat) (A1 : Option Addr) (c1 : Nat) (L : List Int), k ≤ l.length ∧ i = .int .i64 (k : Int) ∧ v = .slice A1 L.length c1 ∧ Hid (L = ints k) ∧ OwnI wr (w.heap.size + 1) 3 A1 c1 L ∧ Below (w.heap.size + 1) (w.alloc (.cells #[.slice A l.length c] 23)) wr) (fun _ i _ => l.length - (intOf i).toNat)
  case atStart => exact ⟨0, none, 0, [], by omega, rfl, rfl, Lib.hid rfl, OwnI.nil _ _ _, Below.refl _ _⟩
  case round =>
    obtain ⟨k, A1, c1, L, hk, rfl, rfl, HL, O1, HB⟩ := hrel
    have hL : L.length ≤ 200 := by rw [HL.out, ints_len]; omega
    have hsz : w.heap.size + 1 ≤ wr.heap.size := by have := HB.size; simpa using this
    by_cases hlt : k < l.length
    · have hR : RdT wr wr.heap.size A l := RdT.more (RdT.below (h.alloc (Nat.le_refl _) (.cells #[.slice A l.length c] 23)) HB (by omega)) (by omega)
      obtain ⟨b, off, rfl, hb, hc⟩ := hR.row (by omega)
      obtain ⟨x0, x1, x2, x3⟩ := hc k hlt
      obtain ⟨x, hx⟩ : ∃ x, x = l[k] := ⟨_, rfl⟩
      rw [← hx] at x0 x1 x2 x3
      clear hx hc hR
      obtain ⟨a1, a2, a3, a4⟩ := x
      simp only at x0 x1 x2 x3
      have HO1 := Lib.hid O1; have HBB := Lib.hid HB
      clear O1 HB h
      have HFIN : ∀ o, Below w.heap.size w (wr.alloc o) := fun o => (((Below.refl _ _).alloc (Nat.le_refl _) _).trans (HBB.out.mono (by omega))).alloc (by omega) _
      have HFIN := Lib.hid HFIN
      rcases hw1 : wi a1 0 3652058 with _ | _
      · have K1 := Lib.hid (fun w => within_any a1 0 3652058 _ hw1 w)
        clear hw1
        go_wp2_with fail
        refine (K1.out _).mono ?_
        rintro e w' ⟨rfl, rfl⟩
        go_wp2_with fail
        go_ret2
        exact ⟨HFIN.out _, .inl ⟨1, by decide, rfl⟩⟩
      rcases hw2 : wi a2 0 2 with _ | _
      · have K1 := Lib.hid (fun w => within_any a1 0 3652058 _ hw1 w)
        have K2 := Lib.hid (fun w => within_any a2 0 2 _ hw2 w)
        clear hw1 hw2
        go_wp2_with fail
        refine (K1.out _).mono ?_
        rintro e w' ⟨rfl, rfl⟩
        go_wp2_with fail
        refine (K2.out _).mono ?_
        rintro e w' ⟨rfl, rfl⟩
        go_wp2_with fail
        go_ret2
        exact ⟨HFIN.out _, .inl ⟨1, by decide, rfl⟩⟩
      rcases hw3 : wi a3 1 99999 with _ | _
      · have K1 := Lib.hid (fun w => within_any a1 0 3652058 _ hw1 w)
        have K2 := Lib.hid (fun w => within_any a2 0 2 _ hw2 w)
        have K3 := Lib.hid (fun w => within_any a3 1 99999 _ hw3 w)
        clear hw1 hw2 hw3
        go_wp2_with fail
        refine (K1.out _).mono ?_
        rintro e w' ⟨rfl, rfl⟩
        go_wp2_with fail
        refine (K2.out _).mono ?_
        rintro e w' ⟨rfl, rfl⟩
        go_wp2_with fail
        refine (K3.out _).mono ?_
        rintro e w' ⟨rfl, rfl⟩
        go_wp2_with fail
        go_ret2
        exact ⟨HFIN.out _, .inl ⟨1, by decide, rfl⟩⟩
      rcases hw4 : wi a4 0 4611686018427387904 with _ | _
      · have K1 := Lib.hid (fun w => within_any a1 0 3652058 _ hw1 w)
        have K2 := Lib.hid (fun w => within_any a2 0 2 _ hw2 w)
        have K3 := Lib.hid (fun w => within_any a3 1 99999 _ hw3 w)
        have K4 := Lib.hid (fun w => within64_any a4 0 4611686018427387904 _ hw4 w)
        clear hw1 hw2 hw3 hw4
        go_wp2_with fail
        refine (K1.out _).mono ?_
        rintro e w' ⟨rfl, rfl⟩
        go_wp2_with fail
        refine (K2.out _).mono ?_
        rintro e w' ⟨rfl, rfl⟩
        go_wp2_with fail
        refine (K3.out _).mono ?_
        rintro e w' ⟨rfl, rfl⟩
        go_wp2_with fail
        refine (K4.out _).mono ?_
        rintro e w' ⟨rfl, rfl⟩
        go_wp2_with fail
        go_ret2
        exact ⟨HFIN.out _, .inl ⟨1, by decide, rfl⟩⟩
      · have K1 := Lib.hid (fun w => within_any a1 0 3652058 _ hw1 w)
        have K2 := Lib.hid (fun w => within_any a2 0 2 _ hw2 w)
        have K3 := Lib.hid (fun w => within_any a3 1 99999 _ hw3 w)
        have K4 := Lib.hid (fun w => within64_any a4 0 4611686018427387904 _ hw4 w)
        clear hw1 hw2 hw3 hw4
        go_wp2_with fail
        refine (K1.out _).mono ?_
        rintro e w' ⟨rfl, rfl⟩
        go_wp2_with fail
        refine (K2.out _).mono ?_
        rintro e w' ⟨rfl, rfl⟩
        go_wp2_with fail
        refine (K3.out _).mono ?_
        rintro e w' ⟨rfl, rfl⟩
        go_wp2_with fail
        refine (K4.out _).mono ?_
        rintro e w' ⟨rfl, rfl⟩
        go_wp2_with (at_builtin; refine wpList_append_i _ rfl _ _ itn rfl (w.heap.size + 1) A1 c1 L rfl ((HO1.out.alloc _).alloc _) (wr.heap.size + 1 + 1) (some ⟨wr.heap.size + 1, 0, none⟩) 1 1 [(k : Int)] rfl rfl (by exact rdI_new _ _ _ _ (by simp)) (by simp; omega) (by simp; omega) ?_)
        intro A' c' L' w2 hL' ho hg hat
        have HL' : Hid (L' = ints (k + 1)) := Lib.hid (by rw [hL', HL.out, ints_succ])
        have HO2 := Lib.hid ho
        have HB2 : Hid (Below (w.heap.size + 1) (w.alloc (.cells #[.slice (some ⟨b, off, none⟩) l.length c] 23)) w2) := Lib.hid (below_grow ((HBB.out.alloc hsz _).alloc (by simp; omega) _) hg (fun q hq => (HO1.out.blk_ge q hq).1) (by simp; omega))
        clear hL' ho hg hat
        go_wp2_with fail
        go_round
        case rel => exact ⟨k + 1, A', c', L', by omega, by go_num, rfl, HL', HO2.out, HB2.out⟩
        case measure => simp [intOf]; omega
    · have hk2 : k = l.length := by omega
      subst hk2
      have hL2 := HL.out
      have hLn : L.length = l.length := by rw [hL2, ints_len]
      have hbox : wr.cell? ⟨w.heap.size, 0, none⟩ = some (.slice A l.length c) := by rw [HB.cell (by show w.heap.size < _; omega)]; simp
      have hR : RdT wr (w.heap.size + 1) A l := RdT.more (RdT.below (h.alloc (Nat.le_refl _) (.cells #[.slice A l.length c] 23)) HB (by omega)) (by omega)
      rw [hL2] at O1
      have K := Lib.hid (sort_any l A c w.heap.size (w.heap.size + 1) A1 c1 h2 wr O1 (by omega) hsz hbox hR)
      rw [hLn]
      have HBB := Lib.hid HB; have HRR := Lib.hid hR; have HBX := Lib.hid hbox
      clear HL hL2 hLn O1 HB h hR hbox hL
      go_wp2_with fail
      refine K.out.mono ?_
      rintro e w2 ⟨rfl, hb2, p, hp1, hp2, hp3⟩
      have HB2 := Lib.hid hb2; have HP := Lib.hid hp2; have HR3 := Lib.hid hp3; have HP1 := Lib.hid hp1
      have hz2 : w.heap.size + 1 ≤ w2.heap.size := by have := hb2.size; omega
      clear hb2 hp1 hp2 hp3
      go_wp2_with fail
      go_loopw [7] (fun i wr => ∃ m : Nat, i = .int .i64 ((m : Int) + 1) ∧ Hid (Below w2.heap.size w2 wr)) (fun i _ => l.length - (intOf i).toNat)
      case atStart => exact ⟨0, rfl, Lib.hid (Below.refl _ _)⟩
      case round =>
        obtain ⟨m, rfl, HW⟩ := hrel
        have hzq : w2.heap.size ≤ wr.heap.size := HW.out.size
        by_cases hlt : m + 1 < l.length
        · have hRq : RdT wr wr.heap.size A l := RdT.more (RdT.below (RdT.below HRR.out HB2.out (by omega)) HW.out hz2) (by omega)
          have hPq : RdI wr w2.heap.size A1 (p.map fun (i : Nat) => (i : Int)) := RdI.below HR3.out HW.out (Nat.le_refl _)
          have hbx : wr.cell? ⟨w.heap.size, 0, none⟩ = some (.slice A l.length c) := by
            rw [HW.out.cell (by show w.heap.size < _; omega), HB2.out.cell (by show w.heap.size < _; omega)]; exact HBX.out
          obtain ⟨b, off, rfl, _, hc⟩ := hRq.row (by omega)
          obtain ⟨g, of2, rfl, _, hpc⟩ := hPq.row (by simp [HP1.out]; omega)
          have hm1 : m < p.length := by rw [HP1.out]; omega
          have hm2 : m + 1 < p.length := by rw [HP1.out]; omega
          have q1 := hpc m (by simpa using hm1)
          have q2 := hpc (m + 1) (by simpa using hm2)
          rw [List.getElem_map] at q1 q2
          have b1 := HP.out _ (List.getElem_mem hm1)
          have b2 := HP.out _ (List.getElem_mem hm2)
          obtain ⟨i1, hi1⟩ : ∃ i1, i1 = p[m] := ⟨_, rfl⟩
          obtain ⟨i2, hi2⟩ : ∃ i2, i2 = p[m + 1] := ⟨_, rfl⟩
          rw [← hi1] at q1 b1; rw [← hi2] at q2 b2
          obtain ⟨x0, x1, x2, x3⟩ := hc i1 b1
          obtain ⟨y0, y1, y2, y3⟩ := hc i2 b2
          obtain ⟨x, hx⟩ : ∃ x, x = l[i1] := ⟨_, rfl⟩
          obtain ⟨y, hy⟩ : ∃ y, y = l[i2] := ⟨_, rfl⟩
          rw [← hx] at x0 x1 x2 x3
          rw [← hy] at y0 y1 y2 y3
          clear hx hy hc hpc hi1 hi2 hRq hPq hm1 hm2
          have s1 : m < l.length := by omega
          have s2 : (m : Int) + 1 < (l.length : Int) := by omega
          have s3 : (0 : Int) ≤ (m : Int) + 1 := by omega
          have s4 : ((m : Int) + 1).toNat = m + 1 := by omega
          have e1 : IntKind.i64.wrap (m : Int) = (m : Int) := by rw [IntKind.wrap_i64]; omega
          go_wp2_with fail
          obtain ⟨V, hV⟩ : ∃ V : World, wr.drew = V := ⟨_, rfl⟩
          have HV := Lib.hid hV
          have e : ∀ p, wr.cell? p = V.cell? p := fun p => by rw [← hV]; rfl
          rw [e] at hbx q1 q2 x0 x1 x2 x3 y0 y1 y2 y3
          clear e
          refine region_still_tail 15 (by kernel_rfl) (by kernel_rfl) hV ?_
          simp only [List.take_succ_cons, List.take_zero, List.drop_succ_cons, List.drop_zero]
          clear hV
          repeat still_step
          refine wpStill_nil ?_
          go_wp2_with fail
          refine (order_any x y V).mono ?_
          rintro e w' ⟨rfl, q, os, rfl⟩
          have HY : Hid (Below w2.heap.size w2 (grow (V.drewN q) os)) := Lib.hid (by
            have h1 := below_row wr (q + 1) os
            have h2 : grow (V.drewN q) os = grow (wr.drewN (q + 1)) os := by rw [← HV.out]; show grow ((wr.drewN 1).drewN q) os = _; rw [World.drewN_drewN, Nat.add_comm]
            rw [h2]
            exact HW.out.trans (h1.mono hzq))
          obtain ⟨z, hz⟩ : ∃ z, z = ordI x y := ⟨_, rfl⟩
          rw [← hz]
          clear hz
          obtain ⟨w5, hw5⟩ : ∃ w5, w5 = grow (V.drewN q) os := ⟨_, rfl⟩
          rw [← hw5] at HY ⊢
          clear hw5
          by_cases hz : z = 0
          · subst hz
            go_wp2_with fail
            go_ret2
            refine ⟨?_, .inl ⟨5, by decide, rfl⟩⟩
            exact ((((Below.refl _ _).alloc (Nat.le_refl _) _).trans (HBB.out.mono (by omega))).trans (HB2.out.mono (by omega))).trans (HY.out.mono (by omega))
          · have d1 : (z == 0) = false := by simpa using hz
            clear hz
            go_wp2_with fail
            go_round
            case rel => exact ⟨m + 1, by go_num, HY⟩
            case measure => simp [intOf]; omega
        · go_wp2_with fail
          go_ret2
          refine ⟨((((Below.refl _ _).alloc (Nat.le_refl _) _).trans (HBB.out.mono (by omega))).trans (HB2.out.mono (by omega))).trans (HW.out.mono (by omega)), .inr ⟨A1, c1, p, rfl, HP1.out, HP.out, (RdI.below HR3.out HW.out (Nat.le_refl _)).more hzq, h2⟩⟩
end Go.Proofs.YtlmejpkngnilcaaGreatDoor

namespace Go.Proofs.YtlmejpkngnilcaaGreatDoor
open Go.RowKit

theorem itT : RT Tryz.prog 23 53 It.cells 4 32 (.agg #[.int .i64 0, .int .i64 0, .int .i64 0, .int .i64 0]) :=
  ⟨Tryz.underlying23, by kernel_rfl, fun _ => rfl, fun a u hu => by
    simp only [It.cells, List.mem_cons, List.not_mem_nil, or_false] at hu
    rcases hu with rfl | rfl | rfl | rfl <;> rfl, by omega, rfl⟩
theorem rdT_new (w : World) (x : It) (g : Nat) (hg : g = w.heap.size) : RdS It.cells 4 (w.alloc (.cells #[.int .i64 x.due, .int .i64 x.kind, .int .i64 x.period, .int .i64 x.open_] 53)) (g + 1) (some ⟨g, 0, none⟩) [x] := by
  subst hg
  refine RdS.of (f := It.cells) (n := 4) (fun _ => rfl) w.heap.size 0 (Nat.lt_succ_self _) fun k hk j u hj => ?_
  have hk0 : k = 0 := by simp at hk; omega
  subst hk0
  match j, hj with
  | 0, hj => simp [It.cells] at hj; subst hj; simp
  | 1, hj => simp [It.cells] at hj; subst hj; simp
  | 2, hj => simp [It.cells] at hj; subst hj; simp
  | 3, hj => simp [It.cells] at hj; subst hj; simp
  | _ + 4, hj => simp [It.cells] at hj
def OrderP (l : List It) (w : World) (e : Ending) (w' : World) : Prop := Below w.heap.size w w' ∧ ((∃ m : Int, m ≠ 0 ∧ e = .returned (.tuple #[.slice none 0 0, .int .i64 m])) ∨
  ∃ (A' : Option Addr) (c' : Nat) (q : List It), e = .returned (.tuple #[.slice A' l.length c', .int .i64 0]) ∧ q.length = l.length ∧ RdT w' w'.heap.size A' q ∧ l.length ≤ 200)
set_option maxHeartbeats 2000000 in
set_option maxRecDepth 100000 in
theorem alcorder_any (l : List It) (A : Option Addr) (c : Nat) (hl : l.length ≤ 1000000) (w : World) (h : RdT w w.heap.size A l) :
    Calls Tryz.prog 23 #[.slice A l.length c] w (OrderP l w) := by
  have K := Lib.hid (places_any l A c hl w h)
  have HR := Lib.hid h
  clear h
  go_enter Tryz.func23, Tryz.ntmps23
  go_wp2_with fail
  refine K.out.mono ?_
  rintro e w1 ⟨hb1, ⟨m, hm, rfl⟩ | ⟨A1, c1, p, rfl, hp1, hp2, hp3, h200⟩⟩
  · have d1 : (m == 0) = false := by simpa using hm
    have d2 : (m != 0) = true := by simpa using hm
    have HM := Lib.hid hm; have HB1 := Lib.hid hb1
    clear hm hb1
    go_wp2_with fail
    go_ret2
    exact ⟨HB1.out, .inl ⟨m, HM.out, rfl⟩⟩
  · have HB1 := Lib.hid hb1; have HP1 := Lib.hid hp1; have HP2 := Lib.hid hp2; have HP3 := Lib.hid hp3
    have hz1 := hb1.size
    clear hb1 hp1 hp2 hp3
    go_wp2_with (refine wpList_make_s _ rfl _ _ itT rfl _ _ l.length rfl rfl (by omega) (by unfold maxLen; omega) ?_)
    intro w2 ho2 hg2
    have HO2 := Lib.hid ho2
    have HB2 : Hid (Below w1.heap.size w1 w2) := Lib.hid (below_grow (Below.refl _ _) hg2 (fun q hq => by cases hq) (Nat.le_refl _))
    have hz2 : w1.heap.size ≤ w2.heap.size := HB2.out.size
    clear ho2 hg2
    go_wp2_with fail
    go_loopw [6, 22] (fun v i wr => ∃ (k : Nat) (A3 : Option Addr) (c3 : Nat) (Q : List It), k ≤ l.length ∧ i = .int .i64 (k : Int) ∧ v = .slice A3 Q.length c3 ∧ Hid (Q.length = k) ∧ OwnS It.cells 4 wr w1.heap.size 53 A3 c3 Q ∧ Below w1.heap.size w1 wr) (fun _ i _ => l.length - (intOf i).toNat)
    case atStart => exact ⟨0, _, l.length, [], by omega, rfl, rfl, Lib.hid rfl, HO2.out, HB2.out⟩
    case round =>
      obtain ⟨k, A3, c3, Q, hk, rfl, rfl, HQ, O3, HB⟩ := hrel
      have hQ : Q.length ≤ 200 := by rw [HQ.out]; omega
      have hsz := HB.size
      by_cases hlt : k < l.length
      · have hR : RdT wr w1.heap.size A l := RdT.more (RdT.below (RdT.below HR.out HB1.out (Nat.le_refl _)) HB hz1) hz1
        obtain ⟨b, off, rfl, _, hc⟩ := hR.row (by omega)
        have hP : RdI wr w1.heap.size A1 (p.map fun (i : Nat) => (i : Int)) := RdI.below HP3.out HB (Nat.le_refl _)
        obtain ⟨g, of2, rfl, _, hpc⟩ := hP.row (by simp [HP1.out]; omega)
        have hkp : k < p.length := by rw [HP1.out]; exact hlt
        have q1 := hpc k (by simpa using hkp)
        rw [List.getElem_map] at q1
        have b1 := HP2.out _ (List.getElem_mem hkp)
        obtain ⟨i1, hi1⟩ : ∃ i1, i1 = p[k] := ⟨_, rfl⟩
        rw [← hi1] at q1 b1
        obtain ⟨x0, x1, x2, x3⟩ := hc i1 b1
        obtain ⟨x, hx⟩ : ∃ x, x = l[i1] := ⟨_, rfl⟩
        rw [← hx] at x0 x1 x2 x3
        clear hx hc hpc hi1 hR hP hkp
        have HO3 := Lib.hid O3; have HBB := Lib.hid HB
        clear O3 HB
        go_wp2_with (at_builtin; refine wpList_append_s _ rfl _ _ itT rfl w1.heap.size A3 c3 Q rfl (HO3.out.alloc _) (wr.heap.size + 1) (some ⟨wr.heap.size, 0, none⟩) 1 1 [x] rfl rfl (by exact rdT_new _ _ _ rfl) (by simp; omega) (by unfold maxLen; simp; omega) (by simp; omega) ?_)
        intro A' c' L' w4 hL' ho hg hat
        have HL' : Hid (L'.length = k + 1) := Lib.hid (by rw [hL', List.length_append, HQ.out]; rfl)
        have HO4 := Lib.hid ho
        have HB4 : Hid (Below w1.heap.size w1 w4) := Lib.hid (below_grow (HBB.out.alloc hsz _) hg (fun q hq => (HO3.out.blk_ge q hq).1) (by simp; omega))
        clear hL' ho hg hat
        go_wp2_with fail
        go_round
        case rel => exact ⟨k + 1, A', c', L', by omega, by go_num, rfl, HL', HO4.out, HB4.out⟩
        case measure => simp [intOf]; omega
      · have hk2 : k = l.length := by omega
        subst hk2
        have HO3 := Lib.hid O3; have HBB := Lib.hid HB
        obtain ⟨n, hn⟩ : ∃ n, n = Q.length := ⟨_, rfl⟩
        rw [← hn]
        have HN := Lib.hid hn
        clear O3 HB hn
        go_wp2_with fail
        go_ret2
        refine ⟨HB1.out.trans (HBB.out.mono hz1), .inr ⟨A3, c3, Q, ?_, HQ.out, HO3.out.rd, h200⟩⟩
        first
          | rfl
          | (rw [HN.out, HQ.out]; rfl)
theorem sum_nil (w : World) : Calls Tryz.prog 46 #[.slice none 0 0] w fun e w' => e = .returned (.tuple #[.int .i64 0, .int .i64 0]) ∧ Below w.heap.size w w' := by
  have KI : Hid (∀ w, Calls Tryz.prog 65 #[.slice none 0 0] w fun e w' => e = .returned (.bool true) ∧ w = w') := Lib.hid fun w => by
    go_enter Tryz.func65, Tryz.ntmps65
    go_wp2
    go_loop [4, 7] (fun _ i => i = .int .i64 0) (fun _ i => 1 - (intOf i).toNat)
    case atStart => rfl
    case round =>
      subst hrel
      go_wp2
      go_ret
      exact ⟨rfl, rfl⟩
  have KT := Lib.hid (fun w => ntold_any 0 w)
  have e0 : toldV 0 = .tuple #[.int .i64 0, .int .i64 0] := by unfold toldV; simp
  rw [e0] at KT
  clear e0
  go_enter Tryz.func46, Tryz.ntmps46
  go_wp2_with fail
  refine (KI.out _).mono ?_
  rintro e w' ⟨rfl, rfl⟩
  go_wp2_with fail
  go_loop [4, 5, 15] (fun a b i => a = .int .u64 0 ∧ b = .int .i64 0 ∧ i = .int .i64 0) (fun _ _ i => 1 - (intOf i).toNat)
  case atStart => exact ⟨rfl, rfl, rfl⟩
  case round =>
    obtain ⟨rfl, rfl, rfl⟩ := hrel
    go_wp2_with fail
    refine (KT.out _).mono ?_
    rintro e w' ⟨rfl, hb⟩
    go_wp2_with fail
    go_ret2
    exact ⟨rfl, hb⟩
def TotalP (w : World) (e : Ending) (w' : World) : Prop := Below w.heap.size w w' ∧ ∃ a x : Int, e = .returned (.tuple #[.int .i64 a, .int .i64 x])
set_option maxHeartbeats 2000000 in
set_option maxRecDepth 100000 in
theorem total_any (l : List It) (A : Option Addr) (c : Nat) (hl : l.length ≤ 1000000) (w : World) (h : RdT w w.heap.size A l) :
    Calls Tryz.prog 25 #[.slice A l.length c] w (TotalP w) := by
  have K := Lib.hid (places_any l A c hl w h)
  have HR := Lib.hid h
  clear h
  go_enter Tryz.func25, Tryz.ntmps25
  go_wp2_with fail
  refine K.out.mono ?_
  rintro e w1 ⟨hb1, ⟨m, hm, rfl⟩ | ⟨A1, c1, p, rfl, hp1, hp2, hp3, h200⟩⟩
  · have d1 : (m == 0) = false := by simpa using hm
    have d2 : (m != 0) = true := by simpa using hm
    have HM := Lib.hid hm; have HB1 := Lib.hid hb1
    clear hm hb1
    go_wp2_with fail
    go_ret2
    exact ⟨HB1.out, 0, m, rfl⟩
  · have HB1 := Lib.hid hb1
    have hz1 := hb1.size
    clear hb1 hp1 hp2 hp3 p
    go_wp2_with fail
    go_loopw [6, 19] (fun v i wr => ∃ (k : Nat) (A3 : Option Addr) (c3 : Nat) (Q : List Int), k ≤ l.length ∧ i = .int .i64 (k : Int) ∧ v = .slice A3 Q.length c3 ∧ Hid (Q.length = k) ∧ OwnI wr w1.heap.size 2 A3 c3 Q ∧ Below w1.heap.size w1 wr) (fun _ i _ => l.length - (intOf i).toNat)
    case atStart => exact ⟨0, none, 0, [], by omega, rfl, rfl, Lib.hid rfl, OwnI.nil _ _ _, Below.refl _ _⟩
    case round =>
      obtain ⟨k, A3, c3, Q, hk, rfl, rfl, HQ, O3, HB⟩ := hrel
      have hQ : Q.length ≤ 200 := by rw [HQ.out]; omega
      have hsz := HB.size
      by_cases hlt : k < l.length
      · have hR : RdT wr w1.heap.size A l := RdT.more (RdT.below (RdT.below HR.out HB1.out (Nat.le_refl _)) HB hz1) hz1
        obtain ⟨b, off, rfl, _, hc⟩ := hR.row (by omega)
        obtain ⟨x0, x1, x2, x3⟩ := hc k hlt
        obtain ⟨x, hx⟩ : ∃ x, x = l[k] := ⟨_, rfl⟩
        rw [← hx] at x0 x1 x2 x3
        clear hx hc hR
        have HO3 := Lib.hid O3; have HBB := Lib.hid HB
        clear O3 HB
        go_wp2_with (at_builtin; refine wpList_append_i _ rfl _ _ it rfl w1.heap.size A3 c3 Q rfl ((HO3.out.alloc _).alloc _) (wr.heap.size + 1 + 1) (some ⟨wr.heap.size + 1, 0, none⟩) 1 1 [x.open_] rfl rfl (by exact rdI_new _ _ _ _ (by simp)) (by simp; omega) (by simp; omega) ?_)
        intro A' c' L' w4 hL' ho hg hat
        have HL' : Hid (L'.length = k + 1) := Lib.hid (by rw [hL', List.length_append, HQ.out]; rfl)
        have HO4 := Lib.hid ho
        have HB4 : Hid (Below w1.heap.size w1 w4) := Lib.hid (below_grow ((HBB.out.alloc hsz _).alloc (by simp; omega) _) hg (fun q hq => (HO3.out.blk_ge q hq).1) (by simp; omega))
        clear hL' ho hg hat
        go_wp2_with fail
        go_round
        case rel => exact ⟨k + 1, A', c', L', by omega, by go_num, rfl, HL', HO4.out, HB4.out⟩
        case measure => simp [intOf]; omega
      · have hk2 : k = l.length := by omega
        subst hk2
        have HFB := Lib.hid (HB1.out.trans (HB.mono hz1))
        have hz3 : w.heap.size ≤ wr.heap.size := by omega
        rcases Nat.eq_zero_or_pos Q.length with h0 | hp
        · have e0 : Q = [] := List.eq_nil_of_length_eq_zero h0
          subst e0
          rcases O3.2 with ⟨hv, _⟩ | ⟨g, cap, cur, hv, hg, hh, hr⟩
          · injection hv with hv1 _ hv3
            subst hv1; subst hv3
            clear O3 HB h0
            go_wp2_with fail
            refine (sum_nil _).mono ?_
            rintro e w5 ⟨rfl, hb5⟩
            have HB5 := Lib.hid hb5; clear hb5
            go_wp2_with fail
            go_ret2
            exact ⟨HFB.out.trans (HB5.out.mono hz3), 0, 0, rfl⟩
          · injection hv with hv1 _ hv3
            subst hv1; subst hv3
            obtain ⟨a, x, hax⟩ := sumV_form ([] : List Int)
            have K5 : Hid (Calls Tryz.prog 46 #[.slice (some ⟨g, 0, none⟩) 0 c3] wr fun e w' => e = .returned (.tuple #[.int .i64 a, .int .i64 x]) ∧ Below wr.heap.size wr w') := Lib.hid (by
              have := sum_any g c3 [] (by simp) wr (fun k hk => absurd hk (by simp))
              rw [hax] at this
              exact this)
            clear O3 HB h0 hax hg hh hr
            go_wp2_with fail
            refine K5.out.mono ?_
            rintro e w5 ⟨rfl, hb5⟩
            have HB5 := Lib.hid hb5; clear hb5
            go_wp2_with fail
            go_ret2
            exact ⟨HFB.out.trans (HB5.out.mono hz3), a, x, rfl⟩
        · obtain ⟨g, rfl, hg, hh⟩ := ownI_form O3 hp
          obtain ⟨a, x, hax⟩ := sumV_form Q
          have K5 := Lib.hid (sum_any g c3 Q (by omega) wr hh)
          rw [hax] at K5
          clear O3 HB hax hh hp
          go_wp2_with fail
          refine K5.out.mono ?_
          rintro e w5 ⟨rfl, hb5⟩
          have HB5 := Lib.hid hb5; clear hb5
          go_wp2_with fail
          go_ret2
          exact ⟨HFB.out.trans (HB5.out.mono hz3), a, x, rfl⟩
instance : Inhabited It := ⟨⟨0, 0, 0, 0⟩⟩
def eqIt (x y : It) : Bool := x.due == y.due && x.kind == y.kind && x.period == y.period && x.open_ == y.open_
theorem neqIt : NeqAt Tryz.prog 53 (fun x => .agg (It.cells x).toArray) eqIt := by
  refine ⟨fun x y w => ?_, GuardAt.agg _ (by kernel_rfl)⟩
  have u3 := Tryz.underlying3
  have a3 := Tryz.isAgg3
  have z3 := Tryz.sizeOf3
  have u2 := Tryz.underlying2
  have a2 := Tryz.isAgg2
  have z2 := Tryz.sizeOf2
  have hS : Tryz.prog.underlying 53 = some (.struct (Tryz.prog.fieldsOf 53)) := by kernel_rfl
  have hp : Tryz.prog.stoodInHeld 53 = false := by kernel_rfl
  simp only [It.cells]
  rw [run_neq_struct, show (10000 : Nat) = 9999 + 1 from rfl, run_equalIn_agg w 9999 53 _ _ hS hp]
  simp only [Program.fieldsOf, Tryz.underlying53]
  go_simp
  unfold eqIt
  by_cases h1 : x.due = y.due <;> by_cases h2 : x.kind = y.kind <;> by_cases h3 : x.period = y.period <;> by_cases h4 : x.open_ = y.open_ <;> simp [h1, h2, h3, h4]
def SomeB (w : World) (e : Ending) (w' : World) : Prop := Below w.heap.size w w' ∧ ∃ b : Bool, e = .returned (.bool b)
theorem eqitem_any (l m : List It) (A A2 : Option Addr) (c c2 : Nat) (hl : l.length ≤ 1000000) (he : m.length = l.length) (w : World) (h : RdT w w.heap.size A l) (h2 : RdT w w.heap.size A2 m) :
    Calls Tryz.prog 24 #[.slice A l.length c, .slice A2 l.length c2] w (SomeB w) := by
  rcases Nat.eq_zero_or_pos l.length with h0 | hp
  · rw [h0]
    go_enter Tryz.func24, Tryz.ntmps24
    go_wp2_with fail
    go_loop [13] (fun i => i = .int .i64 0) (fun i => 1 - (intOf i).toNat)
    case atStart => rfl
    case round =>
      subst hrel
      clear h0
      go_wp2_with fail
      go_ret
      exact ⟨Below.refl _ _, true, rfl⟩
  · obtain ⟨b, off, rfl, _, hc⟩ := RdS.row (f := It.cells) (n := 4) (fun _ => rfl) (by omega) h hp
    obtain ⟨b2, off2, rfl, _, hc2⟩ := RdS.row (f := It.cells) (n := 4) (fun _ => rfl) (by omega) h2 (by omega)
    refine (AnyQ.slices_Equal Tryz.eqItem 4 Tryz.isAgg53 Tryz.sizeOf53 It.cells (fun _ => rfl) eqIt neqIt b off l.length c b2 off2 l.length c2 l m w (Nat.le_refl _) (by omega) (by omega) (by omega) (fun j hj i v hv => ?_) (fun j hj i v hv => ?_)).mono ?_
    · rw [getElem!_pos _ j hj] at hv
      exact hc j hj i v hv
    · rw [getElem!_pos _ j hj] at hv
      exact hc2 j hj i v hv
    · rintro e w' ⟨rfl, q, rfl⟩
      exact ⟨below_row w q #[], _, rfl⟩
theorem paid_any (x : It) (W : World) : Calls Tryz.prog 26 #[.agg #[.int .i64 x.due, .int .i64 x.kind, .int .i64 x.period, .int .i64 x.open_]] W fun e w' => e = .returned (.bool (x.open_ == 0)) ∧ Below W.heap.size W w' := by
  obtain ⟨a1, a2, a3, a4⟩ := x
  simp only
  rcases hb : (a4 == 0) with _ | _
  all_goals
    go_enter Tryz.func26, Tryz.ntmps26
    go_wp2_with fail
    go_ret
    exact ⟨rfl, (Below.refl _ _).alloc (Nat.le_refl _) _⟩
theorem hasitem_any (l : List It) (A : Option Addr) (c : Nat) (hl : l.length ≤ 1000000) (hp : 0 < l.length) (w : World) (h : RdT w w.heap.size A l) :
    Calls Tryz.prog 27 #[.slice A l.length c, .func (.func 26) #[] #[]] w (SomeB w) := by
  obtain ⟨b, off, rfl, hb, hc⟩ := RdS.row (f := It.cells) (n := 4) (fun _ => rfl) (by omega) h hp
  refine (AnyQ.slices_ContainsFunc Tryz.hasItem 4 Tryz.isAgg53 Tryz.sizeOf53 It.cells (fun _ => rfl) (fun x => x.open_ == 0) 26 #[] (enters_of Tryz.func26 (by kernel_rfl) rfl) b off l.length c l w (fun W x hW => ?_) (Nat.le_refl _) (by omega) hb (fun j hj i v hv => ?_)).mono ?_
  · refine (paid_any x W).mono ?_
    rintro e w' ⟨rfl, hb⟩
    exact ⟨rfl, hW.trans (hb.mono hW.size)⟩
  · rw [getElem!_pos _ j hj] at hv
    exact hc j hj i v hv
  · rintro e w' ⟨rfl, hb⟩
    exact ⟨hb, _, rfl⟩
end Go.Proofs.YtlmejpkngnilcaaGreatDoor

namespace Go.Proofs.YtlmejpkngnilcaaGreatDoor
open Go.RowKit

theorem day_any (n : Int) (w : World) : Calls Tryz.prog 22 #[.int .i64 n] w fun e w' => e = .returned (.bool (wi n 0 3652058)) ∧ w' = w := by
  by_cases h1 : 0 ≤ n
  · by_cases h2 : n ≤ 3652058
    · have E : Hid (wi n 0 3652058 = true) := Lib.hid (by simp [wi, h1, h2])
      go_enter Tryz.func22, Tryz.ntmps22
      go_wp2
      go_ret
      exact ⟨ret_bo E.out.symm, rfl⟩
    · have E : Hid (wi n 0 3652058 = false) := Lib.hid (by simp [wi, h2])
      go_enter Tryz.func22, Tryz.ntmps22
      go_wp2
      go_ret
      exact ⟨ret_bo E.out.symm, rfl⟩
  · have E : Hid (wi n 0 3652058 = false) := Lib.hid (by simp [wi, h1])
    go_enter Tryz.func22, Tryz.ntmps22
    go_wp2
    go_ret
    exact ⟨ret_bo E.out.symm, rfl⟩
/-- The sums are OK. -/
def SumsOK (O C : List Int) : Prop := ∃ a b : Int, sumV O = .tuple #[.int .i64 a, .int .i64 0] ∧ sumV C = .tuple #[.int .i64 b, .int .i64 0]
def RightP (O C : List Int) (n : Nat) (w : World) (e : Ending) (w' : World) : Prop := Below w.heap.size w w' ∧ ∃ b : Bool, e = .returned (.bool b) ∧ (b = true → n ≤ 500 ∧ SumsOK O C)
set_option maxHeartbeats 4000000 in
set_option maxRecDepth 100000 in
theorem right_any (id fr to_ owed credit : Int) (A A2 : Option Addr) (c c2 : Nat) (l : List Ln) (m : List It) (w : World) (hL : RdL w w.heap.size A l) (hT : RdT w w.heap.size A2 m) (hl : l.length ≤ 999) (hm : m.length ≤ 250) :
    Calls Tryz.prog 8 #[.agg #[.int .i64 id, .int .i64 fr, .int .i64 to_, .int .i64 owed, .int .i64 credit, .slice A l.length c, .slice A2 m.length c2]] w (RightP (owed :: l.map Ln.owed) (credit :: l.map Ln.credit) l.length w) := by
  have HL := Lib.hid hL; have HT := Lib.hid hT
  clear hL hT
  go_enter Tryz.func8, Tryz.ntmps8
  go_wp2_with (go_at_call 22; refine (day_any _ _).mono ?_; rintro e w' ⟨rfl, rfl⟩)
  all_goals first
    | (go_ret; exact ⟨(Below.refl _ _).alloc (Nat.le_refl _) _, false, rfl, fun h => by cases h⟩)
    | skip
  obtain ⟨W, hW⟩ : ∃ W : World, w.alloc (.cells #[.int .i64 id, .int .i64 fr, .int .i64 to_, .int .i64 owed, .int .i64 credit, .slice A l.length c, .slice A2 m.length c2] 25) = W := ⟨_, rfl⟩
  have q0 : W.cell? ⟨w.heap.size, 0, none⟩ = some (.int .i64 id) := by rw [← hW]; simp
  have q1 : W.cell? ⟨w.heap.size, 1, none⟩ = some (.int .i64 fr) := by rw [← hW]; simp
  have q2 : W.cell? ⟨w.heap.size, 2, none⟩ = some (.int .i64 to_) := by rw [← hW]; simp
  have q3 : W.cell? ⟨w.heap.size, 3, none⟩ = some (.int .i64 owed) := by rw [← hW]; simp
  have q4 : W.cell? ⟨w.heap.size, 4, none⟩ = some (.int .i64 credit) := by rw [← hW]; simp
  have q5 : W.cell? ⟨w.heap.size, 5, none⟩ = some (.slice A l.length c) := by rw [← hW]; simp
  have q6 : W.cell? ⟨w.heap.size, 6, none⟩ = some (.slice A2 m.length c2) := by rw [← hW]; simp
  have HB0 : Hid (Below w.heap.size w W) := Lib.hid (by rw [← hW]; exact (Below.refl _ _).alloc (Nat.le_refl _) _)
  have hsz : w.heap.size + 1 ≤ W.heap.size := by rw [← hW]; simp
  rw [hW]
  clear hW
  have QQ := Lib.hid (And.intro q0 (And.intro q1 (And.intro q2 (And.intro q3 (And.intro q4 (And.intro q5 q6))))))
  clear q0 q1 q2 q3 q4 q5 q6
  have h500 : l.length ≤ 500 := by omega
  go_loopw [3, 52] (fun d i wr => ∃ (k : Nat) (x : Int), k ≤ l.length ∧ i = .int .i64 (k : Int) ∧ d = .int .i64 x ∧ Hid (Below W.heap.size W wr)) (fun _ i _ => l.length - (intOf i).toNat)
  case atStart => exact ⟨0, fr, by omega, rfl, rfl, Lib.hid (Below.refl _ _)⟩
  case round =>
    obtain ⟨k, x, hk, rfl, rfl, HB⟩ := hrel
    have hzr : W.heap.size ≤ wr.heap.size := HB.out.size
    have hlw : w.heap.size < wr.heap.size := by omega
    have KC : Hid (∀ j, wr.cell? ⟨w.heap.size, j, none⟩ = W.cell? ⟨w.heap.size, j, none⟩) := Lib.hid (fun j => HB.out.cell (by show w.heap.size < _; omega))
    have HBW : Hid (Below w.heap.size w wr) := Lib.hid (HB0.out.trans (HB.out.mono (by omega)))
    obtain ⟨q0, q1, q2, q3, q4, q5, q6⟩ := QQ.out
    rw [← KC.out] at q0 q1 q2 q3 q4 q5 q6
    by_cases hlt : k < l.length
    · obtain ⟨b, off, rfl, _, d0, d1, d2, d3, d4⟩ := (HL.out.below HBW.out (Nat.le_refl _)).at_ hlt
      obtain ⟨y, hy⟩ : ∃ y, y = l[k] := ⟨_, rfl⟩
      rw [← hy] at d0 d1 d2 d3 d4
      clear hy
      have HFIN : Hid (∀ o, Below W.heap.size W (wr.alloc o)) := Lib.hid fun o => HB.out.alloc hzr _
      go_wp2_with fail
      all_goals first
        | (go_ret; exact ⟨HB0.out.trans ((HFIN.out _).mono (by omega)), false, rfl, fun h => by cases h⟩)
        | skip
      all_goals
        go_round
        case rel => exact ⟨k + 1, y.day, by omega, by go_num, rfl, Lib.hid (HFIN.out _)⟩
        case measure => simp [intOf]; omega
    · have KS := Lib.hid (sums_any id fr to_ owed credit A A2 c m.length c2 l wr (HL.out.below HBW.out (Nat.le_refl _) |>.more (by omega)) (by omega))
      go_wp2_with fail
      refine KS.out.mono ?_
      rintro e w1 ⟨⟨a1, x1, a2, x2, s1, s2, hs⟩, hb1⟩
      have HB1 := Lib.hid hb1
      have hz1 : wr.heap.size ≤ w1.heap.size := hb1.size
      have S1 := Lib.hid s1; have S2 := Lib.hid s2
      clear hb1 s1 s2 KS q0 q1 q2 q3 q4 q5 q6
      rcases hs with ⟨rfl, rfl, rfl⟩ | ⟨_, mm, hmm, rfl⟩
      · have HF : Hid (∀ b : Bool, b = true → l.length ≤ 500 ∧ SumsOK (owed :: l.map Ln.owed) (credit :: l.map Ln.credit)) := Lib.hid fun b _ => ⟨h500, a1, a2, S1.out, S2.out⟩
        have r6 : w1.cell? ⟨w.heap.size, 6, none⟩ = some (.slice A2 m.length c2) := by
          rw [HB1.out.cell (by show w.heap.size < _; omega), KC.out]; exact QQ.out.2.2.2.2.2.2
        have HX1 : Hid (Below w.heap.size w w1) := Lib.hid (HBW.out.trans (HB1.out.mono (by omega)))
        have hx1 : w.heap.size < w1.heap.size := by omega
        have KO := Lib.hid (alcorder_any m A2 c2 (by omega) w1 (RdT.more (HT.out.below HX1.out (Nat.le_refl _)) (by omega)))
        go_wp2_with fail
        refine KO.out.mono ?_
        rintro e w2 ⟨hb2, ⟨m2, hm2, rfl⟩ | ⟨A3, c3, q, rfl, hq, hq2, h200⟩⟩
        · have d1 : (m2 == 0) = false := by simpa using hm2
          have d2 : (m2 != 0) = true := by simpa using hm2
          have HB2 := Lib.hid hb2
          clear hb2 hm2
          go_wp2_with fail
          go_ret
          exact ⟨HX1.out.trans (HB2.out.mono (by omega)), false, rfl, fun h => by cases h⟩
        · have HX2 : Hid (Below w.heap.size w w2) := Lib.hid (HX1.out.trans (hb2.mono (by omega)))
          have hx2 : w.heap.size < w2.heap.size := by have := hb2.size; omega
          have r62 : w2.cell? ⟨w.heap.size, 6, none⟩ = some (.slice A2 m.length c2) := (hb2.cell (by show w.heap.size < _; omega)).trans r6
          have KE : Hid (Calls Tryz.prog 24 #[.slice A3 m.length c3, .slice A2 m.length c2] w2 (SomeB w2)) := Lib.hid (by
            have := eqitem_any q m A3 A2 c3 c2 (by omega) hq.symm w2 hq2 (RdT.more (HT.out.below HX2.out (Nat.le_refl _)) (by omega))
            rw [hq] at this
            exact this)
          clear hb2 r6 hq hq2 KO HB1 S1 S2
          go_wp2_with fail
          refine KE.out.mono ?_
          rintro e w3 ⟨hb3, b3, rfl⟩
          have HX3 : Hid (Below w.heap.size w w3) := Lib.hid (HX2.out.trans (hb3.mono (by omega)))
          have hx3 : w.heap.size < w3.heap.size := by have := hb3.size; omega
          have r63 : w3.cell? ⟨w.heap.size, 6, none⟩ = some (.slice A2 m.length c2) := (hb3.cell (by show w.heap.size < _; omega)).trans r62
          clear hb3 r62 KE
          cases b3
          · go_wp2_with fail
            go_ret
            exact ⟨HX3.out, false, rfl, fun h => by cases h⟩
          · have KT := Lib.hid (total_any m A2 c2 (by omega) w3 (RdT.more (HT.out.below HX3.out (Nat.le_refl _)) (by omega)))
            go_wp2_with fail
            refine KT.out.mono ?_
            rintro e w4 ⟨hb4, a4, x4, rfl⟩
            have HX4 : Hid (Below w.heap.size w w4) := Lib.hid (HX3.out.trans (hb4.mono (by omega)))
            have hx4 : w.heap.size < w4.heap.size := by have := hb4.size; omega
            have r64 : w4.cell? ⟨w.heap.size, 6, none⟩ = some (.slice A2 m.length c2) := (hb4.cell (by show w.heap.size < _; omega)).trans r63
            clear hb4 r63 KT
            rcases Nat.eq_zero_or_pos m.length with h0 | hp
            · have d0 : ((m.length : Int) == 0) = true := by simp [h0]
              have H0 := Lib.hid h0; clear h0
              go_wp2_with fail
              go_ret
              exact ⟨HX4.out, _, rfl, HF.out _⟩
            · have d0 : ((m.length : Int) == 0) = false := by rw [beq_eq_false_iff_ne]; omega
              have KH := Lib.hid (hasitem_any m A2 c2 (by omega) hp w4 (RdT.more (HT.out.below HX4.out (Nat.le_refl _)) (by omega)))
              by_cases hx0 : x4 = 0
              · subst hx0
                by_cases ha : a4 = a1
                · subst ha
                  go_wp2_with fail
                  refine KH.out.mono ?_
                  rintro e w5 ⟨hb5, b5, rfl⟩
                  have HX5 : Hid (Below w.heap.size w w5) := Lib.hid (HX4.out.trans (hb5.mono (by omega)))
                  clear hb5
                  go_wp2_with fail
                  go_ret
                  exact ⟨HX5.out, _, rfl, HF.out _⟩
                · have d1 : (a4 == a1) = false := by simpa using ha
                  clear ha
                  go_wp2_with fail
                  go_ret
                  exact ⟨HX4.out, _, rfl, HF.out _⟩
              · have d1 : (x4 == 0) = false := by simpa using hx0
                clear hx0
                go_wp2_with fail
                go_ret
                exact ⟨HX4.out, _, rfl, HF.out _⟩
      · have d1 : (mm == 0) = false := by simpa using hmm
        have d2 : (mm != 0) = true := by simpa using hmm
        have r6 : w1.cell? ⟨w.heap.size, 6, none⟩ = some (.slice A2 m.length c2) := by
          rw [HB1.out.cell (by show w.heap.size < _; omega), KC.out]; exact QQ.out.2.2.2.2.2.2
        have HX1 : Hid (Below w.heap.size w w1) := Lib.hid (HBW.out.trans (HB1.out.mono (by omega)))
        have hx1 : w.heap.size < w1.heap.size := by omega
        have KO := Lib.hid (alcorder_any m A2 c2 (by omega) w1 (RdT.more (HT.out.below HX1.out (Nat.le_refl _)) (by omega)))
        clear hmm
        go_wp2_with fail
        refine KO.out.mono ?_
        rintro e w2 ⟨hb2, ⟨m2, hm2, rfl⟩ | ⟨A3, c3, q, rfl, hq, hq2, h200⟩⟩
        · have HB2 := Lib.hid hb2
          clear hb2 hm2
          go_wp2_with fail
          go_ret
          exact ⟨HX1.out.trans (HB2.out.mono (by omega)), false, rfl, fun h => by cases h⟩
        · have HB2 := Lib.hid hb2
          clear hb2 hq hq2
          go_wp2_with fail
          go_ret
          exact ⟨HX1.out.trans (HB2.out.mono (by omega)), false, rfl, fun h => by cases h⟩
end Go.Proofs.YtlmejpkngnilcaaGreatDoor
