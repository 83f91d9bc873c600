/- The contract of alloc.places: places of items, each within the list. -/
import Derived.Test.YtcegcgbcffdjjaaDoorPla
import Derived.Test.YtcegcgbcffdjjaaDoorSums
import Derived.BigRegion
import Derived.Test.YtcegcgbcffdjjaaDoorTab
namespace Go.Proofs.YtcegcgbcffdjjaaDoor
open Go.RowKit
open Go.Sort (grow putRow Holds SWO PermIn SortedIn alloc_eq_grow grow_grow heap_grow_old mapBlock)

/-- Ahead: in the order of payment. -/
def aheadI (a b : It) : Prop := a.due < b.due ∨ (a.due = b.due ∧ (a.kind < b.kind ∨ (a.kind = b.kind ∧ a.period < b.period)))
theorem cmpI_cases (x y : Int) : (x < y ∧ cmpI x y = -1) ∨ (x = y ∧ cmpI x y = 0) ∨ (y < x ∧ cmpI x y = 1) := by
  unfold cmpI
  split
  · exact .inl ⟨by assumption, rfl⟩
  · split
    · exact .inr (.inr ⟨by assumption, rfl⟩)
    · exact .inr (.inl ⟨by omega, rfl⟩)
theorem ordI_lt (a b : It) : ordI a b < 0 ↔ aheadI a b := by
  unfold ordI aheadI
  rcases cmpI_cases a.due b.due with ⟨h1, e1⟩ | ⟨h1, e1⟩ | ⟨h1, e1⟩ <;> rcases cmpI_cases a.kind b.kind with ⟨h2, e2⟩ | ⟨h2, e2⟩ | ⟨h2, e2⟩ <;> rcases cmpI_cases a.period b.period with ⟨h3, e3⟩ | ⟨h3, e3⟩ | ⟨h3, e3⟩ <;>
    simp [orI, e1, e2, e3] <;> omega
theorem swoI {n : Nat} (f : Fin n → It) : SWO (ltOf fun x y => ordI (f x) (f y)) where
  irrefl x := by unfold ltOf; rw [decide_eq_false_iff_not, ordI_lt]; unfold aheadI; omega
  trans x y z h1 h2 := by
    unfold ltOf at *; rw [decide_eq_true_eq, ordI_lt] at *; unfold aheadI at *; omega
  ntrans x y z h1 h2 := by
    unfold ltOf at *; rw [decide_eq_false_iff_not, ordI_lt] at *; unfold aheadI at *; omega
def ints (k : Nat) : List Int := (List.range k).map fun (i : Nat) => (i : Int)
theorem ints_len (k : Nat) : (ints k).length = k := by simp [ints]
theorem ints_succ (k : Nat) : ints (k + 1) = ints k ++ [(k : Int)] := by simp [ints, List.range_succ]
theorem ints_get (k i : Nat) (h : i < k) : (ints k)[i]'(by rw [ints_len]; exact h) = (i : Int) := by simp [ints]
def GoodP (l : List It) (e : Ending) (w' : World) : Prop := ∃ (A' : Option Addr) (c' : Nat) (p : List Nat), e = .returned (.tuple #[.slice A' l.length c', .int .i64 0]) ∧ p.length = l.length ∧ (∀ i ∈ p, i < l.length) ∧ RdI w' w'.heap.size A' (p.map fun (i : Nat) => (i : Int)) ∧ l.length ≤ 200
def PlaceP (l : List It) (w : World) (e : Ending) (w' : World) : Prop := Below w.heap.size w w' ∧ ((∃ m : Int, m ≠ 0 ∧ e = .returned (.tuple #[.slice none 0 0, .int .i64 m])) ∨ GoodP l e w')
theorem RdT.alloc {w : World} {B : Nat} {A : Option Addr} {m : List It} (h : RdT w B A m) (hB : B ≤ w.heap.size) (o : Obj) : RdT (w.alloc o) B A m := Reads.alloc h hB o
theorem cell_sortW {α : Type} [Inhabited α] (enc : α → Value) (W : World) (blk off n : Nat) (dk : Array α) (os : Array Obj) (a : Addr) (h1 : a.block ≠ blk) (h2 : a.block < W.heap.size) : (sortWorld enc W blk off n dk os).cell? a = W.cell? a := by
  unfold sortWorld
  rw [Sort.cell?_grow _ _ _ (by rw [Sort.size_putRow]; exact h2), Sort.cell?_putRow_other enc _ blk off dk a (Or.inl h1)]
  rfl
theorem grownBy_sortW {α : Type} [Inhabited α] (enc : α → Value) (w : World) (g n : Nat) (d : Array α) (os : Array Obj) : w.grownBy (sortWorld enc w g 0 n d os) (some g) := by
  unfold sortWorld
  refine ⟨rfl, rfl, rfl, by simp, fun k hk hne => ?_⟩
  rw [heap_grow_old _ _ (by simpa using hk)]
  have : g ≠ k := fun e => hne (by rw [e])
  simp [putRow, mapBlock, Sort.ahead, Array.getElem?_modify, this]
theorem iv_flat (m : List Int) : iv m = m.flatMap fun x => [Value.int .i64 x] := by
  unfold iv
  induction m with
  | nil => rfl
  | cons a l ih => rw [List.map_cons, List.flatMap_cons, ih]; rfl
theorem RdI.row {w : World} {B : Nat} {A : Option Addr} {m : List Int} (h : RdI w B A m) (hm : 0 < m.length) : ∃ b off, A = some ⟨b, off, none⟩ ∧ b < B ∧ ∀ k (hk : k < m.length), w.cell? ⟨b, off + k, none⟩ = some (.int .i64 m[k]) := by
  unfold RdI at h
  rw [iv_flat] at h
  obtain ⟨b, off, hA, hb, hc⟩ := rows_at (fun x => [Value.int .i64 x]) 1 (fun _ => rfl) (by omega) h hm
  exact ⟨b, off, hA, hb, fun k hk => by have := hc k hk 0 _ rfl; simpa using this⟩
theorem sort_any (l : List It) (A : Option Addr) (c B base : Nat) (A1 : Option Addr) (c1 : Nat) (hl : l.length ≤ 200) (W : World) (hO : OwnI W base 3 A1 c1 (ints l.length)) (hB : B < base) (hbs : base ≤ W.heap.size)
    (hb : W.cell? ⟨B, 0, none⟩ = some (.slice A l.length c)) (h : RdT W base A l) :
    Calls Tryd.prog 41 #[.slice A1 l.length c1, .func (.func 42) #[] #[.pointer (some ⟨B, 0, none⟩)]] W fun e w' => e = .returned (.tuple #[]) ∧
      (Below base W w' ∧ ∃ p : List Nat, p.length = l.length ∧ (∀ i ∈ p, i < l.length) ∧ RdI w' w'.heap.size A1 (p.map fun (i : Nat) => (i : Int))) := by
  rcases Nat.eq_zero_or_pos l.length with h0 | hp
  · have e0 : l = [] := List.eq_nil_of_length_eq_zero h0
    subst e0
    refine (AnyF.slices_SortFunc_none Tryd.sortInt0 A1 c1 _ W).mono ?_
    rintro e w' ⟨rfl, rfl⟩
    exact ⟨rfl, Below.refl _ _, [], rfl, by simp, RdI.nil⟩
  have hge := hO.blk_ge
  have hO' := hO
  unfold OwnI at hO'
  obtain ⟨g, cap, cur, hv, hg1, hg2, hcur, hrest⟩ : ∃ g cap cur, Value.slice A1 (ints l.length).length c1 = .slice (some ⟨g, 0, none⟩) (ints l.length).length cap ∧ base ≤ g ∧ W.heap[g]? = some (.cells cur 3) ∧ (True ∧ True) := by
    rcases hO'.2 with ⟨_, hn⟩ | ⟨g, cap, cur, hv, hg, hh, _⟩
    · rw [ints_len] at hn; omega
    · exact ⟨g, cap, cur, hv, hg, hh, trivial, trivial⟩
  injection hv with hv
  subst hv
  have hg : g < W.heap.size := (hge g rfl).2
  have hfz : ∀ j, W.frozen? ⟨g, j, none⟩ = false := fun j => Lib.frozen_of_heap hg2 j
  have hrd := hO.rd
  have hcell : ∀ k, k < l.length → W.cell? ⟨g, k, none⟩ = some (.int .i64 (k : Int)) := fun k hk => by
    obtain ⟨ad, h1, _, h3⟩ := hrd.cell (k := k) (by rw [ints_len]; exact hk)
    injection h1 with h1; subst h1
    rw [ints_get _ _ hk] at h3
    unfold Addr.add at h3
    split at h3
    · rename_i h0; subst h0; exact h3
    · simpa using h3
  letI : Inhabited (Fin l.length) := ⟨⟨0, hp⟩⟩
  have hsz : (Array.ofFn (fun i : Fin l.length => i)).size = l.length := by simp
  have hget : ∀ j (hj : j < l.length), (Array.ofFn (fun i : Fin l.length => i))[j]! = ⟨j, hj⟩ := fun j hj => by
    rw [getElem!_pos _ j (by rw [hsz]; exact hj)]; simp
  have key := Any.slices_SortFunc Tryd.sortInt (fun i : Fin l.length => Value.int .i64 (i.val : Int)) (fun _ => rfl) (fun x y => ordI l[x] l[y]) (swoI fun x => l[x]) 42 #[.pointer (some ⟨B, 0, none⟩)] g 0 c1 (Array.ofFn (fun i : Fin l.length => i)) W
    (enters_of Tryd.func42 (by kernel_rfl) rfl)
    (fun m os dk _ x y => by
      have hlt := lt_sortWorld (fun i : Fin l.length => Value.int .i64 (i.val : Int)) W g 0 m dk os hg
      refine place1_any l A c B x.val y.val x.isLt y.isLt (sortWorld (fun i : Fin l.length => Value.int .i64 (i.val : Int)) W g 0 m dk os) ?_ hl ?_
      · rw [cell_sortW _ _ _ _ _ _ _ _ (by show B ≠ g; omega) (by show B < _; omega)]; exact hb
      · have hk : RdT (sortWorld (fun i : Fin l.length => Value.int .i64 (i.val : Int)) W g 0 m dk os) base A l := Reads.keep h fun p hp => cell_sortW _ _ _ _ _ _ _ _ (by omega) (by omega)
        exact hk.more (by omega))
    (fun j hj => by
      rw [hsz] at hj
      rw [Nat.zero_add, hget j hj]
      exact ⟨hcell j hj, hfz j⟩) hg (by rw [hsz]; omega)
  rw [hsz] at key
  refine key.mono ?_
  rintro e w' ⟨rfl, d', n, os, hpm, _, rfl⟩
  have hgr := grownBy_sortW (fun i : Fin l.length => Value.int .i64 (i.val : Int)) W g n d' os
  have hd : d'.size = l.length := by rw [hpm.1, hsz]
  have hlt := lt_sortWorld (fun i : Fin l.length => Value.int .i64 (i.val : Int)) W g 0 n d' os hg
  have hh := holds_sortWorld (fun i : Fin l.length => Value.int .i64 (i.val : Int)) W g 0 n (Array.ofFn (fun i : Fin l.length => i)) d' os hg (fun j hj => by
      rw [hsz] at hj
      rw [Nat.zero_add, hget j hj]
      exact ⟨hcell j hj, hfz j⟩) (by rw [hd, hsz])
  refine ⟨rfl, below_grow (Below.refl _ _) hgr (fun q hq => by injection hq with hq; omega) hbs, d'.toList.map Fin.val, by simp [hd], ?_, ?_⟩
  · intro i hi
    simp only [List.mem_map] at hi
    obtain ⟨x, _, rfl⟩ := hi
    exact x.isLt
  · refine ⟨by simp [iv, hd], fun _ => ⟨⟨g, 0, none⟩, rfl, hlt, fun j u hj => ?_⟩⟩
    have hjl : j < d'.size := by
      rcases Nat.lt_or_ge j d'.size with h | h
      · exact h
      · rw [List.getElem?_eq_none (by simp [iv]; exact h)] at hj; cases hj
    have h1 := (hh j hjl).1
    rw [getElem!_pos _ j hjl, Nat.zero_add] at h1
    simp [iv, hjl] at hj
    subst hj
    unfold Addr.add
    split
    · rename_i h0; subst h0; exact h1
    · simpa using h1
set_option maxHeartbeats 2000000 in
set_option maxRecDepth 100000 in
theorem places_any (l : List It) (A : Option Addr) (c : Nat) (hl : l.length ≤ 1000000) (w : World) (h : RdT w w.heap.size A l) :
    Calls Tryd.prog 29 #[.slice A l.length c] w (PlaceP l w) := by
  by_cases h200 : 200 < l.length
  · go_enter Tryd.func29, Tryd.ntmps29
    go_wp2_with fail
    go_ret2
    exact ⟨(Below.refl _ _).alloc (Nat.le_refl _) _, .inl ⟨1, by decide, rfl⟩⟩
  have h2 : l.length ≤ 200 := by omega
  clear h200 hl
  go_enter Tryd.func29, Tryd.ntmps29
  go_wp2_with fail
  go_loopw [4, 13] (fun v i wr => ∃ (k : Nat) (A1 : Option Addr) (c1 : Nat) (L : List Int), k ≤ l.length ∧ i = .int .i64 (k : Int) ∧ v = .slice A1 L.length c1 ∧ Hid (L = ints k) ∧ OwnI wr (w.heap.size + 1) 3 A1 c1 L ∧ Below (w.heap.size + 1) (w.alloc (.cells #[.slice A l.length c] 23)) wr) (fun _ i _ => l.length - (intOf i).toNat)
  case atStart => exact ⟨0, none, 0, [], by omega, rfl, rfl, Lib.hid rfl, OwnI.nil _ _ _, Below.refl _ _⟩
  case round =>
    obtain ⟨k, A1, c1, L, hk, rfl, rfl, HL, O1, HB⟩ := hrel
    have hL : L.length ≤ 200 := by rw [HL.out, ints_len]; omega
    have hsz : w.heap.size + 1 ≤ wr.heap.size := by have := HB.size; simpa using this
    by_cases hlt : k < l.length
    · have hR : RdT wr wr.heap.size A l := RdT.more (RdT.below (h.alloc (Nat.le_refl _) (.cells #[.slice A l.length c] 23)) HB (by omega)) (by omega)
      obtain ⟨b, off, rfl, hb, hc⟩ := hR.row (by omega)
      obtain ⟨x0, x1, x2, x3⟩ := hc k hlt
      obtain ⟨x, hx⟩ : ∃ x, x = l[k] := ⟨_, rfl⟩
      rw [← hx] at x0 x1 x2 x3
      clear hx hc hR
      obtain ⟨a1, a2, a3, a4⟩ := x
      simp only at x0 x1 x2 x3
      have HO1 := Lib.hid O1; have HBB := Lib.hid HB
      clear O1 HB h
      have HFIN : ∀ o, Below w.heap.size w (wr.alloc o) := fun o => (((Below.refl _ _).alloc (Nat.le_refl _) _).trans (HBB.out.mono (by omega))).alloc (by omega) _
      have HFIN := Lib.hid HFIN
      rcases hw1 : wi a1 0 3652058 with _ | _
      · have K1 := Lib.hid (fun w => within_any a1 0 3652058 _ hw1 w)
        clear hw1
        go_wp2_with fail
        refine (K1.out _).mono ?_
        rintro e w' ⟨rfl, rfl⟩
        go_wp2_with fail
        go_ret2
        exact ⟨HFIN.out _, .inl ⟨1, by decide, rfl⟩⟩
      rcases hw2 : wi a2 0 2 with _ | _
      · have K1 := Lib.hid (fun w => within_any a1 0 3652058 _ hw1 w)
        have K2 := Lib.hid (fun w => within_any a2 0 2 _ hw2 w)
        clear hw1 hw2
        go_wp2_with fail
        refine (K1.out _).mono ?_
        rintro e w' ⟨rfl, rfl⟩
        go_wp2_with fail
        refine (K2.out _).mono ?_
        rintro e w' ⟨rfl, rfl⟩
        go_wp2_with fail
        go_ret2
        exact ⟨HFIN.out _, .inl ⟨1, by decide, rfl⟩⟩
      rcases hw3 : wi a3 1 99999 with _ | _
      · have K1 := Lib.hid (fun w => within_any a1 0 3652058 _ hw1 w)
        have K2 := Lib.hid (fun w => within_any a2 0 2 _ hw2 w)
        have K3 := Lib.hid (fun w => within_any a3 1 99999 _ hw3 w)
        clear hw1 hw2 hw3
        go_wp2_with fail
        refine (K1.out _).mono ?_
        rintro e w' ⟨rfl, rfl⟩
        go_wp2_with fail
        refine (K2.out _).mono ?_
        rintro e w' ⟨rfl, rfl⟩
        go_wp2_with fail
        refine (K3.out _).mono ?_
        rintro e w' ⟨rfl, rfl⟩
        go_wp2_with fail
        go_ret2
        exact ⟨HFIN.out _, .inl ⟨1, by decide, rfl⟩⟩
      rcases hw4 : wi a4 0 4611686018427387904 with _ | _
      · have K1 := Lib.hid (fun w => within_any a1 0 3652058 _ hw1 w)
        have K2 := Lib.hid (fun w => within_any a2 0 2 _ hw2 w)
        have K3 := Lib.hid (fun w => within_any a3 1 99999 _ hw3 w)
        have K4 := Lib.hid (fun w => within64_any a4 0 4611686018427387904 _ hw4 w)
        clear hw1 hw2 hw3 hw4
        go_wp2_with fail
        refine (K1.out _).mono ?_
        rintro e w' ⟨rfl, rfl⟩
        go_wp2_with fail
        refine (K2.out _).mono ?_
        rintro e w' ⟨rfl, rfl⟩
        go_wp2_with fail
        refine (K3.out _).mono ?_
        rintro e w' ⟨rfl, rfl⟩
        go_wp2_with fail
        refine (K4.out _).mono ?_
        rintro e w' ⟨rfl, rfl⟩
        go_wp2_with fail
        go_ret2
        exact ⟨HFIN.out _, .inl ⟨1, by decide, rfl⟩⟩
      · have K1 := Lib.hid (fun w => within_any a1 0 3652058 _ hw1 w)
        have K2 := Lib.hid (fun w => within_any a2 0 2 _ hw2 w)
        have K3 := Lib.hid (fun w => within_any a3 1 99999 _ hw3 w)
        have K4 := Lib.hid (fun w => within64_any a4 0 4611686018427387904 _ hw4 w)
        clear hw1 hw2 hw3 hw4
        go_wp2_with fail
        refine (K1.out _).mono ?_
        rintro e w' ⟨rfl, rfl⟩
        go_wp2_with fail
        refine (K2.out _).mono ?_
        rintro e w' ⟨rfl, rfl⟩
        go_wp2_with fail
        refine (K3.out _).mono ?_
        rintro e w' ⟨rfl, rfl⟩
        go_wp2_with fail
        refine (K4.out _).mono ?_
        rintro e w' ⟨rfl, rfl⟩
        go_wp2_with (at_builtin; refine wpList_append_i _ rfl _ _ itn rfl (w.heap.size + 1) A1 c1 L rfl ((HO1.out.alloc _).alloc _) (wr.heap.size + 1 + 1) (some ⟨wr.heap.size + 1, 0, none⟩) 1 1 [(k : Int)] rfl rfl (by exact rdI_new _ _ _ _ (by simp)) (by simp; omega) (by simp; omega) ?_)
        intro A' c' L' w2 hL' ho hg hat
        have HL' : Hid (L' = ints (k + 1)) := Lib.hid (by rw [hL', HL.out, ints_succ])
        have HO2 := Lib.hid ho
        have HB2 : Hid (Below (w.heap.size + 1) (w.alloc (.cells #[.slice (some ⟨b, off, none⟩) l.length c] 23)) w2) := Lib.hid (below_grow ((HBB.out.alloc hsz _).alloc (by simp; omega) _) hg (fun q hq => (HO1.out.blk_ge q hq).1) (by simp; omega))
        clear hL' ho hg hat
        go_wp2_with fail
        go_round
        case rel => exact ⟨k + 1, A', c', L', by omega, by go_num, rfl, HL', HO2.out, HB2.out⟩
        case measure => simp [intOf]; omega
    · have hk2 : k = l.length := by omega
      subst hk2
      have hL2 := HL.out
      have hLn : L.length = l.length := by rw [hL2, ints_len]
      have hbox : wr.cell? ⟨w.heap.size, 0, none⟩ = some (.slice A l.length c) := by rw [HB.cell (by show w.heap.size < _; omega)]; simp
      have hR : RdT wr (w.heap.size + 1) A l := RdT.more (RdT.below (h.alloc (Nat.le_refl _) (.cells #[.slice A l.length c] 23)) HB (by omega)) (by omega)
      rw [hL2] at O1
      have K := Lib.hid (sort_any l A c w.heap.size (w.heap.size + 1) A1 c1 h2 wr O1 (by omega) hsz hbox hR)
      rw [hLn]
      have HBB := Lib.hid HB; have HRR := Lib.hid hR; have HBX := Lib.hid hbox
      clear HL hL2 hLn O1 HB h hR hbox hL
      go_wp2_with fail
      refine K.out.mono ?_
      rintro e w2 ⟨rfl, hb2, p, hp1, hp2, hp3⟩
      have HB2 := Lib.hid hb2; have HP := Lib.hid hp2; have HR3 := Lib.hid hp3; have HP1 := Lib.hid hp1
      have hz2 : w.heap.size + 1 ≤ w2.heap.size := by have := hb2.size; omega
      clear hb2 hp1 hp2 hp3
      go_wp2_with fail
      go_loopw [7] (fun i wr => ∃ m : Nat, i = .int .i64 ((m : Int) + 1) ∧ Hid (Below w2.heap.size w2 wr)) (fun i _ => l.length - (intOf i).toNat)
      case atStart => exact ⟨0, rfl, Lib.hid (Below.refl _ _)⟩
      case round =>
        obtain ⟨m, rfl, HW⟩ := hrel
        have hzq : w2.heap.size ≤ wr.heap.size := HW.out.size
        by_cases hlt : m + 1 < l.length
        · have hRq : RdT wr wr.heap.size A l := RdT.more (RdT.below (RdT.below HRR.out HB2.out (by omega)) HW.out hz2) (by omega)
          have hPq : RdI wr w2.heap.size A1 (p.map fun (i : Nat) => (i : Int)) := RdI.below HR3.out HW.out (Nat.le_refl _)
          have hbx : wr.cell? ⟨w.heap.size, 0, none⟩ = some (.slice A l.length c) := by
            rw [HW.out.cell (by show w.heap.size < _; omega), HB2.out.cell (by show w.heap.size < _; omega)]; exact HBX.out
          obtain ⟨b, off, rfl, _, hc⟩ := hRq.row (by omega)
          obtain ⟨g, of2, rfl, _, hpc⟩ := hPq.row (by simp [HP1.out]; omega)
          have hm1 : m < p.length := by rw [HP1.out]; omega
          have hm2 : m + 1 < p.length := by rw [HP1.out]; omega
          have q1 := hpc m (by simpa using hm1)
          have q2 := hpc (m + 1) (by simpa using hm2)
          rw [List.getElem_map] at q1 q2
          have b1 := HP.out _ (List.getElem_mem hm1)
          have b2 := HP.out _ (List.getElem_mem hm2)
          obtain ⟨i1, hi1⟩ : ∃ i1, i1 = p[m] := ⟨_, rfl⟩
          obtain ⟨i2, hi2⟩ : ∃ i2, i2 = p[m + 1] := ⟨_, rfl⟩
          rw [← hi1] at q1 b1; rw [← hi2] at q2 b2
          obtain ⟨x0, x1, x2, x3⟩ := hc i1 b1
          obtain ⟨y0, y1, y2, y3⟩ := hc i2 b2
          obtain ⟨x, hx⟩ : ∃ x, x = l[i1] := ⟨_, rfl⟩
          obtain ⟨y, hy⟩ : ∃ y, y = l[i2] := ⟨_, rfl⟩
          rw [← hx] at x0 x1 x2 x3
          rw [← hy] at y0 y1 y2 y3
          clear hx hy hc hpc hi1 hi2 hRq hPq hm1 hm2
          have s1 : m < l.length := by omega
          have s2 : (m : Int) + 1 < (l.length : Int) := by omega
          have s3 : (0 : Int) ≤ (m : Int) + 1 := by omega
          have s4 : ((m : Int) + 1).toNat = m + 1 := by omega
          have e1 : IntKind.i64.wrap (m : Int) = (m : Int) := by rw [IntKind.wrap_i64]; omega
          go_wp2_with fail
          obtain ⟨V, hV⟩ : ∃ V : World, wr.drew = V := ⟨_, rfl⟩
          have HV := Lib.hid hV
          have e : ∀ p, wr.cell? p = V.cell? p := fun p => by rw [← hV]; rfl
          rw [e] at hbx q1 q2 x0 x1 x2 x3 y0 y1 y2 y3
          clear e
          refine region_still_tail 15 (by kernel_rfl) (by kernel_rfl) hV ?_
          simp only [List.take_succ_cons, List.take_zero, List.drop_succ_cons, List.drop_zero]
          clear hV
          repeat still_step
          refine wpStill_nil ?_
          go_wp2_with fail
          refine (order_any x y V).mono ?_
          rintro e w' ⟨rfl, q, os, rfl⟩
          have HY : Hid (Below w2.heap.size w2 (grow (V.drewN q) os)) := Lib.hid (by
            have h1 := below_row wr (q + 1) os
            have h2 : grow (V.drewN q) os = grow (wr.drewN (q + 1)) os := by rw [← HV.out]; show grow ((wr.drewN 1).drewN q) os = _; rw [World.drewN_drewN, Nat.add_comm]
            rw [h2]
            exact HW.out.trans (h1.mono hzq))
          obtain ⟨z, hz⟩ : ∃ z, z = ordI x y := ⟨_, rfl⟩
          rw [← hz]
          clear hz
          obtain ⟨w5, hw5⟩ : ∃ w5, w5 = grow (V.drewN q) os := ⟨_, rfl⟩
          rw [← hw5] at HY ⊢
          clear hw5
          by_cases hz : z = 0
          · subst hz
            go_wp2_with fail
            go_ret2
            refine ⟨?_, .inl ⟨5, by decide, rfl⟩⟩
            exact ((((Below.refl _ _).alloc (Nat.le_refl _) _).trans (HBB.out.mono (by omega))).trans (HB2.out.mono (by omega))).trans (HY.out.mono (by omega))
          · have d1 : (z == 0) = false := by simpa using hz
            clear hz
            go_wp2_with fail
            go_round
            case rel => exact ⟨m + 1, by go_num, HY⟩
            case measure => simp [intOf]; omega
        · go_wp2_with fail
          go_ret2
          refine ⟨((((Below.refl _ _).alloc (Nat.le_refl _) _).trans (HBB.out.mono (by omega))).trans (HB2.out.mono (by omega))).trans (HW.out.mono (by omega)), .inr ⟨A1, c1, p, rfl, HP1.out, HP.out, (RdI.below HR3.out HW.out (Nat.le_refl _)).more hzq, h2⟩⟩
end Go.Proofs.YtcegcgbcffdjjaaDoor
