/- Parts of the proof, one behind the other: As XPlb, told exactly: the order that the library's own sort comes to, which is a function of the items.; As XPlc, told exactly: Order, Total, Equal, ContainsFunc.; The contract of statement.Right, exactly. -/
import Derived.Test.YtlmejpkngnilcaaGreatDoorMrg35
namespace Go.Proofs.YtlmejpkngnilcaaGreatDoor
open Go.RowKit
open Go.Sort (grow putRow Holds SWO PermIn SortedIn alloc_eq_grow grow_grow heap_grow_old mapBlock pdq pdq_sorts)

/-- The places, in the order that slices.SortFunc comes to. -/
def sortP (l : List It) : List Nat := if h : 0 < l.length then
    letI : Inhabited (Fin l.length) := ⟨⟨0, h⟩⟩
    (pdq (ltOf fun x y : Fin l.length => ordI l[x] l[y]) (Array.ofFn (fun i : Fin l.length => i)) 0 l.length (Lib.bitLen l.length) true true).toList.map Fin.val
  else []
theorem sortP_ok (l : List It) : (sortP l).length = l.length ∧ ∀ i ∈ sortP l, i < l.length := by
  unfold sortP
  split
  · rename_i h
    letI : Inhabited (Fin l.length) := ⟨⟨0, h⟩⟩
    have hs : (Array.ofFn (fun i : Fin l.length => i)).size = l.length := by simp
    have hp := (pdq_sorts (ltOf fun x y : Fin l.length => ordI l[x] l[y]) (swoI fun x => l[x]) (Array.ofFn (fun i : Fin l.length => i)) 0 l.length (Lib.bitLen l.length) true true (Nat.zero_le _) (by rw [hs]; exact Nat.le_refl _) (Or.inl rfl)).1
    refine ⟨by rw [List.length_map, Array.length_toList, hp.1, hs], fun i hi => ?_⟩
    simp only [List.mem_map] at hi
    obtain ⟨x, _, rfl⟩ := hi
    exact x.isLt
  · rename_i h
    exact ⟨by simp only [List.length_nil]; omega, by simp⟩
/-- May those be a payment's items? -/
def itOk (x : It) : Bool := wi x.due 0 3652058 && wi x.kind 0 2 && wi x.period 1 99999 && wi x.open_ 0 4611686018427387904
def apartP (l : List It) (m : Nat) : Bool := ordI (l.getD ((sortP l).getD m 0) ⟨0, 0, 0, 0⟩) (l.getD ((sortP l).getD (m + 1) 0) ⟨0, 0, 0, 0⟩) != 0
def placesB (l : List It) : Bool := decide (l.length ≤ 200) && (l.all itOk && (List.range (l.length - 1)).all (apartP l))
/-- What places comes to. -/
def PlaceX (l : List It) (w : World) (e : Ending) (w' : World) : Prop := Below w.heap.size w w' ∧ ((placesB l = false ∧ ∃ m : Int, m ≠ 0 ∧ e = .returned (.tuple #[.slice none 0 0, .int .i64 m])) ∨
  (placesB l = true ∧ ∃ (A' : Option Addr) (c' : Nat), e = .returned (.tuple #[.slice A' l.length c', .int .i64 0]) ∧ RdI w' w'.heap.size A' ((sortP l).map fun (i : Nat) => (i : Int))))
theorem placesB_bad {l : List It} {k : Nat} (hk : k < l.length) (h : itOk l[k] = false) : placesB l = false := by
  unfold placesB
  have : l.all itOk = false := List.all_eq_false.2 ⟨l[k], List.getElem_mem hk, by rw [h]; simp⟩
  rw [this]; simp
theorem placesB_same {l : List It} {m : Nat} (hm : m + 1 < l.length) (h : apartP l m = false) : placesB l = false := by
  unfold placesB
  have : (List.range (l.length - 1)).all (apartP l) = false := List.all_eq_false.2 ⟨m, List.mem_range.2 (by omega), by rw [h]; simp⟩
  rw [this]; simp
theorem placesB_long {l : List It} (h : 200 < l.length) : placesB l = false := by
  unfold placesB
  rw [decide_eq_false (by omega)]; rfl
theorem placesB_yes {l : List It} (h : l.length ≤ 200) (h1 : ∀ k (hk : k < l.length), itOk l[k] = true) (h2 : ∀ m, m + 1 < l.length → apartP l m = true) : placesB l = true := by
  unfold placesB
  have a1 : l.all itOk = true := List.all_eq_true.2 (fun x hx => by obtain ⟨k, hk, rfl⟩ := List.mem_iff_getElem.1 hx; exact h1 k hk)
  have a2 : (List.range (l.length - 1)).all (apartP l) = true := List.all_eq_true.2 (fun m hm => h2 m (by have := List.mem_range.1 hm; omega))
  rw [decide_eq_true h, a1, a2]; rfl
theorem sort_ex (l : List It) (A : Option Addr) (c B base : Nat) (A1 : Option Addr) (c1 : Nat) (hl : l.length ≤ 200) (W : World) (hO : OwnI W base 3 A1 c1 (ints l.length)) (hB : B < base) (hbs : base ≤ W.heap.size)
    (hb : W.cell? ⟨B, 0, none⟩ = some (.slice A l.length c)) (h : RdT W base A l) :
    Calls Tryz.prog 70 #[.slice A1 l.length c1, .func (.func 71) #[] #[.pointer (some ⟨B, 0, none⟩)]] W fun e w' => e = .returned (.tuple #[]) ∧
      (Below base W w' ∧ RdI w' w'.heap.size A1 ((sortP l).map fun (i : Nat) => (i : Int))) := by
  rcases Nat.eq_zero_or_pos l.length with h0 | hp
  · have e0 : l = [] := List.eq_nil_of_length_eq_zero h0
    subst e0
    refine (AnyF.slices_SortFunc_none Tryz.sortInt0 A1 c1 _ W).mono ?_
    rintro e w' ⟨rfl, rfl⟩
    exact ⟨rfl, Below.refl _ _, by rw [show sortP [] = [] from rfl]; exact RdI.nil⟩
  have hge := hO.blk_ge
  have hO' := hO
  unfold OwnI at hO'
  obtain ⟨g, cap, cur, hv, hg1, hg2, hcur, hrest⟩ : ∃ g cap cur, Value.slice A1 (ints l.length).length c1 = .slice (some ⟨g, 0, none⟩) (ints l.length).length cap ∧ base ≤ g ∧ W.heap[g]? = some (.cells cur 3) ∧ (True ∧ True) := by
    rcases hO'.2 with ⟨_, hn⟩ | ⟨g, cap, cur, hv, hg, hh, _⟩
    · rw [ints_len] at hn; omega
    · exact ⟨g, cap, cur, hv, hg, hh, trivial, trivial⟩
  injection hv with hv
  subst hv
  have hg : g < W.heap.size := (hge g rfl).2
  have hfz : ∀ j, W.frozen? ⟨g, j, none⟩ = false := fun j => Lib.frozen_of_heap hg2 j
  have hrd := hO.rd
  have hcell : ∀ k, k < l.length → W.cell? ⟨g, k, none⟩ = some (.int .i64 (k : Int)) := fun k hk => by
    obtain ⟨ad, h1, _, h3⟩ := hrd.cell (k := k) (by rw [ints_len]; exact hk)
    injection h1 with h1; subst h1
    rw [ints_get _ _ hk] at h3
    unfold Addr.add at h3
    split at h3
    · rename_i h0; subst h0; exact h3
    · simpa using h3
  letI : Inhabited (Fin l.length) := ⟨⟨0, hp⟩⟩
  have hsz : (Array.ofFn (fun i : Fin l.length => i)).size = l.length := by simp
  have hget : ∀ j (hj : j < l.length), (Array.ofFn (fun i : Fin l.length => i))[j]! = ⟨j, hj⟩ := fun j hj => by
    rw [getElem!_pos _ j (by rw [hsz]; exact hj)]; simp
  have key := Any.slices_SortFunc_eq Tryz.sortInt (fun i : Fin l.length => Value.int .i64 (i.val : Int)) (fun _ => rfl) (fun x y => ordI l[x] l[y]) (swoI fun x => l[x]) 71 #[.pointer (some ⟨B, 0, none⟩)] g 0 c1 (Array.ofFn (fun i : Fin l.length => i)) W
    (enters_of Tryz.func71 (by kernel_rfl) rfl)
    (fun m os dk _ x y => by
      have hlt := lt_sortWorld (fun i : Fin l.length => Value.int .i64 (i.val : Int)) W g 0 m dk os hg
      refine place1_any l A c B x.val y.val x.isLt y.isLt (sortWorld (fun i : Fin l.length => Value.int .i64 (i.val : Int)) W g 0 m dk os) ?_ hl ?_
      · rw [cell_sortW _ _ _ _ _ _ _ _ (by show B ≠ g; omega) (by show B < _; omega)]; exact hb
      · have hk : RdT (sortWorld (fun i : Fin l.length => Value.int .i64 (i.val : Int)) W g 0 m dk os) base A l := Reads.keep h fun p hp => cell_sortW _ _ _ _ _ _ _ _ (by omega) (by omega)
        exact hk.more (by omega))
    (fun j hj => by
      rw [hsz] at hj
      rw [Nat.zero_add, hget j hj]
      exact ⟨hcell j hj, hfz j⟩) hg (by rw [hsz]; omega)
  rw [hsz] at key
  refine key.mono ?_
  rintro e w' ⟨rfl, n, os, rfl⟩
  have hpm := (pdq_sorts (ltOf fun x y : Fin l.length => ordI l[x] l[y]) (swoI fun x => l[x]) (Array.ofFn (fun i : Fin l.length => i)) 0 l.length (Lib.bitLen l.length) true true (Nat.zero_le _) (by rw [hsz]; exact Nat.le_refl _) (Or.inl rfl)).1
  have hsp : sortP l = (pdq (ltOf fun x y : Fin l.length => ordI l[x] l[y]) (Array.ofFn (fun i : Fin l.length => i)) 0 l.length (Lib.bitLen l.length) true true).toList.map Fin.val := by unfold sortP; rw [dif_pos hp]
  obtain ⟨d', hd'⟩ : ∃ d', d' = pdq (ltOf fun x y : Fin l.length => ordI l[x] l[y]) (Array.ofFn (fun i : Fin l.length => i)) 0 l.length (Lib.bitLen l.length) true true := ⟨_, rfl⟩
  rw [← hd'] at hpm hsp ⊢
  have hgr := grownBy_sortW (fun i : Fin l.length => Value.int .i64 (i.val : Int)) W g n d' os
  have hd : d'.size = l.length := by rw [hpm.1, hsz]
  have hlt := lt_sortWorld (fun i : Fin l.length => Value.int .i64 (i.val : Int)) W g 0 n d' os hg
  have hh := holds_sortWorld (fun i : Fin l.length => Value.int .i64 (i.val : Int)) W g 0 n (Array.ofFn (fun i : Fin l.length => i)) d' os hg (fun j hj => by
      rw [hsz] at hj
      rw [Nat.zero_add, hget j hj]
      exact ⟨hcell j hj, hfz j⟩) (by rw [hd, hsz])
  refine ⟨rfl, below_grow (Below.refl _ _) hgr (fun q hq => by injection hq with hq; omega) hbs, ?_⟩
  rw [hsp]
  · refine ⟨by simp [iv, hd], fun _ => ⟨⟨g, 0, none⟩, rfl, hlt, fun j u hj => ?_⟩⟩
    have hjl : j < d'.size := by
      rcases Nat.lt_or_ge j d'.size with h | h
      · exact h
      · rw [List.getElem?_eq_none (by simp [iv]; exact h)] at hj; cases hj
    have h1 := (hh j hjl).1
    rw [getElem!_pos _ j hjl, Nat.zero_add] at h1
    simp [iv, hjl] at hj
    subst hj
    unfold Addr.add
    split
    · rename_i h0; subst h0; exact h1
    · simpa using h1
theorem getD_at {α : Type} (l : List α) (k : Nat) (d : α) (h : k < l.length) : l.getD k d = l[k] := by rw [List.getD_eq_getElem?_getD, List.getElem?_eq_getElem h]; rfl
theorem apartP_at {l : List It} {p : List Nat} {m : Nat} (hp : p = sortP l) (hm1 : m < p.length) (hm2 : m + 1 < p.length) (b1 : p[m] < l.length) (b2 : p[m + 1] < l.length) : apartP l m = (ordI l[p[m]] l[p[m + 1]] != 0) := by
  subst hp
  unfold apartP
  rw [getD_at _ _ _ hm1, getD_at _ _ _ hm2, getD_at _ _ _ b1, getD_at _ _ _ b2]
set_option maxHeartbeats 2000000 in
set_option maxRecDepth 100000 in
theorem places_ex (l : List It) (A : Option Addr) (c : Nat) (hl : l.length ≤ 1000000) (w : World) (h : RdT w w.heap.size A l) :
    Calls Tryz.prog 47 #[.slice A l.length c] w (PlaceX l w) := by
  by_cases h200 : 200 < l.length
  · go_enter Tryz.func47, Tryz.ntmps47
    go_wp2_with fail
    go_ret2
    exact ⟨(Below.refl _ _).alloc (Nat.le_refl _) _, .inl ⟨placesB_long h200, 1, by decide, rfl⟩⟩
  have h2 : l.length ≤ 200 := by omega
  clear h200 hl
  go_enter Tryz.func47, Tryz.ntmps47
  go_wp2_with fail
  go_loopw [4, 13] (fun v i wr => ∃ (k : Nat) (A1 : Option Addr) (c1 : Nat) (L : List Int), k ≤ l.length ∧ i = .int .i64 (k : Int) ∧ v = .slice A1 L.length c1 ∧ Hid (L = ints k) ∧ Hid (∀ j (hj : j < l.length), j < k → itOk l[j] = true) ∧ OwnI wr (w.heap.size + 1) 3 A1 c1 L ∧ Below (w.heap.size + 1) (w.alloc (.cells #[.slice A l.length c] 23)) wr) (fun _ i _ => l.length - (intOf i).toNat)
  case atStart => exact ⟨0, none, 0, [], by omega, rfl, rfl, Lib.hid rfl, Lib.hid (fun j _ h => absurd h (Nat.not_lt_zero j)), OwnI.nil _ _ _, Below.refl _ _⟩
  case round =>
    obtain ⟨k, A1, c1, L, hk, rfl, rfl, HL, HG, O1, HB⟩ := hrel
    have hL : L.length ≤ 200 := by rw [HL.out, ints_len]; omega
    have hsz : w.heap.size + 1 ≤ wr.heap.size := by have := HB.size; simpa using this
    by_cases hlt : k < l.length
    · have hR : RdT wr wr.heap.size A l := RdT.more (RdT.below (h.alloc (Nat.le_refl _) (.cells #[.slice A l.length c] 23)) HB (by omega)) (by omega)
      obtain ⟨b, off, rfl, hb, hc⟩ := hR.row (by omega)
      obtain ⟨x0, x1, x2, x3⟩ := hc k hlt
      obtain ⟨x, hx⟩ : ∃ x, x = l[k] := ⟨_, rfl⟩
      rw [← hx] at x0 x1 x2 x3
      have HXK := Lib.hid hx
      clear hx hc hR
      obtain ⟨a1, a2, a3, a4⟩ := x
      simp only at x0 x1 x2 x3
      have HO1 := Lib.hid O1; have HBB := Lib.hid HB
      clear O1 HB h
      have HFIN : ∀ o, Below w.heap.size w (wr.alloc o) := fun o => (((Below.refl _ _).alloc (Nat.le_refl _) _).trans (HBB.out.mono (by omega))).alloc (by omega) _
      have HFIN := Lib.hid HFIN
      rcases hw1 : wi a1 0 3652058 with _ | _
      · have HBAD : Hid (placesB l = false) := Lib.hid (placesB_bad hlt (by rw [← HXK.out]; simp [itOk, hw1]))
        have K1 := Lib.hid (fun w => within_any a1 0 3652058 _ hw1 w)
        clear hw1
        go_wp2_with fail
        refine (K1.out _).mono ?_
        rintro e w' ⟨rfl, rfl⟩
        go_wp2_with fail
        go_ret2
        exact ⟨HFIN.out _, .inl ⟨HBAD.out, 1, by decide, rfl⟩⟩
      rcases hw2 : wi a2 0 2 with _ | _
      · have HBAD : Hid (placesB l = false) := Lib.hid (placesB_bad hlt (by rw [← HXK.out]; simp [itOk, hw2]))
        have K1 := Lib.hid (fun w => within_any a1 0 3652058 _ hw1 w)
        have K2 := Lib.hid (fun w => within_any a2 0 2 _ hw2 w)
        clear hw1 hw2
        go_wp2_with fail
        refine (K1.out _).mono ?_
        rintro e w' ⟨rfl, rfl⟩
        go_wp2_with fail
        refine (K2.out _).mono ?_
        rintro e w' ⟨rfl, rfl⟩
        go_wp2_with fail
        go_ret2
        exact ⟨HFIN.out _, .inl ⟨HBAD.out, 1, by decide, rfl⟩⟩
      rcases hw3 : wi a3 1 99999 with _ | _
      · have HBAD : Hid (placesB l = false) := Lib.hid (placesB_bad hlt (by rw [← HXK.out]; simp [itOk, hw3]))
        have K1 := Lib.hid (fun w => within_any a1 0 3652058 _ hw1 w)
        have K2 := Lib.hid (fun w => within_any a2 0 2 _ hw2 w)
        have K3 := Lib.hid (fun w => within_any a3 1 99999 _ hw3 w)
        clear hw1 hw2 hw3
        go_wp2_with fail
        refine (K1.out _).mono ?_
        rintro e w' ⟨rfl, rfl⟩
        go_wp2_with fail
        refine (K2.out _).mono ?_
        rintro e w' ⟨rfl, rfl⟩
        go_wp2_with fail
        refine (K3.out _).mono ?_
        rintro e w' ⟨rfl, rfl⟩
        go_wp2_with fail
        go_ret2
        exact ⟨HFIN.out _, .inl ⟨HBAD.out, 1, by decide, rfl⟩⟩
      rcases hw4 : wi a4 0 4611686018427387904 with _ | _
      · have HBAD : Hid (placesB l = false) := Lib.hid (placesB_bad hlt (by rw [← HXK.out]; simp [itOk, hw4]))
        have K1 := Lib.hid (fun w => within_any a1 0 3652058 _ hw1 w)
        have K2 := Lib.hid (fun w => within_any a2 0 2 _ hw2 w)
        have K3 := Lib.hid (fun w => within_any a3 1 99999 _ hw3 w)
        have K4 := Lib.hid (fun w => within64_any a4 0 4611686018427387904 _ hw4 w)
        clear hw1 hw2 hw3 hw4
        go_wp2_with fail
        refine (K1.out _).mono ?_
        rintro e w' ⟨rfl, rfl⟩
        go_wp2_with fail
        refine (K2.out _).mono ?_
        rintro e w' ⟨rfl, rfl⟩
        go_wp2_with fail
        refine (K3.out _).mono ?_
        rintro e w' ⟨rfl, rfl⟩
        go_wp2_with fail
        refine (K4.out _).mono ?_
        rintro e w' ⟨rfl, rfl⟩
        go_wp2_with fail
        go_ret2
        exact ⟨HFIN.out _, .inl ⟨HBAD.out, 1, by decide, rfl⟩⟩
      · have HG2 : Hid (∀ j (hj : j < l.length), j < k + 1 → itOk l[j] = true) := Lib.hid (fun j hj h => by
          rcases Nat.lt_or_eq_of_le (Nat.le_of_lt_succ h) with h | h
          · exact HG.out j hj h
          · subst h
            rw [← HXK.out]; simp [itOk, hw1, hw2, hw3, hw4])
        have K1 := Lib.hid (fun w => within_any a1 0 3652058 _ hw1 w)
        have K2 := Lib.hid (fun w => within_any a2 0 2 _ hw2 w)
        have K3 := Lib.hid (fun w => within_any a3 1 99999 _ hw3 w)
        have K4 := Lib.hid (fun w => within64_any a4 0 4611686018427387904 _ hw4 w)
        clear hw1 hw2 hw3 hw4
        go_wp2_with fail
        refine (K1.out _).mono ?_
        rintro e w' ⟨rfl, rfl⟩
        go_wp2_with fail
        refine (K2.out _).mono ?_
        rintro e w' ⟨rfl, rfl⟩
        go_wp2_with fail
        refine (K3.out _).mono ?_
        rintro e w' ⟨rfl, rfl⟩
        go_wp2_with fail
        refine (K4.out _).mono ?_
        rintro e w' ⟨rfl, rfl⟩
        go_wp2_with (at_builtin; refine wpList_append_i _ rfl _ _ itn rfl (w.heap.size + 1) A1 c1 L rfl ((HO1.out.alloc _).alloc _) (wr.heap.size + 1 + 1) (some ⟨wr.heap.size + 1, 0, none⟩) 1 1 [(k : Int)] rfl rfl (by exact rdI_new _ _ _ _ (by simp)) (by simp; omega) (by simp; omega) ?_)
        intro A' c' L' w2 hL' ho hg hat
        have HL' : Hid (L' = ints (k + 1)) := Lib.hid (by rw [hL', HL.out, ints_succ])
        have HO2 := Lib.hid ho
        have HB2 : Hid (Below (w.heap.size + 1) (w.alloc (.cells #[.slice (some ⟨b, off, none⟩) l.length c] 23)) w2) := Lib.hid (below_grow ((HBB.out.alloc hsz _).alloc (by simp; omega) _) hg (fun q hq => (HO1.out.blk_ge q hq).1) (by simp; omega))
        clear hL' ho hg hat
        go_wp2_with fail
        go_round
        case rel => exact ⟨k + 1, A', c', L', by omega, by go_num, rfl, HL', HG2, HO2.out, HB2.out⟩
        case measure => simp [intOf]; omega
    · have hk2 : k = l.length := by omega
      subst hk2
      have hL2 := HL.out
      have hLn : L.length = l.length := by rw [hL2, ints_len]
      have hbox : wr.cell? ⟨w.heap.size, 0, none⟩ = some (.slice A l.length c) := by rw [HB.cell (by show w.heap.size < _; omega)]; simp
      have hR : RdT wr (w.heap.size + 1) A l := RdT.more (RdT.below (h.alloc (Nat.le_refl _) (.cells #[.slice A l.length c] 23)) HB (by omega)) (by omega)
      rw [hL2] at O1
      have K := Lib.hid (sort_ex l A c w.heap.size (w.heap.size + 1) A1 c1 h2 wr O1 (by omega) hsz hbox hR)
      rw [hLn]
      have HBB := Lib.hid HB; have HRR := Lib.hid hR; have HBX := Lib.hid hbox
      clear HL hL2 hLn O1 HB h hR hbox hL
      go_wp2_with fail
      refine K.out.mono ?_
      rintro e w2 ⟨rfl, hb2, hp3⟩
      obtain ⟨p, hp⟩ : ∃ p, p = sortP l := ⟨_, rfl⟩
      obtain ⟨hp1, hp2⟩ := sortP_ok l
      rw [← hp] at hp1 hp2 hp3
      have HB2 := Lib.hid hb2; have HP := Lib.hid hp2; have HR3 := Lib.hid hp3; have HP1 := Lib.hid hp1; have HPE := Lib.hid hp
      have hz2 : w.heap.size + 1 ≤ w2.heap.size := by have := hb2.size; omega
      clear hb2 hp hp1 hp2 hp3
      go_wp2_with fail
      go_loopw [7] (fun i wr => ∃ m : Nat, i = .int .i64 ((m : Int) + 1) ∧ Hid (Below w2.heap.size w2 wr) ∧ Hid (∀ j, j < m → apartP l j = true)) (fun i _ => l.length - (intOf i).toNat)
      case atStart => exact ⟨0, rfl, Lib.hid (Below.refl _ _), Lib.hid (fun j h => absurd h (Nat.not_lt_zero j))⟩
      case round =>
        obtain ⟨m, rfl, HW, HA⟩ := hrel
        have hzq : w2.heap.size ≤ wr.heap.size := HW.out.size
        by_cases hlt : m + 1 < l.length
        · have hRq : RdT wr wr.heap.size A l := RdT.more (RdT.below (RdT.below HRR.out HB2.out (by omega)) HW.out hz2) (by omega)
          have hPq : RdI wr w2.heap.size A1 (p.map fun (i : Nat) => (i : Int)) := RdI.below HR3.out HW.out (Nat.le_refl _)
          have hbx : wr.cell? ⟨w.heap.size, 0, none⟩ = some (.slice A l.length c) := by
            rw [HW.out.cell (by show w.heap.size < _; omega), HB2.out.cell (by show w.heap.size < _; omega)]; exact HBX.out
          obtain ⟨b, off, rfl, _, hc⟩ := hRq.row (by omega)
          obtain ⟨g, of2, rfl, _, hpc⟩ := hPq.row (by simp [HP1.out]; omega)
          have hm1 : m < p.length := by rw [HP1.out]; omega
          have hm2 : m + 1 < p.length := by rw [HP1.out]; omega
          have q1 := hpc m (by simpa using hm1)
          have q2 := hpc (m + 1) (by simpa using hm2)
          rw [List.getElem_map] at q1 q2
          have b1 := HP.out _ (List.getElem_mem hm1)
          have b2 := HP.out _ (List.getElem_mem hm2)
          obtain ⟨i1, hi1⟩ : ∃ i1, i1 = p[m] := ⟨_, rfl⟩
          obtain ⟨i2, hi2⟩ : ∃ i2, i2 = p[m + 1] := ⟨_, rfl⟩
          rw [← hi1] at q1 b1; rw [← hi2] at q2 b2
          obtain ⟨x0, x1, x2, x3⟩ := hc i1 b1
          obtain ⟨y0, y1, y2, y3⟩ := hc i2 b2
          obtain ⟨x, hx⟩ : ∃ x, x = l[i1] := ⟨_, rfl⟩
          obtain ⟨y, hy⟩ : ∃ y, y = l[i2] := ⟨_, rfl⟩
          rw [← hx] at x0 x1 x2 x3
          rw [← hy] at y0 y1 y2 y3
          have HAP : Hid (apartP l m = (ordI x y != 0)) := Lib.hid (by
            subst hx hy hi1 hi2
            exact apartP_at HPE.out hm1 hm2 b1 b2)
          clear hx hy hc hpc hi1 hi2 hRq hPq hm1 hm2
          have s1 : m < l.length := by omega
          have s2 : (m : Int) + 1 < (l.length : Int) := by omega
          have s3 : (0 : Int) ≤ (m : Int) + 1 := by omega
          have s4 : ((m : Int) + 1).toNat = m + 1 := by omega
          have e1 : IntKind.i64.wrap (m : Int) = (m : Int) := by rw [IntKind.wrap_i64]; omega
          go_wp2_with fail
          obtain ⟨V, hV⟩ : ∃ V : World, wr.drew = V := ⟨_, rfl⟩
          have HV := Lib.hid hV
          have e : ∀ p, wr.cell? p = V.cell? p := fun p => by rw [← hV]; rfl
          rw [e] at hbx q1 q2 x0 x1 x2 x3 y0 y1 y2 y3
          clear e
          refine region_still_tail 15 (by kernel_rfl) (by kernel_rfl) hV ?_
          simp only [List.take_succ_cons, List.take_zero, List.drop_succ_cons, List.drop_zero]
          clear hV
          repeat still_step
          refine wpStill_nil ?_
          go_wp2_with fail
          refine (order_any x y V).mono ?_
          rintro e w' ⟨rfl, q, os, rfl⟩
          have HY : Hid (Below w2.heap.size w2 (grow (V.drewN q) os)) := Lib.hid (by
            have h1 := below_row wr (q + 1) os
            have h2 : grow (V.drewN q) os = grow (wr.drewN (q + 1)) os := by rw [← HV.out]; show grow ((wr.drewN 1).drewN q) os = _; rw [World.drewN_drewN, Nat.add_comm]
            rw [h2]
            exact HW.out.trans (h1.mono hzq))
          obtain ⟨z, hz⟩ : ∃ z, z = ordI x y := ⟨_, rfl⟩
          rw [← hz]
          have HZ := Lib.hid hz
          clear hz
          obtain ⟨w5, hw5⟩ : ∃ w5, w5 = grow (V.drewN q) os := ⟨_, rfl⟩
          rw [← hw5] at HY ⊢
          clear hw5
          by_cases hz : z = 0
          · subst hz
            go_wp2_with fail
            go_ret2
            refine ⟨?_, .inl ⟨placesB_same hlt (by rw [HAP.out, ← HZ.out]; rfl), 5, by decide, rfl⟩⟩
            exact ((((Below.refl _ _).alloc (Nat.le_refl _) _).trans (HBB.out.mono (by omega))).trans (HB2.out.mono (by omega))).trans (HY.out.mono (by omega))
          · have d1 : (z == 0) = false := by simpa using hz
            have HA2 : Hid (∀ j, j < m + 1 → apartP l j = true) := Lib.hid (fun j h => by
              rcases Nat.lt_or_eq_of_le (Nat.le_of_lt_succ h) with h | h
              · exact HA.out j h
              · subst h
                rw [HAP.out, ← HZ.out]; simpa using hz)
            clear hz
            go_wp2_with fail
            go_round
            case rel => exact ⟨m + 1, by go_num, HY, HA2⟩
            case measure => simp [intOf]; omega
        · go_wp2_with fail
          go_ret2
          refine ⟨((((Below.refl _ _).alloc (Nat.le_refl _) _).trans (HBB.out.mono (by omega))).trans (HB2.out.mono (by omega))).trans (HW.out.mono (by omega)), .inr ⟨placesB_yes h2 (fun k hk => HG.out k hk hk) (fun j h => HA.out j (by omega)), A1, c1, rfl, by rw [← HPE.out]; exact (RdI.below HR3.out HW.out (Nat.le_refl _)).more hzq⟩⟩
end Go.Proofs.YtlmejpkngnilcaaGreatDoor

namespace Go.Proofs.YtlmejpkngnilcaaGreatDoor
open Go.RowKit

/-- The items, in the order of payment. -/
def orderP (l : List It) : List It := (sortP l).map fun i => l.getD i ⟨0, 0, 0, 0⟩
theorem orderP_len (l : List It) : (orderP l).length = l.length := by unfold orderP; rw [List.length_map, (sortP_ok l).1]
def OrderX (l : List It) (w : World) (e : Ending) (w' : World) : Prop := Below w.heap.size w w' ∧ ((placesB l = false ∧ ∃ m : Int, m ≠ 0 ∧ e = .returned (.tuple #[.slice none 0 0, .int .i64 m])) ∨
  (placesB l = true ∧ ∃ (A' : Option Addr) (c' : Nat), e = .returned (.tuple #[.slice A' l.length c', .int .i64 0]) ∧ RdT w' w'.heap.size A' (orderP l)))
def totalV (l : List It) : Value := sumV (l.map It.open_)
def TotalX (l : List It) (w : World) (e : Ending) (w' : World) : Prop := Below w.heap.size w w' ∧ ((placesB l = false ∧ ∃ m : Int, m ≠ 0 ∧ e = .returned (.tuple #[.int .i64 0, .int .i64 m])) ∨ (placesB l = true ∧ e = .returned (totalV l)))
theorem placesB_le {l : List It} (h : placesB l = true) : l.length ≤ 200 := by
  unfold placesB at h
  rw [Bool.and_eq_true] at h
  simpa using h.1
set_option maxHeartbeats 2000000 in
set_option maxRecDepth 100000 in
theorem alcorder_ex (l : List It) (A : Option Addr) (c : Nat) (hl : l.length ≤ 1000000) (w : World) (h : RdT w w.heap.size A l) :
    Calls Tryz.prog 23 #[.slice A l.length c] w (OrderX l w) := by
  have K := Lib.hid (places_ex l A c hl w h)
  have HR := Lib.hid h
  clear h
  go_enter Tryz.func23, Tryz.ntmps23
  go_wp2_with fail
  refine K.out.mono ?_
  rintro e w1 ⟨hb1, ⟨hpf, m, hm, rfl⟩ | ⟨hpt, A1, c1, rfl, hp3⟩⟩
  · have d1 : (m == 0) = false := by simpa using hm
    have d2 : (m != 0) = true := by simpa using hm
    have HM := Lib.hid hm; have HB1 := Lib.hid hb1
    clear hm hb1
    go_wp2_with fail
    go_ret2
    exact ⟨HB1.out, .inl ⟨hpf, m, HM.out, rfl⟩⟩
  · have h200 := placesB_le hpt
    obtain ⟨p, hp⟩ : ∃ p, p = sortP l := ⟨_, rfl⟩
    obtain ⟨hp1, hp2⟩ := sortP_ok l
    rw [← hp] at hp1 hp2 hp3
    have HPT := Lib.hid hpt; have HPE := Lib.hid hp
    have HB1 := Lib.hid hb1; have HP1 := Lib.hid hp1; have HP2 := Lib.hid hp2; have HP3 := Lib.hid hp3
    have hz1 := hb1.size
    clear hb1 hp hpt hp1 hp2 hp3
    go_wp2_with (refine wpList_make_s _ rfl _ _ itT rfl _ _ l.length rfl rfl (by omega) (by unfold maxLen; omega) ?_)
    intro w2 ho2 hg2
    have HO2 := Lib.hid ho2
    have HB2 : Hid (Below w1.heap.size w1 w2) := Lib.hid (below_grow (Below.refl _ _) hg2 (fun q hq => by cases hq) (Nat.le_refl _))
    have hz2 : w1.heap.size ≤ w2.heap.size := HB2.out.size
    clear ho2 hg2
    go_wp2_with fail
    go_loopw [6, 22] (fun v i wr => ∃ (k : Nat) (A3 : Option Addr) (c3 : Nat) (Q : List It), k ≤ l.length ∧ i = .int .i64 (k : Int) ∧ v = .slice A3 Q.length c3 ∧ Hid (Q = (p.take k).map fun i => l.getD i ⟨0, 0, 0, 0⟩) ∧ OwnS It.cells 4 wr w1.heap.size 53 A3 c3 Q ∧ Below w1.heap.size w1 wr) (fun _ i _ => l.length - (intOf i).toNat)
    case atStart => exact ⟨0, _, l.length, [], by omega, rfl, rfl, Lib.hid rfl, HO2.out, HB2.out⟩
    case round =>
      obtain ⟨k, A3, c3, Q, hk, rfl, rfl, HQ, O3, HB⟩ := hrel
      have hQl : Q.length = k := by rw [HQ.out, List.length_map, List.length_take, HP1.out]; omega
      have HQL := Lib.hid hQl
      have hQ : Q.length ≤ 200 := by omega
      clear hQl
      have hsz := HB.size
      by_cases hlt : k < l.length
      · have hR : RdT wr w1.heap.size A l := RdT.more (RdT.below (RdT.below HR.out HB1.out (Nat.le_refl _)) HB hz1) hz1
        obtain ⟨b, off, rfl, _, hc⟩ := hR.row (by omega)
        have hP : RdI wr w1.heap.size A1 (p.map fun (i : Nat) => (i : Int)) := RdI.below HP3.out HB (Nat.le_refl _)
        obtain ⟨g, of2, rfl, _, hpc⟩ := hP.row (by simp [HP1.out]; omega)
        have hkp : k < p.length := by rw [HP1.out]; exact hlt
        have q1 := hpc k (by simpa using hkp)
        rw [List.getElem_map] at q1
        have b1 := HP2.out _ (List.getElem_mem hkp)
        obtain ⟨i1, hi1⟩ : ∃ i1, i1 = p[k] := ⟨_, rfl⟩
        rw [← hi1] at q1 b1
        obtain ⟨x0, x1, x2, x3⟩ := hc i1 b1
        obtain ⟨x, hx⟩ : ∃ x, x = l[i1] := ⟨_, rfl⟩
        rw [← hx] at x0 x1 x2 x3
        have HKP := Lib.hid hkp
        have HXE : Hid (l.getD (p[k]'HKP.out) ⟨0, 0, 0, 0⟩ = x) := Lib.hid (by subst hx hi1; exact getD_at _ _ _ b1)
        clear hx hc hpc hi1 hR hP hkp
        have HO3 := Lib.hid O3; have HBB := Lib.hid HB
        clear O3 HB
        go_wp2_with (at_builtin; refine wpList_append_s _ rfl _ _ itT rfl w1.heap.size A3 c3 Q rfl (HO3.out.alloc _) (wr.heap.size + 1) (some ⟨wr.heap.size, 0, none⟩) 1 1 [x] rfl rfl (by exact rdT_new _ _ _ rfl) (by simp; omega) (by unfold maxLen; simp; omega) (by simp; omega) ?_)
        intro A' c' L' w4 hL' ho hg hat
        have HL' : Hid (L' = (p.take (k + 1)).map fun i => l.getD i ⟨0, 0, 0, 0⟩) := Lib.hid (by rw [hL', HQ.out, List.take_succ_eq_append_getElem HKP.out, List.map_append, List.map_cons, List.map_nil]; rw [HXE.out])
        have HO4 := Lib.hid ho
        have HB4 : Hid (Below w1.heap.size w1 w4) := Lib.hid (below_grow (HBB.out.alloc hsz _) hg (fun q hq => (HO3.out.blk_ge q hq).1) (by simp; omega))
        clear hL' ho hg hat
        go_wp2_with fail
        go_round
        case rel => exact ⟨k + 1, A', c', L', by omega, by go_num, rfl, HL', HO4.out, HB4.out⟩
        case measure => simp [intOf]; omega
      · have hk2 : k = l.length := by omega
        subst hk2
        have HO3 := Lib.hid O3; have HBB := Lib.hid HB
        obtain ⟨n, hn⟩ : ∃ n, n = Q.length := ⟨_, rfl⟩
        rw [← hn]
        have HN := Lib.hid hn
        clear O3 HB hn
        go_wp2_with fail
        go_ret2
        refine ⟨HB1.out.trans (HBB.out.mono hz1), .inr ⟨HPT.out, A3, c3, ?_, ?_⟩⟩
        · first
            | rfl
            | (rw [HN.out, HQL.out]; rfl)
        · have e : orderP l = Q := by unfold orderP; rw [← HPE.out, HQ.out, List.take_of_length_le (by rw [HP1.out]; exact Nat.le_refl _)]
          rw [e]; exact HO3.out.rd
set_option maxHeartbeats 2000000 in
set_option maxRecDepth 100000 in
theorem total_ex (l : List It) (A : Option Addr) (c : Nat) (hl : l.length ≤ 1000000) (w : World) (h : RdT w w.heap.size A l) :
    Calls Tryz.prog 25 #[.slice A l.length c] w (TotalX l w) := by
  have K := Lib.hid (places_ex l A c hl w h)
  have HR := Lib.hid h
  clear h
  go_enter Tryz.func25, Tryz.ntmps25
  go_wp2_with fail
  refine K.out.mono ?_
  rintro e w1 ⟨hb1, ⟨hpf, m, hm, rfl⟩ | ⟨hpt, A1, c1, rfl, hp3⟩⟩
  · have d1 : (m == 0) = false := by simpa using hm
    have d2 : (m != 0) = true := by simpa using hm
    have HM := Lib.hid hm; have HB1 := Lib.hid hb1
    clear hm hb1
    go_wp2_with fail
    go_ret2
    exact ⟨HB1.out, .inl ⟨hpf, m, HM.out, rfl⟩⟩
  · have HB1 := Lib.hid hb1
    have hz1 := hb1.size
    have h200 := placesB_le hpt
    have HPT := Lib.hid hpt
    clear hb1 hp3 hpt
    go_wp2_with fail
    go_loopw [6, 19] (fun v i wr => ∃ (k : Nat) (A3 : Option Addr) (c3 : Nat) (Q : List Int), k ≤ l.length ∧ i = .int .i64 (k : Int) ∧ v = .slice A3 Q.length c3 ∧ Hid (Q = (l.take k).map It.open_) ∧ OwnI wr w1.heap.size 2 A3 c3 Q ∧ Below w1.heap.size w1 wr) (fun _ i _ => l.length - (intOf i).toNat)
    case atStart => exact ⟨0, none, 0, [], by omega, rfl, rfl, Lib.hid rfl, OwnI.nil _ _ _, Below.refl _ _⟩
    case round =>
      obtain ⟨k, A3, c3, Q, hk, rfl, rfl, HQ, O3, HB⟩ := hrel
      have hQ : Q.length ≤ 200 := by rw [HQ.out, List.length_map, List.length_take]; omega
      have hsz := HB.size
      by_cases hlt : k < l.length
      · have hR : RdT wr w1.heap.size A l := RdT.more (RdT.below (RdT.below HR.out HB1.out (Nat.le_refl _)) HB hz1) hz1
        obtain ⟨b, off, rfl, _, hc⟩ := hR.row (by omega)
        obtain ⟨x0, x1, x2, x3⟩ := hc k hlt
        obtain ⟨x, hx⟩ : ∃ x, x = l[k] := ⟨_, rfl⟩
        rw [← hx] at x0 x1 x2 x3
        have HXE := Lib.hid hx.symm
        have HKL := Lib.hid hlt
        clear hx hc hR
        have HO3 := Lib.hid O3; have HBB := Lib.hid HB
        clear O3 HB
        go_wp2_with (at_builtin; refine wpList_append_i _ rfl _ _ it rfl w1.heap.size A3 c3 Q rfl ((HO3.out.alloc _).alloc _) (wr.heap.size + 1 + 1) (some ⟨wr.heap.size + 1, 0, none⟩) 1 1 [x.open_] rfl rfl (by exact rdI_new _ _ _ _ (by simp)) (by simp; omega) (by simp; omega) ?_)
        intro A' c' L' w4 hL' ho hg hat
        have HL' : Hid (L' = (l.take (k + 1)).map It.open_) := Lib.hid (by rw [hL', HQ.out, List.take_succ_eq_append_getElem HKL.out, List.map_append, List.map_cons, List.map_nil, HXE.out])
        have HO4 := Lib.hid ho
        have HB4 : Hid (Below w1.heap.size w1 w4) := Lib.hid (below_grow ((HBB.out.alloc hsz _).alloc (by simp; omega) _) hg (fun q hq => (HO3.out.blk_ge q hq).1) (by simp; omega))
        clear hL' ho hg hat
        go_wp2_with fail
        go_round
        case rel => exact ⟨k + 1, A', c', L', by omega, by go_num, rfl, HL', HO4.out, HB4.out⟩
        case measure => simp [intOf]; omega
      · have hk2 : k = l.length := by omega
        subst hk2
        have HT : Hid (totalV l = sumV Q) := Lib.hid (by unfold totalV; rw [HQ.out, List.take_of_length_le (Nat.le_refl _)])
        have HFB := Lib.hid (HB1.out.trans (HB.mono hz1))
        have hz3 : w.heap.size ≤ wr.heap.size := by omega
        rcases Nat.eq_zero_or_pos Q.length with h0 | hp
        · have e0 : Q = [] := List.eq_nil_of_length_eq_zero h0
          subst e0
          rcases O3.2 with ⟨hv, _⟩ | ⟨g, cap, cur, hv, hg, hh, hr⟩
          · injection hv with hv1 _ hv3
            subst hv1; subst hv3
            clear O3 HB h0
            go_wp2_with fail
            refine (sum_nil _).mono ?_
            rintro e w5 ⟨rfl, hb5⟩
            have HB5 := Lib.hid hb5; clear hb5
            go_wp2_with fail
            go_ret2
            exact ⟨HFB.out.trans (HB5.out.mono hz3), .inr ⟨HPT.out, by rw [HT.out]; rfl⟩⟩
          · injection hv with hv1 _ hv3
            subst hv1; subst hv3
            obtain ⟨a, x, hax⟩ := sumV_form ([] : List Int)
            have K5 : Hid (Calls Tryz.prog 46 #[.slice (some ⟨g, 0, none⟩) 0 c3] wr fun e w' => e = .returned (.tuple #[.int .i64 a, .int .i64 x]) ∧ Below wr.heap.size wr w') := Lib.hid (by
              have := sum_any g c3 [] (by simp) wr (fun k hk => absurd hk (by simp))
              rw [hax] at this
              exact this)
            have HAX := Lib.hid hax
            clear O3 HB h0 hax hg hh hr
            go_wp2_with fail
            refine K5.out.mono ?_
            rintro e w5 ⟨rfl, hb5⟩
            have HB5 := Lib.hid hb5; clear hb5
            go_wp2_with fail
            go_ret2
            exact ⟨HFB.out.trans (HB5.out.mono hz3), .inr ⟨HPT.out, by rw [HT.out, HAX.out]; rfl⟩⟩
        · obtain ⟨g, rfl, hg, hh⟩ := ownI_form O3 hp
          obtain ⟨a, x, hax⟩ := sumV_form Q
          have K5 := Lib.hid (sum_any g c3 Q (by omega) wr hh)
          rw [hax] at K5
          have HAX := Lib.hid hax
          clear O3 HB hax hh hp
          go_wp2_with fail
          refine K5.out.mono ?_
          rintro e w5 ⟨rfl, hb5⟩
          have HB5 := Lib.hid hb5; clear hb5
          go_wp2_with fail
          go_ret2
          exact ⟨HFB.out.trans (HB5.out.mono hz3), .inr ⟨HPT.out, by rw [HT.out, HAX.out]; rfl⟩⟩
theorem eqitem_ex (l m : List It) (A A2 : Option Addr) (c c2 : Nat) (hl : l.length ≤ 1000000) (he : m.length = l.length) (w : World) (h : RdT w w.heap.size A l) (h2 : RdT w w.heap.size A2 m) :
    Calls Tryz.prog 24 #[.slice A l.length c, .slice A2 l.length c2] w fun e w' => e = .returned (.bool (Lib.allEq eqIt l m)) ∧ Below w.heap.size w w' := by
  rcases Nat.eq_zero_or_pos l.length with h0 | hp
  · have H0 : Hid (l = [] ∧ m = []) := Lib.hid ⟨List.eq_nil_of_length_eq_zero h0, List.eq_nil_of_length_eq_zero (by omega)⟩
    rw [h0]
    go_enter Tryz.func24, Tryz.ntmps24
    go_wp2_with fail
    go_loop [13] (fun i => i = .int .i64 0) (fun i => 1 - (intOf i).toNat)
    case atStart => rfl
    case round =>
      subst hrel
      clear h0
      go_wp2_with fail
      go_ret
      exact ⟨by rw [H0.out.1, H0.out.2]; rfl, Below.refl _ _⟩
  · obtain ⟨b, off, rfl, _, hc⟩ := RdS.row (f := It.cells) (n := 4) (fun _ => rfl) (by omega) h hp
    obtain ⟨b2, off2, rfl, _, hc2⟩ := RdS.row (f := It.cells) (n := 4) (fun _ => rfl) (by omega) h2 (by omega)
    refine (AnyQ.slices_Equal Tryz.eqItem 4 Tryz.isAgg53 Tryz.sizeOf53 It.cells (fun _ => rfl) eqIt neqIt b off l.length c b2 off2 l.length c2 l m w (Nat.le_refl _) (by omega) (by omega) (by omega) (fun j hj i v hv => ?_) (fun j hj i v hv => ?_)).mono ?_
    · rw [getElem!_pos _ j hj] at hv
      exact hc j hj i v hv
    · rw [getElem!_pos _ j hj] at hv
      exact hc2 j hj i v hv
    · rintro e w' ⟨rfl, q, rfl⟩
      exact ⟨by rw [List.take_of_length_le (Nat.le_refl _), List.take_of_length_le (by omega)], below_row w q #[]⟩
theorem hasitem_ex (l : List It) (A : Option Addr) (c : Nat) (hl : l.length ≤ 1000000) (hp : 0 < l.length) (w : World) (h : RdT w w.heap.size A l) :
    Calls Tryz.prog 27 #[.slice A l.length c, .func (.func 26) #[] #[]] w fun e w' => e = .returned (.bool (l.any fun x => x.open_ == 0)) ∧ Below w.heap.size w w' := by
  obtain ⟨b, off, rfl, hb, hc⟩ := RdS.row (f := It.cells) (n := 4) (fun _ => rfl) (by omega) h hp
  refine (AnyQ.slices_ContainsFunc Tryz.hasItem 4 Tryz.isAgg53 Tryz.sizeOf53 It.cells (fun _ => rfl) (fun x => x.open_ == 0) 26 #[] (enters_of Tryz.func26 (by kernel_rfl) rfl) b off l.length c l w (fun W x hW => ?_) (Nat.le_refl _) (by omega) hb (fun j hj i v hv => ?_)).mono ?_
  · refine (paid_any x W).mono ?_
    rintro e w' ⟨rfl, hb⟩
    exact ⟨rfl, hW.trans (hb.mono hW.size)⟩
  · rw [getElem!_pos _ j hj] at hv
    exact hc j hj i v hv
  · rintro e w' ⟨rfl, hb⟩
    exact ⟨by rw [List.take_of_length_le (Nat.le_refl _)], hb⟩
end Go.Proofs.YtlmejpkngnilcaaGreatDoor

namespace Go.Proofs.YtlmejpkngnilcaaGreatDoor
open Go.RowKit

/-- May those be a statement's lines, from a day on? -/
def linesB (to_ : Int) : Int → List Ln → Bool
  | _, [] => true
  | last, y :: r => !decide (y.day < last ∨ to_ < y.day ∨ y.kind < 1 ∨ 7 < y.kind ∨ y.ref < 0 ∨ 1099511627776 < y.ref) && linesB to_ y.day r
theorem linesB_bad {to_ last : Int} {y : Ln} {r : List Ln} (h : y.day < last ∨ to_ < y.day ∨ y.kind < 1 ∨ 7 < y.kind ∨ y.ref < 0 ∨ 1099511627776 < y.ref) : linesB to_ last (y :: r) = false := by
  show (!decide _ && _) = false
  rw [decide_eq_true h]; rfl
theorem linesB_good {to_ last : Int} {y : Ln} {r : List Ln} (h : ¬ (y.day < last ∨ to_ < y.day ∨ y.kind < 1 ∨ 7 < y.kind ∨ y.ref < 0 ∨ 1099511627776 < y.ref)) : linesB to_ last (y :: r) = linesB to_ y.day r := by
  show (!decide _ && _) = _
  rw [decide_eq_false h]; rfl
/-- The amount, the error, of two results. -/
def two : Value → Int × Int
  | .tuple #[.int _ a, .int _ x] => (a, x)
  | _ => (0, 1)
theorem two_mk (k1 k2 : IntKind) (a x : Int) : two (.tuple #[.int k1 a, .int k2 x]) = (a, x) := rfl
/-- What stands ahead of the lines. -/
def headB (id fr to_ : Int) (n : Nat) : Bool := decide (1 ≤ id ∧ id ≤ 999999 ∧ 0 ≤ fr ∧ fr ≤ 3652058 ∧ 0 ≤ to_ ∧ to_ ≤ 3652058 ∧ fr ≤ to_ ∧ n ≤ 500)
/-- The items, against what is owed. -/
def itemsB (a : Int) (m : List It) : Bool := m.length == 0 || ((two (totalV m)).2 == 0 && ((two (totalV m)).1 == a && !m.any fun x => x.open_ == 0))
def sumsB (O C : List Int) : Bool := (two (sumV O)).2 == 0 && (two (sumV C)).2 == 0
/-- May that be a statement? -/
def rightB (id fr to_ owed credit : Int) (l : List Ln) (m : List It) : Bool :=
  headB id fr to_ l.length && (linesB to_ fr l && (sumsB (owed :: l.map Ln.owed) (credit :: l.map Ln.credit) && (placesB m && (Lib.allEq eqIt (orderP m) m && itemsB (two (sumV (owed :: l.map Ln.owed))).1 m))))
def RightX (b : Bool) (w : World) (e : Ending) (w' : World) : Prop := e = .returned (.bool b) ∧ Below w.heap.size w w'
section
variable {id fr to_ owed credit : Int} {l : List Ln} {m : List It}
theorem rightB_head (h : ¬ (1 ≤ id ∧ id ≤ 999999 ∧ 0 ≤ fr ∧ fr ≤ 3652058 ∧ 0 ≤ to_ ∧ to_ ≤ 3652058 ∧ fr ≤ to_ ∧ l.length ≤ 500)) : rightB id fr to_ owed credit l m = false := by
  unfold rightB headB; rw [decide_eq_false h]; rfl
theorem rightB_lines (h : linesB to_ fr l = false) : rightB id fr to_ owed credit l m = false := by
  unfold rightB; rw [h]; simp
theorem rightB_sums (h : sumsB (owed :: l.map Ln.owed) (credit :: l.map Ln.credit) = false) : rightB id fr to_ owed credit l m = false := by
  unfold rightB; rw [h]; simp
theorem rightB_places (h : placesB m = false) : rightB id fr to_ owed credit l m = false := by
  unfold rightB; rw [h]; simp
theorem rightB_equal (h : Lib.allEq eqIt (orderP m) m = false) : rightB id fr to_ owed credit l m = false := by
  unfold rightB; rw [h]; simp
theorem rightB_rest (h : headB id fr to_ l.length = true) (h1 : linesB to_ fr l = true) (h2 : sumsB (owed :: l.map Ln.owed) (credit :: l.map Ln.credit) = true) (h3 : placesB m = true) (h4 : Lib.allEq eqIt (orderP m) m = true) : rightB id fr to_ owed credit l m = itemsB (two (sumV (owed :: l.map Ln.owed))).1 m := by
  unfold rightB; rw [h, h1, h2, h3, h4]; rfl
end
set_option maxHeartbeats 4000000 in
set_option maxRecDepth 100000 in
theorem right_ex (id fr to_ owed credit : Int) (A A2 : Option Addr) (c c2 : Nat) (l : List Ln) (m : List It) (w : World) (hL : RdL w w.heap.size A l) (hT : RdT w w.heap.size A2 m) (hl : l.length ≤ 1000000) (hm : m.length ≤ 1000000) :
    Calls Tryz.prog 8 #[.agg #[.int .i64 id, .int .i64 fr, .int .i64 to_, .int .i64 owed, .int .i64 credit, .slice A l.length c, .slice A2 m.length c2]] w (RightX (rightB id fr to_ owed credit l m) w) := by
  have HL := Lib.hid hL; have HT := Lib.hid hT
  obtain ⟨b, hb⟩ : ∃ b, b = rightB id fr to_ owed credit l m := ⟨_, rfl⟩
  rw [← hb]
  have HBB := Lib.hid hb
  clear hb
  clear hL hT
  go_enter Tryz.func8, Tryz.ntmps8
  go_wp2_with (go_at_call 22; refine (day_any _ _).mono ?_; rintro e w' ⟨rfl, rfl⟩)
  all_goals first
    | (go_ret; exact ⟨ret_bo (by rw [HBB.out, rightB_head (by (try simp only [wi, Bool.and_eq_true, decide_eq_true_eq] at *); omega)]), (Below.refl _ _).alloc (Nat.le_refl _) _⟩)
    | skip
  have HH : Hid (headB id fr to_ l.length = true) := Lib.hid (by
    unfold headB
    rw [decide_eq_true_eq]
    (try simp only [wi, Bool.and_eq_true, decide_eq_true_eq] at *)
    omega)
  obtain ⟨W, hW⟩ : ∃ W : World, w.alloc (.cells #[.int .i64 id, .int .i64 fr, .int .i64 to_, .int .i64 owed, .int .i64 credit, .slice A l.length c, .slice A2 m.length c2] 25) = W := ⟨_, rfl⟩
  have q0 : W.cell? ⟨w.heap.size, 0, none⟩ = some (.int .i64 id) := by rw [← hW]; simp
  have q1 : W.cell? ⟨w.heap.size, 1, none⟩ = some (.int .i64 fr) := by rw [← hW]; simp
  have q2 : W.cell? ⟨w.heap.size, 2, none⟩ = some (.int .i64 to_) := by rw [← hW]; simp
  have q3 : W.cell? ⟨w.heap.size, 3, none⟩ = some (.int .i64 owed) := by rw [← hW]; simp
  have q4 : W.cell? ⟨w.heap.size, 4, none⟩ = some (.int .i64 credit) := by rw [← hW]; simp
  have q5 : W.cell? ⟨w.heap.size, 5, none⟩ = some (.slice A l.length c) := by rw [← hW]; simp
  have q6 : W.cell? ⟨w.heap.size, 6, none⟩ = some (.slice A2 m.length c2) := by rw [← hW]; simp
  have HB0 : Hid (Below w.heap.size w W) := Lib.hid (by rw [← hW]; exact (Below.refl _ _).alloc (Nat.le_refl _) _)
  have hsz : w.heap.size + 1 ≤ W.heap.size := by rw [← hW]; simp
  rw [hW]
  clear hW
  have QQ := Lib.hid (And.intro q0 (And.intro q1 (And.intro q2 (And.intro q3 (And.intro q4 (And.intro q5 q6))))))
  clear q0 q1 q2 q3 q4 q5 q6
  have h500 : l.length ≤ 500 := by omega
  go_loopw [3, 52] (fun d i wr => ∃ (k : Nat) (x : Int), k ≤ l.length ∧ i = .int .i64 (k : Int) ∧ d = .int .i64 x ∧ Hid (Below W.heap.size W wr) ∧ Hid (linesB to_ fr l = linesB to_ x (l.drop k))) (fun _ i _ => l.length - (intOf i).toNat)
  case atStart => exact ⟨0, fr, by omega, rfl, rfl, Lib.hid (Below.refl _ _), Lib.hid rfl⟩
  case round =>
    obtain ⟨k, x, hk, rfl, rfl, HB, HLN⟩ := hrel
    have hzr : W.heap.size ≤ wr.heap.size := HB.out.size
    have hlw : w.heap.size < wr.heap.size := by omega
    have KC : Hid (∀ j, wr.cell? ⟨w.heap.size, j, none⟩ = W.cell? ⟨w.heap.size, j, none⟩) := Lib.hid (fun j => HB.out.cell (by show w.heap.size < _; omega))
    have HBW : Hid (Below w.heap.size w wr) := Lib.hid (HB0.out.trans (HB.out.mono (by omega)))
    obtain ⟨q0, q1, q2, q3, q4, q5, q6⟩ := QQ.out
    rw [← KC.out] at q0 q1 q2 q3 q4 q5 q6
    by_cases hlt : k < l.length
    · obtain ⟨b, off, rfl, _, d0, d1, d2, d3, d4⟩ := (HL.out.below HBW.out (Nat.le_refl _)).at_ hlt
      obtain ⟨y, hy⟩ : ∃ y, y = l[k] := ⟨_, rfl⟩
      rw [← hy] at d0 d1 d2 d3 d4
      have HDR : Hid (linesB to_ fr l = linesB to_ x (y :: l.drop (k + 1))) := Lib.hid (by rw [HLN.out, hy, List.drop_eq_getElem_cons hlt])
      clear hy
      have HFIN : Hid (∀ o, Below W.heap.size W (wr.alloc o)) := Lib.hid fun o => HB.out.alloc hzr _
      go_wp2_with fail
      all_goals first
        | (go_ret; exact ⟨ret_bo (by rw [HBB.out, rightB_lines (by rw [HDR.out]; exact linesB_bad (by omega))]), HB0.out.trans ((HFIN.out _).mono (by omega))⟩)
        | skip
      all_goals
        go_round
        case rel => exact ⟨k + 1, y.day, by omega, by go_num, rfl, Lib.hid (HFIN.out _), Lib.hid (by rw [HDR.out]; exact linesB_good (by omega))⟩
        case measure => simp [intOf]; omega
    · have HLT : Hid (linesB to_ fr l = true) := Lib.hid (by rw [HLN.out, List.drop_eq_nil_of_le (by omega)]; rfl)
      have KS := Lib.hid (sums_any id fr to_ owed credit A A2 c m.length c2 l wr (HL.out.below HBW.out (Nat.le_refl _) |>.more (by omega)) (by omega))
      go_wp2_with fail
      refine KS.out.mono ?_
      rintro e w1 ⟨⟨a1, x1, a2, x2, s1, s2, hs⟩, hb1⟩
      have HB1 := Lib.hid hb1
      have hz1 : wr.heap.size ≤ w1.heap.size := hb1.size
      have S1 := Lib.hid s1; have S2 := Lib.hid s2
      clear hb1 s1 s2 KS q0 q1 q2 q3 q4 q5 q6
      rcases hs with ⟨rfl, rfl, rfl⟩ | ⟨hne, mm, hmm, rfl⟩
      · have HSB : Hid (sumsB (owed :: l.map Ln.owed) (credit :: l.map Ln.credit) = true) := Lib.hid (by unfold sumsB; rw [S1.out, S2.out]; rfl)
        have HA1 : Hid ((two (sumV (owed :: l.map Ln.owed))).1 = a1) := Lib.hid (by rw [S1.out]; rfl)
        have r6 : w1.cell? ⟨w.heap.size, 6, none⟩ = some (.slice A2 m.length c2) := by
          rw [HB1.out.cell (by show w.heap.size < _; omega), KC.out]; exact QQ.out.2.2.2.2.2.2
        have HX1 : Hid (Below w.heap.size w w1) := Lib.hid (HBW.out.trans (HB1.out.mono (by omega)))
        have hx1 : w.heap.size < w1.heap.size := by omega
        have KO := Lib.hid (alcorder_ex m A2 c2 (by omega) w1 (RdT.more (HT.out.below HX1.out (Nat.le_refl _)) (by omega)))
        go_wp2_with fail
        refine KO.out.mono ?_
        rintro e w2 ⟨hb2, ⟨hpf, m2, hm2, rfl⟩ | ⟨hpt, A3, c3, rfl, hq2⟩⟩
        · have d1 : (m2 == 0) = false := by simpa using hm2
          have d2 : (m2 != 0) = true := by simpa using hm2
          have HB2 := Lib.hid hb2
          clear hb2 hm2
          go_wp2_with fail
          go_ret
          exact ⟨ret_bo (by rw [HBB.out, rightB_places hpf]), HX1.out.trans (HB2.out.mono (by omega))⟩
        · have HPT := Lib.hid hpt
          have hq : (orderP m).length = m.length := orderP_len m
          have HX2 : Hid (Below w.heap.size w w2) := Lib.hid (HX1.out.trans (hb2.mono (by omega)))
          have hx2 : w.heap.size < w2.heap.size := by have := hb2.size; omega
          have r62 : w2.cell? ⟨w.heap.size, 6, none⟩ = some (.slice A2 m.length c2) := (hb2.cell (by show w.heap.size < _; omega)).trans r6
          have KE : Hid (Calls Tryz.prog 24 #[.slice A3 m.length c3, .slice A2 m.length c2] w2 fun e w' => e = .returned (.bool (Lib.allEq eqIt (orderP m) m)) ∧ Below w2.heap.size w2 w') := Lib.hid (by
            have := eqitem_ex (orderP m) m A3 A2 c3 c2 (by omega) hq.symm w2 hq2 (RdT.more (HT.out.below HX2.out (Nat.le_refl _)) (by omega))
            rw [hq] at this
            exact this)
          obtain ⟨b3, hb3⟩ : ∃ b3, b3 = Lib.allEq eqIt (orderP m) m := ⟨_, rfl⟩
          rw [← hb3] at KE
          have HE3 := Lib.hid hb3
          clear hb2 hb3 hpt r6 hq hq2 KO HB1 S1 S2
          go_wp2_with fail
          refine KE.out.mono ?_
          rintro e w3 ⟨rfl, hb3⟩
          have HX3 : Hid (Below w.heap.size w w3) := Lib.hid (HX2.out.trans (hb3.mono (by omega)))
          have hx3 : w.heap.size < w3.heap.size := by have := hb3.size; omega
          have r63 : w3.cell? ⟨w.heap.size, 6, none⟩ = some (.slice A2 m.length c2) := (hb3.cell (by show w.heap.size < _; omega)).trans r62
          clear hb3 r62 KE
          cases b3
          · go_wp2_with fail
            go_ret
            exact ⟨ret_bo (by rw [HBB.out, rightB_equal HE3.out.symm]), HX3.out⟩
          · have HIT : Hid (b = itemsB a1 m) := Lib.hid (by rw [HBB.out, rightB_rest HH.out HLT.out HSB.out HPT.out HE3.out.symm, HA1.out])
            have KT := Lib.hid (total_ex m A2 c2 (by omega) w3 (RdT.more (HT.out.below HX3.out (Nat.le_refl _)) (by omega)))
            go_wp2_with fail
            refine KT.out.mono ?_
            rintro e w4 ⟨hb4, ⟨hpf, _⟩ | ⟨_, he⟩⟩
            · rw [HPT.out] at hpf; cases hpf
            obtain ⟨a4, x4, hv⟩ := sumV_form (m.map It.open_)
            have HV : Hid (totalV m = .tuple #[.int .i64 a4, .int .i64 x4]) := Lib.hid hv
            rw [HV.out] at he
            subst he
            clear hv
            have HX4 : Hid (Below w.heap.size w w4) := Lib.hid (HX3.out.trans (hb4.mono (by omega)))
            have hx4 : w.heap.size < w4.heap.size := by have := hb4.size; omega
            have r64 : w4.cell? ⟨w.heap.size, 6, none⟩ = some (.slice A2 m.length c2) := (hb4.cell (by show w.heap.size < _; omega)).trans r63
            clear hb4 r63 KT
            rcases Nat.eq_zero_or_pos m.length with h0 | hp
            · have d0 : ((m.length : Int) == 0) = true := by simp [h0]
              have H0 := Lib.hid h0; clear h0
              go_wp2_with fail
              go_ret
              exact ⟨ret_bo (by rw [HIT.out]; unfold itemsB; rw [H0.out]; rfl), HX4.out⟩
            · have d0 : ((m.length : Int) == 0) = false := by rw [beq_eq_false_iff_ne]; omega
              have HNZ : Hid ((m.length == 0) = false) := Lib.hid (by rw [beq_eq_false_iff_ne]; omega)
              have KH := Lib.hid (hasitem_ex m A2 c2 (by omega) hp w4 (RdT.more (HT.out.below HX4.out (Nat.le_refl _)) (by omega)))
              by_cases hx0 : x4 = 0
              · subst hx0
                by_cases ha : a4 = a1
                · subst ha
                  go_wp2_with fail
                  refine KH.out.mono ?_
                  rintro e w5 ⟨rfl, hb5⟩
                  obtain ⟨b5, hb5e⟩ : ∃ b5, b5 = m.any fun x => x.open_ == 0 := ⟨_, rfl⟩
                  rw [← hb5e]
                  have HE5 := Lib.hid hb5e
                  have HX5 : Hid (Below w.heap.size w w5) := Lib.hid (HX4.out.trans (hb5.mono (by omega)))
                  clear hb5 hb5e
                  go_wp2_with fail
                  go_ret
                  exact ⟨ret_bo (by rw [HIT.out]; unfold itemsB; rw [HNZ.out, HV.out, ← HE5.out]; simp [two_mk]), HX5.out⟩
                · have d1 : (a4 == a1) = false := by simpa using ha
                  have HD1 := Lib.hid d1
                  clear ha
                  go_wp2_with fail
                  go_ret
                  exact ⟨ret_bo (by rw [HIT.out]; unfold itemsB; rw [HNZ.out, HV.out]; simp [two_mk, HD1.out]), HX4.out⟩
              · have d1 : (x4 == 0) = false := by simpa using hx0
                have HD1 := Lib.hid d1
                clear hx0
                go_wp2_with fail
                go_ret
                exact ⟨ret_bo (by rw [HIT.out]; unfold itemsB; rw [HNZ.out, HV.out]; simp [two_mk, HD1.out]), HX4.out⟩
      · have HSF : Hid (sumsB (owed :: l.map Ln.owed) (credit :: l.map Ln.credit) = false) := Lib.hid (by unfold sumsB; rw [S1.out, S2.out]; simp only [two_mk]; rw [Bool.and_eq_false_iff]; simp only [beq_eq_false_iff_ne]; omega)
        have d1 : (mm == 0) = false := by simpa using hmm
        have d2 : (mm != 0) = true := by simpa using hmm
        have r6 : w1.cell? ⟨w.heap.size, 6, none⟩ = some (.slice A2 m.length c2) := by
          rw [HB1.out.cell (by show w.heap.size < _; omega), KC.out]; exact QQ.out.2.2.2.2.2.2
        have HX1 : Hid (Below w.heap.size w w1) := Lib.hid (HBW.out.trans (HB1.out.mono (by omega)))
        have hx1 : w.heap.size < w1.heap.size := by omega
        have KO := Lib.hid (alcorder_ex m A2 c2 (by omega) w1 (RdT.more (HT.out.below HX1.out (Nat.le_refl _)) (by omega)))
        clear hmm
        go_wp2_with fail
        refine KO.out.mono ?_
        rintro e w2 ⟨hb2, ⟨hpf, m2, hm2, rfl⟩ | ⟨hpt, A3, c3, rfl, hq2⟩⟩
        · have HB2 := Lib.hid hb2
          clear hb2 hm2
          go_wp2_with fail
          go_ret
          exact ⟨ret_bo (by rw [HBB.out, rightB_sums HSF.out]), HX1.out.trans (HB2.out.mono (by omega))⟩
        · have HB2 := Lib.hid hb2
          clear hb2 hq2
          go_wp2_with fail
          go_ret
          exact ⟨ret_bo (by rw [HBB.out, rightB_sums HSF.out]), HX1.out.trans (HB2.out.mono (by omega))⟩
end Go.Proofs.YtlmejpkngnilcaaGreatDoor
