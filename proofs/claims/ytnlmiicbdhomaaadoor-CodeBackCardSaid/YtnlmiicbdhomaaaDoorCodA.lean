/- slices.Reverse at bytes, over a row of the call's own. -/
import Derived.Test.YtnlmiicbdhomaaaDoorProg
import Derived.Test.YtnlmiicbdhomaaaDoorByt
import Derived.BigRegion
import Derived.BigQuiet
import Derived.Deep.QuietTactic
import Derived.ChangeAlike
namespace Go.Proofs.YtnlmiicbdhomaaaDoor
open Go.RowKit

theorem bt : BT Tryd.prog 25 5 := ⟨Tryd.underlying25, Tryd.underlying5, by kernel_rfl⟩

/-- The call hands back bytes of its own. -/
def GivesB (w : World) (l : List UInt8) (e : Ending) (w' : World) : Prop := ∃ A c, e = .returned (.slice A l.length c) ∧ Own w' w.heap.size 5 A c l ∧ Below w.heap.size w w'
theorem own_one {w : World} {x : Int} {b : UInt8} (hb : (b.toNat : Int) = x) : Own (w.alloc (.cells #[.int .u8 x] 5)) w.heap.size 5 (some ⟨w.heap.size, 0, none⟩) 1 [b] := by
  subst hb
  exact World.ownsRow_lit (e := 5) (size := 1) w #[.int .u8 (b.toNat : Int)] 1 (Nat.le_refl _) (by unfold maxLen; omega) rfl

/-- l with its first k and last k places exchanged. -/
def Turned (l cur : List UInt8) (k : Nat) : Prop := cur.length = l.length ∧ ∀ p, p < l.length → cur[p]? = if p < k ∨ l.length - k ≤ p then l[l.length - 1 - p]? else l[p]?
theorem Turned.start (l : List UInt8) : Turned l l 0 := ⟨rfl, fun p hp => by rw [if_neg (by omega)]⟩
theorem Turned.done {l cur : List UInt8} {k : Nat} (h : Turned l cur k) (hk : l.length ≤ 2 * k + 1) (hk2 : 2 * k ≤ l.length) : cur = l.reverse := by
  apply List.ext_getElem?
  intro p
  rcases Nat.lt_or_ge p l.length with hp | hp
  · rw [h.2 p hp, List.getElem?_reverse hp]
    by_cases c : p < k ∨ l.length - k ≤ p
    · rw [if_pos c]
    · rw [if_neg c]; congr 1; omega
  · rw [List.getElem?_eq_none (by rw [h.1]; exact hp), List.getElem?_eq_none (by simpa using hp)]
theorem Turned.step {l cur : List UInt8} {k : Nat} (h : Turned l cur k) (hk : 2 * k + 1 < l.length) (a b : UInt8) (ha : cur[k]? = some a) (hb : cur[l.length - 1 - k]? = some b) :
    Turned l ((cur.set k b).set (l.length - 1 - k) a) (k + 1) := by
  have e1 := h.2 k (by omega)
  rw [if_neg (by omega)] at e1
  have e2 := h.2 (l.length - 1 - k) (by omega)
  rw [if_neg (by omega)] at e2
  rw [ha] at e1
  rw [hb] at e2
  refine ⟨by simp [h.1], fun p hp => ?_⟩
  have hl := h.1
  by_cases c1 : p = l.length - 1 - k
  · subst c1
    rw [List.getElem?_set_self (by simp; omega), if_pos (by omega)]
    have : l.length - 1 - (l.length - 1 - k) = k := by omega
    rw [this]; exact e1
  · rw [List.getElem?_set_ne (by omega)]
    by_cases c2 : p = k
    · subst c2
      rw [List.getElem?_set_self (by omega), if_pos (by omega)]
      exact e2
    · rw [List.getElem?_set_ne (by omega), h.2 p hp]
      by_cases c3 : p < k ∨ l.length - k ≤ p
      · rw [if_pos c3, if_pos (by omega)]
      · rw [if_neg c3, if_neg (by omega)]
theorem bv_set (l : List UInt8) (k : Nat) (b : UInt8) : bv (l.set k b) = (bv l).set k (.int .u8 (b.toNat : Int)) := by simp [bv, List.map_set]

theorem only_drew {a w : World} {row : Option Nat} (h : a.grownBy w row) : a.grownBy w.drew row := ⟨h.os, h.tape, h.output, h.size, h.block⟩
theorem only_setCell {a w : World} {g : Nat} (h : a.grownBy w (some g)) {p : Addr} (hp : p.block = g) (u : Value) : a.grownBy (w.setCell p u) (some g) :=
  ⟨h.os, h.tape, h.output, by simpa [World.setCell] using h.size, fun i hi hne => (Below.heap_setCell w p u i (by
    rintro rfl
    exact hne (by rw [hp]))).trans (h.block i hi hne)⟩
/-- A store into the row. -/
theorem Own.store {w : World} {base e g c n : Nat} {l : List UInt8} (h : w.ownsRow base e 1 (.slice (some ⟨g, 0, none⟩) n c) n (bv l)) (j : Nat) (b : UInt8) :
    (w.setCell ⟨g, j, none⟩ (.int .u8 (b.toNat : Int))).ownsRow base e 1 (.slice (some ⟨g, 0, none⟩) n c) n (bv (l.set j b)) := by
  rw [bv_set]; exact (h.stored j _).1

set_option maxHeartbeats 1000000 in
set_option maxRecDepth 100000 in
theorem reverse_any (base : Nat) (A : Option Addr) (c : Nat) (l : List UInt8) (w : World) (h : Own w base 5 A c l) (hl : l.length ≤ 9223372036854775807) :
    Calls Tryd.prog 29 #[.slice A l.length c] w fun e w' => e = .returned (.tuple #[]) ∧ Own w' base 5 A c l.reverse ∧ w.grownBy w' (blk A) := by
  by_cases h2 : l.length < 2
  · have hr : l.reverse = l := by
      match l, h2 with
      | [], _ => rfl
      | [_], _ => rfl
    go_enter Tryd.func29, Tryd.ntmps29
    go_wp2
    refine wp_loop_rounds 1 ?_
    rw [rounds_succ]
    go_wp2
    go_end0
    exact ⟨rfl, by rw [hr]; exact h, ⟨rfl, rfl, rfl, Nat.le_refl _, fun _ _ _ => rfl⟩⟩
  · obtain ⟨g, cap, hv, hg1, hg2⟩ := h.form (by omega)
    obtain rfl : A = some ⟨g, 0, none⟩ := by injection hv
    obtain ⟨n, hn⟩ : ∃ n, n = l.length := ⟨_, rfl⟩
    unfold Own at h
    rw [← hn] at h hl h2 ⊢
    have HN := Lib.hid hn; clear hn
    go_enter Tryd.func29, Tryd.ntmps29
    go_wp2
    go_loopw [2, 3] (fun i j wr => ∃ (k : Nat) (cur : List UInt8), 2 * k ≤ n ∧ i = .int .i64 k ∧ j = .int .i64 ((n : Int) - 1 - k) ∧ Hid (Turned l cur k) ∧ wr.ownsRow base 5 1 (.slice (some ⟨g, 0, none⟩) n c) n (bv cur) ∧ w.grownBy wr (some g)) (fun i _ _ => n - (intOf i).toNat)
    case atStart => exact ⟨0, l, by omega, rfl, by congr 1; omega, Lib.hid (Turned.start l), h, ⟨rfl, rfl, rfl, Nat.le_refl _, fun _ _ _ => rfl⟩⟩
    case round =>
      obtain ⟨k, cur, hk, rfl, rfl, HT, ho, hgr⟩ := hrel
      by_cases hlt : 2 * k + 1 < n
      · have hT := HT.out
        have hcl : cur.length = n := by rw [hT.1, HN.out]
        have ca := ho.cellAt k (by omega)
        have cb := ho.cellAt (n - 1 - k) (by omega)
        rw [bv_get cur _ (by omega)] at ca cb
        have fa := ho.frozenAt k
        have fb := ho.frozenAt (n - 1 - k)
        obtain ⟨a, ha⟩ : ∃ a, a = cur[k] := ⟨_, rfl⟩
        obtain ⟨b, hb⟩ : ∃ b, b = cur[n - 1 - k] := ⟨_, rfl⟩
        have ea : cur[k]? = some a := by rw [ha]; exact List.getElem?_eq_getElem _
        have eb : cur[l.length - 1 - k]? = some b := by rw [← HN.out, hb]; exact List.getElem?_eq_getElem _
        have HS := Lib.hid (hT.step (by rw [← HN.out]; omega) a b ea eb)
        rw [← HN.out] at HS
        rw [← ha] at ca
        rw [← hb] at cb
        clear ha hb hT hcl ea eb
        have i1 : (0 : Int) ≤ (k : Int) := by omega
        have i2 : (k : Int) < (n : Int) := by omega
        have i3 : (0 : Int) ≤ (n : Int) - 1 - (k : Int) := by omega
        have i4 : (n : Int) - 1 - (k : Int) < (n : Int) := by omega
        have i5 : ((n : Int) - 1 - (k : Int)).toNat = n - 1 - k := by omega
        go_wp2
        go_region
        go_wp2
        go_roundw
        case rel =>
          have o1 := Own.store ho k b
          have o2 := Own.store o1 (n - 1 - k) a
          refine ⟨k + 1, (cur.set k b).set (n - 1 - k) a, by omega, by go_num, by congr 1; omega, HS, o2, ?_⟩
          exact only_drew (only_setCell (only_setCell hgr (p := ⟨g, k, none⟩) rfl _) (p := ⟨g, n - 1 - k, none⟩) rfl _)
        case measure => simp [intOf]; omega
      · have hE : cur = l.reverse := HT.out.done (by rw [← HN.out]; omega) (by rw [← HN.out]; omega)
        have HE := Lib.hid hE; clear hE
        go_wp2
        go_end0
        refine ⟨rfl, ?_, hgr⟩
        have e := HE.out
        subst e
        unfold Own
        rw [List.length_reverse, ← HN.out]
        exact ho
end Go.Proofs.YtnlmiicbdhomaaaDoor
