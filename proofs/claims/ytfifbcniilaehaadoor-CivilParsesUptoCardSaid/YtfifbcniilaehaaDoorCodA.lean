/- slices.Reverse at bytes, over a row of the call's own. -/
import Derived.Test.YtfifbcniilaehaaDoorProg
import Derived.Test.YtfifbcniilaehaaDoorByt
import Derived.BigRegion
import Derived.BigQuiet
import Derived.Deep.QuietTactic
import Derived.ChangeAlike
namespace Go.Proofs.YtfifbcniilaehaaDoor
open Go.RowKit

theorem bt : BT Tryd.prog 39 5 := ⟨Tryd.underlying39, Tryd.underlying5, by kernel_rfl⟩

/-- The call hands back bytes of its own. -/
def GivesB (w : World) (l : List UInt8) (e : Ending) (w' : World) : Prop := ∃ A c, e = .returned (.slice A l.length c) ∧ Own w' w.heap.size 5 A c l ∧ Below w.heap.size w w'
theorem own_one {w : World} {x : Int} {b : UInt8} (hb : (b.toNat : Int) = x) : Own (w.alloc (.cells #[.int .u8 x] 5)) w.heap.size 5 (some ⟨w.heap.size, 0, none⟩) 1 [b] := by
  subst hb
  exact World.ownsRow_lit (e := 5) (size := 1) w #[.int .u8 (b.toNat : Int)] 1 (Nat.le_refl _) (by unfold maxLen; omega) rfl

/-- l with its first k and last k places exchanged. -/
def Turned (l cur : List UInt8) (k : Nat) : Prop := cur.length = l.length ∧ ∀ p, p < l.length → cur[p]? = if p < k ∨ l.length - k ≤ p then l[l.length - 1 - p]? else l[p]?
theorem Turned.start (l : List UInt8) : Turned l l 0 := ⟨rfl, fun p hp => by rw [if_neg (by omega)]⟩
theorem Turned.done {l cur : List UInt8} {k : Nat} (h : Turned l cur k) (hk : l.length ≤ 2 * k + 1) (hk2 : 2 * k ≤ l.length) : cur = l.reverse := by
  apply List.ext_getElem?
  intro p
  rcases Nat.lt_or_ge p l.length with hp | hp
  · rw [h.2 p hp, List.getElem?_reverse hp]
    by_cases c : p < k ∨ l.length - k ≤ p
    · rw [if_pos c]
    · rw [if_neg c]; congr 1; omega
  · rw [List.getElem?_eq_none (by rw [h.1]; exact hp), List.getElem?_eq_none (by simpa using hp)]
theorem Turned.step {l cur : List UInt8} {k : Nat} (h : Turned l cur k) (hk : 2 * k + 1 < l.length) (a b : UInt8) (ha : cur[k]? = some a) (hb : cur[l.length - 1 - k]? = some b) :
    Turned l ((cur.set k b).set (l.length - 1 - k) a) (k + 1) := by
  have e1 := h.2 k (by omega)
  rw [if_neg (by omega)] at e1
  have e2 := h.2 (l.length - 1 - k) (by omega)
  rw [if_neg (by omega)] at e2
  rw [ha] at e1
  rw [hb] at e2
  refine ⟨by simp [h.1], fun p hp => ?_⟩
  have hl := h.1
  by_cases c1 : p = l.length - 1 - k
  · subst c1
    rw [List.getElem?_set_self (by simp; omega), if_pos (by omega)]
    have : l.length - 1 - (l.length - 1 - k) = k := by omega
    rw [this]; exact e1
  · rw [List.getElem?_set_ne (by omega)]
    by_cases c2 : p = k
    · subst c2
      rw [List.getElem?_set_self (by omega), if_pos (by omega)]
      exact e2
    · rw [List.getElem?_set_ne (by omega), h.2 p hp]
      by_cases c3 : p < k ∨ l.length - k ≤ p
      · rw [if_pos c3, if_pos (by omega)]
      · rw [if_neg c3, if_neg (by omega)]
theorem bv_set (l : List UInt8) (k : Nat) (b : UInt8) : bv (l.set k b) = (bv l).set k (.int .u8 (b.toNat : Int)) := by simp [bv, List.map_set]

theorem only_drew {a w : World} {row : Option Nat} (h : a.grownBy w row) : a.grownBy w.drew row := ⟨h.os, h.tape, h.output, h.size, h.block⟩
theorem only_setCell {a w : World} {g : Nat} (h : a.grownBy w (some g)) {p : Addr} (hp : p.block = g) (u : Value) : a.grownBy (w.setCell p u) (some g) :=
  ⟨h.os, h.tape, h.output, by simpa [World.setCell] using h.size, fun i hi hne => (Below.heap_setCell w p u i (by
    rintro rfl
    exact hne (by rw [hp]))).trans (h.block i hi hne)⟩
/-- A store into the row. -/
theorem Own.store {w : World} {base e g c n : Nat} {l : List UInt8} (h : w.ownsRow base e 1 (.slice (some ⟨g, 0, none⟩) n c) n (bv l)) (j : Nat) (b : UInt8) :
    (w.setCell ⟨g, j, none⟩ (.int .u8 (b.toNat : Int))).ownsRow base e 1 (.slice (some ⟨g, 0, none⟩) n c) n (bv (l.set j b)) := by
  rw [bv_set]; exact (h.stored j _).1

end Go.Proofs.YtfifbcniilaehaaDoor
