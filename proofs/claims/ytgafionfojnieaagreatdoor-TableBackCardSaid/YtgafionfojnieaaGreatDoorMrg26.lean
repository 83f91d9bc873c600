/- Parts of the proof, one behind the other: The contracts of TakeText, both. -/
import Derived.Test.YtgafionfojnieaaGreatDoorMrg04
import Derived.Deep.RegionHeld
import Derived.Deep.RegionHeldLaw
namespace Go.Proofs.YtgafionfojnieaaGreatDoor
open Go.RowKit
def cutT (v : Option (Nat × List UInt8)) : Option (List UInt8 × List UInt8) := match v with
 | none => none
 | some (n, r) => if n ≤ r.length then some (r.take n, r.drop n) else none
theorem ret_takt {A B : Option Addr} {k k' m m' c d : Nat} (hk : k = k') (hm : m = m') : Ending.returned (.tuple #[.slice A k c, .slice B m d, .int .i64 0]) = .returned (.tuple #[.slice A k' c, .slice B m' d, .int .i64 0]) := by rw [hk, hm]
theorem rdB_keep {w w' : World} {A : Option Addr} {l : List UInt8} (h : RdB w w.heap.size A l) (hb : Below w.heap.size w w') : RdB w' w'.heap.size A l ∧ Below w.heap.size w w' := ⟨(h.below hb (Nat.le_refl _)).more hb.size, hb⟩
theorem step_append_bd {P : Program} (w : World) {ops : Array Oper} {o : Oper} {a : Act} {K : Act → World → Prop} {Q : Exit → Act → World → Prop} {E : Prop} (hgd : o.guard = none) (d : Option Tmp) (hd : o.dst = d) (s x : Operand) {t e : TypeId} (T : BT P t e)
   (ho : o.op = .call { callee := .builtin .append, args := #[s, x], argTypes := #[t, t] })
   (base : Nat) (A : Option Addr) (c : Nat) (l : List UInt8) (hs : a.eval s = .slice A l.length c) (hown : Own w base e A c l)
   (B : Nat) (A2 : Option Addr) (m c2 : Nat) (l2 : List UInt8) (hx : a.eval x = .slice A2 m c2) (hm : m = l2.length) (hr : RdB w B A2 l2) (hlen : l.length + l2.length ≤ 140737488355328) (hbase : base ≤ w.heap.size)
   (h : ∀ A' c' L w', L = l ++ l2 → Own w' base e A' c' L → w.grownBy w' (blk A) → (blk A' = blk A ∨ blk A' = some w.heap.size) → K (a.put d (.slice A' L.length c')) w') :
   if Region.wanted o (yielded ops a.tmps) = true then Oper.wp P o a w K Q else E := by
 subst hd
 exact step_append_b w hgd s x T ho base A c l hs hown B A2 m c2 l2 hx hm hr hlen hbase h
end Go.Proofs.YtgafionfojnieaaGreatDoor
