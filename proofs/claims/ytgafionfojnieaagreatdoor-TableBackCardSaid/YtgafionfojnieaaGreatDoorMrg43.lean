/- Parts of the proof, one behind the other: The contract of the reference's Build (written by a program). -/
import Derived.Test.YtgafionfojnieaaGreatDoorMrg38
namespace Go.Proofs.YtgafionfojnieaaGreatDoor
open Go.RowKit
structure KR (w : World) (l : List Rv) (k : Nat) (KA : Option Addr) (KC : Nat) (wr : World) : Prop where
 keys : OwnS Bs.cells 1 wr w.heap.size 22 KA KC ((l.take k).map Rv.bs)
 below : Below w.heap.size w wr
 size : w.heap.size ≤ wr.heap.size
 ord : ∀ i (hi : i < l.length), 0 < i → i < k → Tb.ahead (l[i - 1]'(by omega)) l[i] = true
theorem KR.call {w wr w2 : World} {l : List Rv} {k : Nat} {KA : Option Addr} {KC : Nat} (h : KR w l k KA KC wr) (hb : Below wr.heap.size wr w2) : KR w l k KA KC w2 :=
 ⟨h.keys.below hb, h.below.trans (hb.mono h.size), Nat.le_trans h.size hb.size, h.ord⟩
end Go.Proofs.YtgafionfojnieaaGreatDoor
