/- Parts of the proof, one behind the other: Plain: batches on a store: what a log does. -/
import Derived.Test.YtekbdedpombgcaaGreatDoorMrg03
import Derived.Test.YtekbdedpombgcaaGreatDoorMrg37
import Derived.Test.YtekbdedpombgcaaGreatDoorMrg40
namespace Go.Proofs.YtekbdedpombgcaaGreatDoor
open Go.RowKit

namespace Wal
/-- A batch: its number, its bytes. -/
abbrev Bt := Nat × List UInt8
def scanL : Nat → List UInt8 → List (UInt8 × List UInt8)
  | 0, _ => []
  | n + 1, b => match Frm.take b with
    | none => []
    | some (k, t, r) => (k, t) :: scanL n r
/-- The frames that bytes begin with. -/
def scan (b : List UInt8) : List (UInt8 × List UInt8) := scanL b.length b
theorem scanL_of : ∀ (l : List (UInt8 × List UInt8)) (n : Nat) (b r : List UInt8), Frm.Scans b l r → Frm.take r = none → l.length ≤ n → scanL n b = l
  | [], n, b, r, h, hn, _ => by
    have e : b = r := h.eq
    subst e
    cases n with
    | zero => rfl
    | succ n => rw [scanL, hn]
  | p :: l, 0, _, _, _, _, hl => by simp at hl
  | p :: l, n + 1, b, r, h, hn, hl => by
    have ep : Frm.flat (p :: l) = Frm.put p.1 p.2 ++ Frm.flat l := by simp [Frm.flat]
    have e1 := h.eq
    rw [ep, List.append_assoc] at e1
    rw [scanL, e1, Frm.take_put _ _ _ (h.fit p (by simp))]
    simp only
    rw [scanL_of l n (Frm.flat l ++ r) r ⟨rfl, fun x hx => h.fit x (by simp [hx])⟩ hn (by simpa using hl)]
theorem scan_of {b r : List UInt8} {l : List (UInt8 × List UInt8)} (h : Frm.Scans b l r) (hn : Frm.take r = none) : scan b = l := scanL_of l _ b r h hn h.len.1
/-- The batches that frames tell, behind one of that number. -/
def tells : Option Nat → List (UInt8 × List UInt8) → List Bt
  | _, [] => []
  | last, p :: r => match Cod.take p.2 with
    | none => []
    | some (n, rest) => if p.1 ≠ 66 ∨ n < 1 ∨ 1099511627776 < n ∨ (last.any fun z => n != z + 1) = true then [] else (n, rest) :: tells (some n) r
def files (s : Sto.St) : List Nat := ((Sto.names s).map numbered).filter fun n => decide (0 < n)
def told (s : Sto.St) (n : Nat) : List Bt := tells none (scan (Sto.read s (name n)).2)
def join (out l : List Bt) : List Bt := match l.head?, out.getLast? with
  | none, _ => out
  | some _, none => l
  | some a, some z => if a.1 ≤ z.1 then out else if z.1 + 1 < a.1 then l else out ++ l
def there (s : Sto.St) : List Bt := (files s).foldl (fun out n => join out (told s n)) []
/-- A log, beside its store. -/
structure Lg where
  limit : Nat
  last : Nat
  size : Nat
  next : Nat
  waiting : List Bt
  broken : Bool
def mk (s : Sto.St) (l : Lg) : Int × Sto.St × Lg :=
  if 999999 ≤ l.last then (2, s, l) else
  let a := Sto.create s (name (l.last + 1))
  if a.1 ≠ 0 then (a.1, a.2, l) else
  let b := Sto.syncDir a.2
  if b.1 ≠ 0 then (b.1, b.2, l) else (0, b.2, { l with last := l.last + 1, size := 0 })
def opens (s : Sto.St) (limit : Int) : Int × Sto.St × Option (Lg × List Bt) :=
  if limit < 1 ∨ 65536 < limit then (1, s, none) else if s.off = true then (8, s, none) else
  let m := mk s ⟨limit.toNat, (files s).getLastD 0, 0, 1, [], false⟩
  if m.1 ≠ 0 then (m.1, m.2.1, none) else
  (0, m.2.1, some ({ m.2.2 with next := match (there s).getLast? with | none => 1 | some z => z.1 + 1 }, there s))
def add (l : Lg) (b : List UInt8) : Int × Nat × Lg :=
  if l.broken = true then (9, 0, l) else if 60000 < b.length then (1, 0, l) else if 1099511627776 < l.next then (2, 0, l) else
  (0, l.next, { l with waiting := l.waiting ++ [(l.next, b)], next := l.next + 1 })
/-- A batch as bytes of a file. -/
def one (x : Bt) : List UInt8 := Frm.put 66 (Cod.number x.1 ++ x.2)
def bytes (l : List Bt) : List UInt8 := l.flatMap one
def room (s : Sto.St) (l : Lg) : Int × Sto.St × Lg := if s.off = true then (8, s, l) else if l.size < l.limit then (0, s, l) else mk s l
def commit (s : Sto.St) (l : Lg) : Int × Sto.St × Lg :=
  if l.broken = true then (9, s, l) else if l.waiting = [] then (0, s, l) else
  let r := room s l
  if r.1 ≠ 0 then (r.1, r.2.1, { r.2.2 with broken := true }) else
  let a := Sto.append r.2.1 (name r.2.2.last) (bytes l.waiting)
  if a.1 ≠ 0 then (a.1, a.2, { r.2.2 with broken := true }) else
  let b := Sto.sync a.2 (name r.2.2.last)
  if b.1 ≠ 0 then (b.1, b.2, { r.2.2 with broken := true }) else
  (0, b.2, { r.2.2 with size := r.2.2.size + (bytes l.waiting).length, waiting := [] })
def skip (l : Lg) (n : Int) : Int × Lg :=
  if l.broken = true then (9, l) else if n < 1 ∨ 1099511627776 < n then (1, l) else if l.waiting ≠ [] then (10, l) else (0, { l with next := max l.next n.toNat })
def next (l : Lg) : Nat := if l.broken = true then 0 else l.next
def waits (l : Lg) : Nat := if l.broken = true then 0 else l.waiting.length
end Wal
end Go.Proofs.YtekbdedpombgcaaGreatDoor
