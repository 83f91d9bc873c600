/- Parts of the proof, one behind the other: Contracts of package bytes at one byte: IndexByte, Count, Index, and Replace, ReplaceAll of one byte by some.; bytes.Replace of one byte by two.; The contracts of the program's number and text. -/
import Derived.Test.YtaiokogbhfliiaaGreatDoorMrg03
import Derived.Test.YtaiokogbhfliiaaGreatDoorMrg12
import Derived.Lib.BytesEntry
import Derived.Deep.RegionLaw
import Derived.Deep.RegionHeld
import Derived.Test.YtaiokogbhfliiaaGreatDoorMrg01
import Derived.Deep.RegionHeldLaw
import Derived.Test.YtaiokogbhfliiaaGreatDoorMrg13
import Derived.Test.YtaiokogbhfliiaaGreatDoorMrg11
namespace Go.Proofs.YtaiokogbhfliiaaGreatDoor
open Go.RowKit

section
variable {P : Program} (w : World)
theorem run_bytesOf (B : Nat) (A : Option Addr) (c : Nat) (l : List UInt8) (h : RdB w B A l) : (Extern.Bytes.bytesOf (.slice A l.length c)).run P w = .ok ⟨l.toArray⟩ w := by
  rcases A with _ | ad
  · have hl : l = [] := by
      cases l with
      | nil => rfl
      | cons b l => obtain ⟨ad, h, _⟩ := h.2 (by simp); cases h
    subst hl
    rfl
  · have e : Lib.bytesOf (l.map fun b => (b.toNat : Int)) = l := by
      simp only [Lib.bytesOf, List.map_map]
      have : (fun n : Int => n.toNat.toUInt8) ∘ (fun b : UInt8 => (b.toNat : Int)) = id := by funext b; simp
      rw [this, List.map_id]
    have hc : ∀ j x, (l.map fun b => (b.toNat : Int))[j]? = some x → w.cell? (ad.add j) = some (.int .u8 x) := by
      intro j x hx
      have hj : j < l.length := by
        have := (List.getElem?_eq_some_iff.1 hx).1
        simpa using this
      obtain ⟨ad', h1, _, h2⟩ := h.cell hj
      injection h1 with h1; subst h1
      rw [h2]
      simp [hj] at hx
      rw [hx]
    have := Lib.run_loadBytesX (P := P) w (l.map fun b => (b.toNat : Int)) ad .empty hc
    rw [e, List.length_map] at this
    simp only [Extern.Bytes.bytesOf]
    rw [this]
    congr 1
    apply ByteArray.ext
    show (#[] : Array UInt8) ++ l.toArray = l.toArray
    simp
theorem run_indexX (B : Nat) (A : Option Addr) (c : Nat) (l : List UInt8) (h : RdB w B A l) (b : UInt8) :
    (Extern.BytealgIndexByte.indexByte #[.slice A l.length c, .int .u8 (b.toNat : Int)]).run P w = .ok (.int .i64 (Lib.indexByte l b)) w := by
  have hl := run_bytesOf (P := P) w B A c l h
  have hs := Lib.run_indexByteString (P := P) ⟨l.toArray⟩ (b.toNat : Int) w
  have e : (b.toNat : Int).toNat.toUInt8 = b := by simp
  rw [e] at hs
  change Sem.run P (do
    let b ← Extern.Bytes.bytesOf (.slice A l.length c)
    let c ← Extern.Bytes.asByte (.int .u8 _)
    match (List.range b.size).find? fun i => b[i]! == c with
    | some i => pure (goInt i)
    | none => pure (goInt (-1))) w = _
  change Sem.run P (do
    let b ← Extern.Bytes.bytesOf (.string ⟨l.toArray⟩)
    let c ← Extern.Bytes.asByte (.int .u8 _)
    match (List.range b.size).find? fun i => b[i]! == c with
    | some i => pure (goInt i)
    | none => pure (goInt (-1))) w = _ at hs
  simp only [Sem.run_bind, hl, Result.andThen] at hs ⊢
  exact hs
theorem run_countX (B : Nat) (A : Option Addr) (c : Nat) (l : List UInt8) (h : RdB w B A l) (b : UInt8) :
    (Extern.BytealgCount.count #[.slice A l.length c, .int .u8 (b.toNat : Int)]).run P w = .ok (.int .i64 (l.count b : Int)) w := by
  have hl := run_bytesOf (P := P) w B A c l h
  have hs := Lib.run_countString (P := P) ⟨l.toArray⟩ (b.toNat : Int) w
  have e : (b.toNat : Int).toNat.toUInt8 = b := by simp
  rw [e] at hs
  change Sem.run P (do
    let b ← Extern.Bytes.bytesOf (.slice A l.length c)
    let c ← Extern.Bytes.asByte (.int .u8 _)
    pure (goInt (b.foldl (fun n x => if x == c then n + 1 else n) (0 : Nat)))) w = _
  change Sem.run P (do
    let b ← Extern.Bytes.bytesOf (.string ⟨l.toArray⟩)
    let c ← Extern.Bytes.asByte (.int .u8 _)
    pure (goInt (b.foldl (fun n x => if x == c then n + 1 else n) (0 : Nat)))) w = _ at hs
  simp only [Sem.run_bind, hl, Result.andThen] at hs ⊢
  exact hs
end

theorem below_kept {B : Nat} {w w' : World} {g : Nat} (h : w.grownBy w' (some g)) (hB : B ≤ w.heap.size) (hg : B ≤ g) : Below B w w' := (Below.refl B w).grown h hB (fun k hk => by injection hk with hk; omega)

end Go.Proofs.YtaiokogbhfliiaaGreatDoor

namespace Go.Proofs.YtaiokogbhfliiaaGreatDoor
open Go.RowKit

end Go.Proofs.YtaiokogbhfliiaaGreatDoor

namespace Go.Proofs.YtaiokogbhfliiaaGreatDoor
open Go.RowKit

theorem results_c3 {P : Program} {fn : Func} {p u v : Tmp} {ty : TypeId} (h : fn.results = #[.cell p ty, .tmp u, .tmp v]) (tmps : Array Value) (w : World) (g : Nat) (t : TypeId) (cs : Array Value) (fr : Nat × Nat) (d : TypeDesc)
    (hp : tmps.getD p undef = .pointer (some ⟨g, 0, none⟩)) (hg : w.heap[g]? = some (.cells cs t fr)) (hu : P.underlying ty = some d) (hd : (match d, hu with | .struct _, _ => true | .array _ _, _ => true | _, _ => false) = true) (hs : (P.info? ty).map (fun x => x.size) = some cs.size) :
    (results fn tmps).run P w = .ok (.tuple #[.agg cs, tmps.getD u undef, tmps.getD v undef]) w := by
  have h1 := results_cell_row (P := P) (fn := { fn with results := #[.cell p ty] }) (p := p) (ty := ty) rfl tmps w g t cs fr d hp hg hu hd hs
  have h2 : ((asAddr (tmps.getD p undef)).run P w).andThen (fun a w1 => (loadVar ty a).run P w1) = .ok (.agg cs) w := by
    simpa [results] using h1
  rw [hp] at h2
  have h3 : (loadVar ty ⟨g, 0, none⟩).run P w = .ok (.agg cs) w := by simpa [asAddr] using h2
  have hp2 := hp
  simp at hp2
  simp [results, h, asAddr, hp2, h3]
theorem heap_two (w : World) (o p : Obj) : ((w.alloc o).alloc p).drew.heap[w.heap.size]? = some o :=
  (heap_alloc_old (w.alloc o) p (by simp)).trans (heap_alloc_new w o)
theorem join8 {n x : Nat} (hn : n < 72057594037927936) (hx : x < 256) : bits .or .u64 ((n : Int) * 256) (x : Int) = ((n * 256 + x : Nat) : Int) := by
  have e1 : ((n : Int) * 256) = ((n * 256 : Nat) : Int) := by omega
  rw [e1, u64_or_nat _ _ (by omega) (by omega), nat_join8 (n * 256) x (by omega) (by omega)]
def PtV (p : Pt) : Value := .agg #[.bool p.t, .int .u64 (p.n : Int), .string p.s]
/-- What was taken: a part, as Go's three results. -/
def TakenP (w : World) (B : Nat) (v : Option (Pt × List UInt8)) (e : Ending) (w' : World) : Prop :=
  Below w.heap.size w w' ∧ match v with
  | none => e = .returned (.tuple #[PtV ⟨false, 0, .empty⟩, .slice none 0 0, .int .i64 3])
  | some (p, y) => ∃ A c, e = .returned (.tuple #[PtV p, .slice A y.length c, .int .i64 0]) ∧ y.length ≤ c ∧ c ≤ 9223372036854775807 ∧ RdB w' B A y
theorem rdB_on2 {w w' : World} {B : Nat} {A : Option Addr} {l : List UInt8} (h : RdB w B A l) (hb : Below w.heap.size w w') (hB : B ≤ w.heap.size) : RdB w' B A l := h.below hb hB
theorem takenP_none {w w' : World} {B : Nat} {v : Option (Pt × List UInt8)} (hv : v = none) (hb : Below w.heap.size w w') : TakenP w B v (.returned (.tuple #[PtV ⟨false, 0, .empty⟩, .slice none 0 0, .int .i64 3])) w' := by
  subst hv; exact ⟨hb, rfl⟩

theorem takenP_some {w w' : World} {B : Nat} {v : Option (Pt × List UInt8)} {p q : Pt} {y : List UInt8} {A : Option Addr} {k c : Nat} (hv : v = some (p, y)) (hb : Below w.heap.size w w') (hpq : q = p) (hk : k = y.length) (hc : y.length ≤ c) (hcc : c ≤ 9223372036854775807) (hr : RdB w' B A y) :
    TakenP w B v (.returned (.tuple #[PtV q, .slice A k c, .int .i64 0])) w' := by
  subst hv hpq hk; exact ⟨hb, A, c, rfl, hc, hcc, hr⟩
end Go.Proofs.YtaiokogbhfliiaaGreatDoor
