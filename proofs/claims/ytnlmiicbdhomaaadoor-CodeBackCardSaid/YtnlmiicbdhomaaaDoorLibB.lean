/- Contracts of package bytes at one byte: IndexByte, Count, Index, and Replace, ReplaceAll of one byte by some. -/
import Derived.Test.YtnlmiicbdhomaaaDoorCodA
import Derived.Test.YtnlmiicbdhomaaaDoorEsc
import Derived.Lib.BytesEntry
import Derived.Deep.RegionLaw
import Derived.Deep.RegionHeld
namespace Go.Proofs.YtnlmiicbdhomaaaDoor
open Go.RowKit

section
variable {P : Program} (w : World)
theorem run_bytesOf (B : Nat) (A : Option Addr) (c : Nat) (l : List UInt8) (h : RdB w B A l) : (Extern.Bytes.bytesOf (.slice A l.length c)).run P w = .ok ⟨l.toArray⟩ w := by
  rcases A with _ | ad
  · have hl : l = [] := by
      cases l with
      | nil => rfl
      | cons b l => obtain ⟨ad, h, _⟩ := h.2 (by simp); cases h
    subst hl
    rfl
  · have e : Lib.bytesOf (l.map fun b => (b.toNat : Int)) = l := by
      simp only [Lib.bytesOf, List.map_map]
      have : (fun n : Int => n.toNat.toUInt8) ∘ (fun b : UInt8 => (b.toNat : Int)) = id := by funext b; simp
      rw [this, List.map_id]
    have hc : ∀ j x, (l.map fun b => (b.toNat : Int))[j]? = some x → w.cell? (ad.add j) = some (.int .u8 x) := by
      intro j x hx
      have hj : j < l.length := by
        have := (List.getElem?_eq_some_iff.1 hx).1
        simpa using this
      obtain ⟨ad', h1, _, h2⟩ := h.cell hj
      injection h1 with h1; subst h1
      rw [h2]
      simp [hj] at hx
      rw [hx]
    have := Lib.run_loadBytesX (P := P) w (l.map fun b => (b.toNat : Int)) ad .empty hc
    rw [e, List.length_map] at this
    simp only [Extern.Bytes.bytesOf]
    rw [this]
    congr 1
    apply ByteArray.ext
    show (#[] : Array UInt8) ++ l.toArray = l.toArray
    simp
theorem run_indexX (B : Nat) (A : Option Addr) (c : Nat) (l : List UInt8) (h : RdB w B A l) (b : UInt8) :
    (Extern.BytealgIndexByte.indexByte #[.slice A l.length c, .int .u8 (b.toNat : Int)]).run P w = .ok (.int .i64 (Lib.indexByte l b)) w := by
  have hl := run_bytesOf (P := P) w B A c l h
  have hs := Lib.run_indexByteString (P := P) ⟨l.toArray⟩ (b.toNat : Int) w
  have e : (b.toNat : Int).toNat.toUInt8 = b := by simp
  rw [e] at hs
  change Sem.run P (do
    let b ← Extern.Bytes.bytesOf (.slice A l.length c)
    let c ← Extern.Bytes.asByte (.int .u8 _)
    match (List.range b.size).find? fun i => b[i]! == c with
    | some i => pure (goInt i)
    | none => pure (goInt (-1))) w = _
  change Sem.run P (do
    let b ← Extern.Bytes.bytesOf (.string ⟨l.toArray⟩)
    let c ← Extern.Bytes.asByte (.int .u8 _)
    match (List.range b.size).find? fun i => b[i]! == c with
    | some i => pure (goInt i)
    | none => pure (goInt (-1))) w = _ at hs
  simp only [Sem.run_bind, hl, Result.andThen] at hs ⊢
  exact hs
theorem run_countX (B : Nat) (A : Option Addr) (c : Nat) (l : List UInt8) (h : RdB w B A l) (b : UInt8) :
    (Extern.BytealgCount.count #[.slice A l.length c, .int .u8 (b.toNat : Int)]).run P w = .ok (.int .i64 (l.count b : Int)) w := by
  have hl := run_bytesOf (P := P) w B A c l h
  have hs := Lib.run_countString (P := P) ⟨l.toArray⟩ (b.toNat : Int) w
  have e : (b.toNat : Int).toNat.toUInt8 = b := by simp
  rw [e] at hs
  change Sem.run P (do
    let b ← Extern.Bytes.bytesOf (.slice A l.length c)
    let c ← Extern.Bytes.asByte (.int .u8 _)
    pure (goInt (b.foldl (fun n x => if x == c then n + 1 else n) (0 : Nat)))) w = _
  change Sem.run P (do
    let b ← Extern.Bytes.bytesOf (.string ⟨l.toArray⟩)
    let c ← Extern.Bytes.asByte (.int .u8 _)
    pure (goInt (b.foldl (fun n x => if x == c then n + 1 else n) (0 : Nat)))) w = _ at hs
  simp only [Sem.run_bind, hl, Result.andThen] at hs ⊢
  exact hs
end

theorem indexByte_any (B : Nat) (A : Option Addr) (c : Nat) (l : List UInt8) (b : UInt8) (w : World) (h : RdB w B A l) :
    Calls Tryd.prog 37 #[.slice A l.length c, .int .u8 (b.toNat : Int)] w fun e w' => e = .returned (.int .i64 (Lib.indexByte l b)) ∧ w = w' := by
  have hx := run_indexX (P := Tryd.prog) w B A c l h b
  go_enter Tryd.func37, Tryd.ntmps37
  go_wp2
  rw [run_callFunc_extern Tryd.func41 (by kernel_rfl) (by kernel_rfl) (by kernel_rfl) (e := Extern.BytealgIndexByte.indexByte) (by kernel_rfl), hx]
  simp only [Result.andThen]
  rw [Oper.upon_value]
  go_wp2
  go_ret
  exact ⟨rfl, rfl⟩

theorem count_one (B : Nat) (A : Option Addr) (c g c2 : Nat) (l : List UInt8) (b : UInt8) (w : World) (h : RdB w B A l) (hc : w.cell? ⟨g, 0, none⟩ = some (.int .u8 (b.toNat : Int))) :
    Calls Tryd.prog 38 #[.slice A l.length c, .slice (some ⟨g, 0, none⟩) 1 c2] w fun e w' => e = .returned (.int .i64 (l.count b : Int)) ∧ w = w' := by
  have hx := run_countX (P := Tryd.prog) w B A c l h b
  go_enter Tryd.func38, Tryd.ntmps38
  go_wp2
  rw [run_callFunc_extern Tryd.func43 (by kernel_rfl) (by kernel_rfl) (by kernel_rfl) (e := Extern.BytealgCount.count) (by kernel_rfl), hx]
  simp only [Result.andThen]
  rw [Oper.upon_value]
  go_wp2
  go_ret
  exact ⟨rfl, rfl⟩

set_option maxRecDepth 100000 in
theorem index_one (B : Nat) (A : Option Addr) (c g c2 : Nat) (l : List UInt8) (b : UInt8) (w : World) (h : RdB w B A l) (hc : w.cell? ⟨g, 0, none⟩ = some (.int .u8 (b.toNat : Int))) :
    Calls Tryd.prog 39 #[.slice A l.length c, .slice (some ⟨g, 0, none⟩) 1 c2] w fun e w' => e = .returned (.int .i64 (Lib.indexByte l b)) ∧ w = w' := by
  go_enter Tryd.func39, Tryd.ntmps39
  go_wp2_with fail
  refine (indexByte_any B A c l b _ h).mono ?_
  rintro e w1 ⟨rfl, rfl⟩
  go_wp2_with fail
  go_ret
  exact ⟨rfl, rfl⟩

theorem index_one' (B : Nat) (A : Option Addr) (n c g c2 : Nat) (l : List UInt8) (b : UInt8) (w : World) (hn : n = l.length) (h : RdB w B A l) (hc : w.cell? ⟨g, 0, none⟩ = some (.int .u8 (b.toNat : Int))) (i : Int) (hi : Lib.indexByte l b = i) :
    Calls Tryd.prog 39 #[.slice A n c, .slice (some ⟨g, 0, none⟩) 1 c2] w fun e w' => e = .returned (.int .i64 i) ∧ w = w' := by
  subst hn hi
  exact index_one B A c g c2 l b w h hc

theorem below_kept {B : Nat} {w w' : World} {g : Nat} (h : w.grownBy w' (some g)) (hB : B ≤ w.heap.size) (hg : B ≤ g) : Below B w w' := (Below.refl B w).grown h hB (fun k hk => by injection hk with hk; omega)

/-- A byte replaced by one byte or more: bytes.Replace(s, []byte{o}, nw, -1). -/
theorem replace_none (A : Option Addr) (c g c2 : Nat) (A3 : Option Addr) (c3 : Nat) (l nw : List UInt8) (o : UInt8) (w : World) (h : RdB w w.heap.size A l) (hc : w.cell? ⟨g, 0, none⟩ = some (.int .u8 (o.toNat : Int)))
    (h0 : l.count o = 0) (hlen : l.length ≤ 140737488355328) :
    Calls Tryd.prog 36 #[.slice A l.length c, .slice (some ⟨g, 0, none⟩) 1 c2, .slice A3 nw.length c3, .int .i64 (-1)] w fun e w' =>
      ∃ A' c', e = .returned (.slice A' l.length c') ∧ Own w' w.heap.size 5 A' c' l ∧ Below w.heap.size w w' := by
  have C := count_one w.heap.size A c g c2 l o w h hc
  rw [h0] at C
  have HC := Lib.hid C; clear C h0
  go_enter Tryd.func36, Tryd.ntmps36
  go_wp2_with fail
  refine HC.out.mono ?_
  rintro e w1 ⟨rfl, rfl⟩
  go_wp2_with (at_builtin; refine wpList_append_b _ rfl _ _ bt rfl w.heap.size none 0 [] rfl (Own.nil _ _ _) _ A l.length c l rfl rfl h (by simpa using hlen) (Nat.le_refl _) ?_; intro A' c' L' w2 hL ho1 hg1 _; have HL := Lib.hid hL; clear hL)
  go_ret
  have e : L' = l := by rw [HL.out]; rfl
  subst e
  exact ⟨A', c', rfl, ho1, (Below.refl _ _).grown hg1 (Nat.le_refl _) (fun k hk => by simp [blk] at hk)⟩
end Go.Proofs.YtnlmiicbdhomaaaDoor
