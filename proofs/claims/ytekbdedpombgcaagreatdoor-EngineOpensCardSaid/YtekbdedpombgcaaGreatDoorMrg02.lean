/- Parts of the proof, one behind the other: Contracts of the check sums: the program's and the reference's.; Rows of elements of any kind, n cells each, of the call's own: reading, append, make. Over any program.; Contracts: engine.within, the law's right.; slices.Reverse at bytes, over a row of the call's own. -/
import Derived.Test.YtekbdedpombgcaaGreatDoorProg
import Derived.Test.YtekbdedpombgcaaGreatDoorMrg01
import Derived.WalkKit
import Derived.Tactics2
import Derived.Lib.Hide
import Derived.Laws.Bits64b
import Derived.Laws.MakeOwn
import Derived.Deep.RegionLaw
import Derived.BigRegion
import Derived.BigQuiet
import Derived.Deep.QuietTactic
import Derived.ChangeAlike
namespace Go.Proofs.YtekbdedpombgcaaGreatDoor
open Go.RowKit

namespace Chk
/-- One byte more. -/
def stp (s : Nat) (c : UInt8) : Nat := (s * 16807 + c.toNat + 1) % 2147483647
/-- The check sum. -/
def sum (l : List UInt8) : Nat := l.foldl stp 0
theorem stp_lt (s : Nat) (c : UInt8) : stp s c < 2147483647 := Nat.mod_lt _ (by decide)
theorem sum_lt (l : List UInt8) : sum l < 2147483647 := by
  unfold sum
  suffices H : ∀ (l : List UInt8) (s : Nat), s < 2147483647 → l.foldl stp s < 2147483647 from H l 0 (by decide)
  intro l
  induction l with
  | nil => intro s h; exact h
  | cons c l ih => intro s _; exact ih _ (stp_lt s c)
theorem sum_take_succ (l : List UInt8) (k : Nat) (h : k < l.length) : sum (l.take (k + 1)) = stp (sum (l.take k)) l[k] := by
  unfold sum
  rw [List.take_succ_eq_append_getElem h, List.foldl_append]; rfl
end Chk
theorem and_31 (x : Nat) (hx : x < 18446744073709551616) : bits .and .u64 (x : Int) 2147483647 = ((x % 2147483648 : Nat) : Int) := by
  have h := bits_and_u64_nat x 2147483647 hx (by decide)
  rw [show x &&& 2147483647 = x % 2147483648 from Nat.and_two_pow_sub_one_eq_mod x 31] at h
  exact h
set_option maxHeartbeats 400000 in
theorem rest_any (n : Nat) (hn : n < 144115188075855872) (w : World) : Calls Tryz.prog 246 #[.int .u64 (n : Int)] w fun e w' => e = .returned (.int .u64 ((n % 2147483647 : Nat) : Int)) ∧ w = w' := by
  obtain ⟨q, hq⟩ : ∃ q, q = n % 2147483647 := ⟨_, rfl⟩
  rw [← hq]
  have HQ := Lib.hid hq; clear hq
  go_enter Tryz.func246, Tryz.ntmps246
  go_wp2
  go_loop [0] (fun i => ∃ m : Nat, i = .int .u64 (m : Int) ∧ m < 144115188075855872 ∧ Hid (m % 2147483647 = q)) (fun i => (intOf i).toNat)
  case atStart => exact ⟨n, rfl, hn, Lib.hid HQ.out.symm⟩
  case round =>
    obtain ⟨m, rfl, hm, HI⟩ := hrel
    by_cases hlt : 2147483647 < m
    · obtain ⟨y, hy⟩ : ∃ y, y = m % 2147483648 + m / 2147483648 := ⟨_, rfl⟩
      have e2 : IntKind.u64.wrap (bits .and .u64 (m : Int) 2147483647 + (m : Int) / 2147483648) = (y : Int) := by
        rw [and_31 m (by omega), IntKind.wrap_u64]; omega
      have HY : Hid (y < m ∧ y % 2147483647 = q) := Lib.hid ⟨by omega, by rw [← HI.out, hy]; omega⟩
      have hy2 : y < 144115188075855872 := by omega
      clear hy
      go_wp2
      go_round
      case rel => exact ⟨y, rfl, hy2, Lib.hid HY.out.2⟩
      case measure => have := HY.out.1; simp [intOf]; omega
    · have e2 : (m : Int) % 2147483647 = (q : Int) := by have := HI.out; omega
      go_wp2
      go_ret
      exact ⟨rfl, rfl⟩
theorem sumis_any (g c : Nat) (w : World) (h : w.cell? ⟨g, 0, none⟩ = some (.int .u32 0)) :
    Calls Tryz.prog 245 #[.slice (some ⟨g, 0, none⟩) 1 c] w fun e w' => e = .returned (.bool true) ∧ w = w' := by
  go_enter Tryz.func245, Tryz.ntmps245
  go_wp2
  go_loop [7] (fun i => ∃ k : Nat, k ≤ 1 ∧ i = .int .i64 (k : Int)) (fun i => 1 - (intOf i).toNat)
  case atStart => exact ⟨0, by omega, rfl⟩
  case round =>
    obtain ⟨k, hk, rfl⟩ := hrel
    by_cases h0 : k = 0
    · subst h0
      go_wp2
      go_round
      case rel => exact ⟨1, by omega, by go_num⟩
      case measure => simp [intOf]
    · have h1 : k = 1 := by omega
      subst h1
      clear h0
      go_wp2
      go_ret
      exact ⟨rfl, rfl⟩
set_option maxHeartbeats 1000000 in
theorem chkadd_any (A : Option Addr) (c : Nat) (l : List UInt8) (w : World) (h : RdB w w.heap.size A l) (hl : l.length ≤ 140737488355328) :
    Calls Tryz.prog 214 #[.int .u32 0, .slice A l.length c] w fun e w' => e = .returned (.tuple #[.int .u32 (Chk.sum l : Int), .int .i64 0]) ∧ Below w.heap.size w w' := by
  have K1 := Lib.hid (sumis_any w.heap.size 1 (w.alloc (.cells #[.int .u32 0] 130)) (by simp))
  have HR := Lib.hid h; clear h
  go_enter Tryz.func214, Tryz.ntmps214
  go_wp2_with fail
  refine K1.out.mono ?_
  rintro e w' ⟨rfl, rfl⟩
  go_wp2_with fail
  go_loop [6, 17] (fun s i => ∃ k : Nat, k ≤ l.length ∧ i = .int .i64 (k : Int) ∧ ∃ S : Nat, S < 2147483647 ∧ s = .int .u64 (S : Int) ∧ Hid (S = Chk.sum (l.take k))) (fun _ i => l.length - (intOf i).toNat)
  case atStart => exact ⟨0, by omega, rfl, 0, by omega, rfl, Lib.hid rfl⟩
  case round =>
    obtain ⟨k, hk, rfl, S, hS, rfl, HS⟩ := hrel
    by_cases hlt : k < l.length
    · obtain ⟨ad, rfl, _, hc⟩ := (HR.out.alloc (Nat.le_refl _) (.cells #[.int .u32 0] 130)).cell hlt
      have HST := Lib.hid (Chk.sum_take_succ l k hlt)
      obtain ⟨x, hx⟩ : ∃ x, x = l[k] := ⟨_, rfl⟩
      rw [← hx] at hc HST
      clear hx
      obtain ⟨X, hX⟩ : ∃ X : Nat, X = x.toNat := ⟨_, rfl⟩
      have hX2 : X < 256 := by rw [hX]; exact x.toNat_lt
      rw [← hX] at hc
      have HX := Lib.hid hX; clear hX
      have KR : Hid (∀ w, Calls Tryz.prog 246 #[.int .u64 ((S : Int) * 16807 + (X : Int) + 1)] w fun e w' => e = .returned (.int .u64 ((Chk.stp S x : Nat) : Int)) ∧ w = w') := Lib.hid fun w => (by
        have := rest_any (S * 16807 + X + 1) (by omega) w
        rw [show ((S * 16807 + X + 1 : Nat) : Int) = (S : Int) * 16807 + (X : Int) + 1 by omega, show (S * 16807 + X + 1) % 2147483647 = Chk.stp S x by unfold Chk.stp; rw [HX.out]] at this
        exact this)
      obtain ⟨S2, hS2⟩ : ∃ S2, S2 = Chk.stp S x := ⟨_, rfl⟩
      have hS3 : S2 < 2147483647 := by rw [hS2]; exact Chk.stp_lt _ _
      rw [← hS2] at KR
      have HS2 : Hid (S2 = Chk.sum (l.take (k + 1))) := Lib.hid (by rw [HST.out, ← HS.out, hS2])
      clear hS2
      go_wp2_with fail
      refine (KR.out _).mono ?_
      rintro e w' ⟨rfl, rfl⟩
      go_wp2_with fail
      go_round
      case rel => exact ⟨k + 1, by omega, by go_num, S2, hS3, rfl, HS2⟩
      case measure => simp [intOf]; omega
    · have HE : Hid (S = Chk.sum l) := Lib.hid (by rw [HS.out, List.take_of_length_le (by omega)])
      have e1 : IntKind.u32.wrap (S : Int) = (S : Int) := by rw [IntKind.wrap_u32]; omega
      go_wp2_with fail
      go_ret2
      exact ⟨by rw [HE.out]; rfl, (Below.refl _ _).alloc (Nat.le_refl _) _⟩
theorem chksum_any (A : Option Addr) (c : Nat) (l : List UInt8) (w : World) (h : RdB w w.heap.size A l) (hl : l.length ≤ 140737488355328) :
    Calls Tryz.prog 182 #[.slice A l.length c] w fun e w' => e = .returned (.int .u32 (Chk.sum l : Int)) ∧ Below w.heap.size w w' := by
  have K := Lib.hid (chkadd_any A c l w h hl)
  clear h
  obtain ⟨S, hS⟩ : ∃ S, S = Chk.sum l := ⟨_, rfl⟩
  rw [← hS] at K ⊢
  clear hS
  go_enter Tryz.func182, Tryz.ntmps182
  go_wp2_with fail
  refine K.out.mono ?_
  rintro e w1 ⟨rfl, hb⟩
  have HB := Lib.hid hb; clear hb
  go_wp2_with fail
  go_ret
  exact ⟨rfl, HB.out⟩
end Go.Proofs.YtekbdedpombgcaaGreatDoor

namespace Go.Proofs.YtekbdedpombgcaaGreatDoor
open Go.RowKit

/-- How a value's cells stand in a row: t the slice's type, e the element's. -/
structure RT (P : Program) (t e : TypeId) {α : Type} (f : α → List Value) (n bytes : Nat) (z : Value) : Prop where
  sl : P.underlying t = some (.slice e)
  info : (P.info? e).map (fun i => (i.zero, i.size, i.bytes)) = some (some z, n, bytes)
  len : ∀ a, (f a).length = n
  one : ∀ a, ∀ u ∈ f a, u.oneCell' = true
  pos : 0 < n
  zlen : z.cells.size = n
section
variable {α : Type} {f : α → List Value} {n : Nat}
theorem fm_len (hf : ∀ a, (f a).length = n) (l : List α) : (l.flatMap f).length = l.length * n := by
  induction l with
  | nil => simp
  | cons p l ih => rw [List.flatMap_cons, List.length_append, ih, hf, List.length_cons, Nat.succ_mul]; omega
theorem fm_get (hf : ∀ a, (f a).length = n) (l : List α) (k : Nat) (hk : k < l.length) (j : Nat) (hj : j < n) : (l.flatMap f)[k * n + j]? = (f l[k])[j]? := by
  induction l generalizing k with
  | nil => simp at hk
  | cons p l ih =>
    rw [List.flatMap_cons]
    match k with
    | 0 =>
      rw [List.getElem?_append_left (by rw [hf]; omega)]
      simp
    | k + 1 =>
      rw [List.getElem?_append_right (by rw [hf, Nat.succ_mul]; omega)]
      have e : (k + 1) * n + j - (f p).length = k * n + j := by rw [hf, Nat.succ_mul]; omega
      rw [e]
      exact ih k (by simpa using hk)
theorem fm_one (h : ∀ a, ∀ u ∈ f a, u.oneCell' = true) (l : List α) : ∀ u ∈ l.flatMap f, u.oneCell' = true := by
  intro u hu
  simp only [List.mem_flatMap] at hu
  obtain ⟨a, _, ha⟩ := hu
  exact h a u ha
theorem fm_drop (hf : ∀ a, (f a).length = n) (l : List α) (k : Nat) : (l.drop k).flatMap f = (l.flatMap f).drop (k * n) := by
  induction k generalizing l with
  | zero => simp
  | succ k ih =>
    cases l with
    | nil => simp
    | cons p l =>
      rw [List.drop_succ_cons, ih, List.flatMap_cons, Nat.succ_mul, Nat.add_comm (k * n) n, ← List.drop_drop, List.drop_append_of_le_length (by rw [hf]; omega), show (f p).drop n = [] from List.drop_eq_nil_of_le (by rw [hf]; omega), List.nil_append]
theorem fm_take (hf : ∀ a, (f a).length = n) (l : List α) (k : Nat) : (l.take k).flatMap f = (l.flatMap f).take (k * n) := by
  induction k generalizing l with
  | zero => simp
  | succ k ih =>
    cases l with
    | nil => simp
    | cons p l =>
      rw [List.take_succ_cons, List.flatMap_cons, List.flatMap_cons, ih, Nat.succ_mul, List.take_append, hf, List.take_of_length_le (l := f p) (by rw [hf]; omega), Nat.add_sub_cancel]
end
/-- A slice reads as l. -/
def RdS {α : Type} (f : α → List Value) (n : Nat) (w : World) (B : Nat) (A : Option Addr) (l : List α) : Prop := Reads w B n A l.length (l.flatMap f)
/-- A slice, the call's own (from block 'base' on), reads as l. -/
def OwnS {α : Type} (f : α → List Value) (n : Nat) (w : World) (base : Nat) (e : TypeId) (A : Option Addr) (c : Nat) (l : List α) : Prop := w.ownsRow base e n (.slice A l.length c) l.length (l.flatMap f)
section
variable {α : Type} {f : α → List Value} {n : Nat} {w w' : World} {B base : Nat} {e : TypeId} {A : Option Addr} {c : Nat} {l : List α}
theorem RdS.keep (h : RdS f n w B A l) (hk : ∀ p : Addr, p.block < B → w'.cell? p = w.cell? p) : RdS f n w' B A l := Reads.keep h hk
theorem RdS.below {D : Nat} (h : RdS f n w B A l) (hb : Below D w w') (hD : B ≤ D) : RdS f n w' B A l := Reads.below h hb hD
theorem RdS.alloc (h : RdS f n w B A l) (hB : B ≤ w.heap.size) (o : Obj) : RdS f n (w.alloc o) B A l := Reads.alloc h hB o
theorem RdS.more {B' : Nat} (h : RdS f n w B A l) (hB : B ≤ B') : RdS f n w B' A l := Reads.more h hB
theorem RdS.nil : RdS f n w B A [] := Reads.none_
theorem RdS.grown (h : RdS f n w B A l) {row : Option Nat} (hg : w.grownBy w' row) (hB : B ≤ w.heap.size) (hr : ∀ g, row = some g → B ≤ g) : RdS f n w' B A l := Reads.grown h hg hB hr
/-- The row as one address and the cells of each element. -/
theorem RdS.row (hf : ∀ a, (f a).length = n) (hn : 0 < n) (h : RdS f n w B A l) (hl : 0 < l.length) :
    ∃ b off, A = some ⟨b, off, none⟩ ∧ b < B ∧ ∀ k (hk : k < l.length) j u, (f l[k])[j]? = some u → w.cell? ⟨b, off + k * n + j, none⟩ = some u := by
  obtain ⟨ad, hA, hb, hc⟩ := h.2 hl
  obtain ⟨b, off, spot⟩ := ad
  have hu : (f l[0])[0]? = some ((f l[0])[0]'(by rw [hf]; exact hn)) := List.getElem?_eq_getElem _
  have h0 := hc (0 * n + 0) _ (by rw [fm_get hf l 0 hl 0 hn]; exact hu)
  have hsp : spot = none := by
    cases spot with
    | none => rfl
    | some s =>
      simp only [Addr.add, if_pos, Nat.zero_mul] at h0
      unfold World.cell? at h0
      simp only [Option.isSome_some, if_true] at h0
      split at h0 <;> cases h0
  subst hsp
  have hadd : ∀ j, (⟨b, off, none⟩ : Addr).add j = ⟨b, off + j, none⟩ := by intro j; unfold Addr.add; split <;> simp_all
  refine ⟨b, off, hA, hb, fun k hk j u hj => ?_⟩
  have hjn : j < n := by
    rcases Nat.lt_or_ge j n with h | h
    · exact h
    · rw [List.getElem?_eq_none (by rw [hf]; exact h)] at hj; cases hj
  have := hc (k * n + j) u (by rw [fm_get hf l k hk j hjn]; exact hj)
  rw [hadd, ← Nat.add_assoc] at this
  exact this
/-- A row that reads so, out of its cells. -/
theorem RdS.of (hf : ∀ a, (f a).length = n) (b off : Nat) (hb : b < B) (hc : ∀ k (hk : k < l.length) j u, (f l[k])[j]? = some u → w.cell? ⟨b, off + k * n + j, none⟩ = some u) : RdS f n w B (some ⟨b, off, none⟩) l := by
  refine ⟨fm_len hf l, fun hl => ⟨_, rfl, hb, fun j u hj => ?_⟩⟩
  have hadd : (⟨b, off, none⟩ : Addr).add j = ⟨b, off + j, none⟩ := by unfold Addr.add; split <;> simp_all
  rw [hadd]
  rcases Nat.eq_zero_or_pos n with h0 | hn
  · have : (l.flatMap f).length = 0 := by rw [fm_len hf l, h0, Nat.mul_zero]
    rw [List.getElem?_eq_none (by omega)] at hj; cases hj
  have hjl : j < l.length * n := by
    rcases Nat.lt_or_ge j (l.length * n) with h | h
    · exact h
    · rw [List.getElem?_eq_none (by rw [fm_len hf l]; exact h)] at hj; cases hj
  have hq : j / n < l.length := Nat.div_lt_of_lt_mul (by rw [Nat.mul_comm]; exact hjl)
  have hr : j % n < n := Nat.mod_lt _ hn
  have e : j / n * n + j % n = j := by rw [Nat.mul_comm]; exact Nat.div_add_mod j n
  have h1 := fm_get hf l (j / n) hq (j % n) hr
  rw [e] at h1
  have := hc (j / n) hq (j % n) u (by rw [← h1]; exact hj)
  rw [Nat.add_assoc, e] at this
  exact this
theorem RdS.take (hf : ∀ a, (f a).length = n) (h : RdS f n w B A l) {k : Nat} (hk : k ≤ l.length) : RdS f n w B A (l.take k) := by
  refine ⟨fm_len hf _, fun hp => ?_⟩
  have hp' : 0 < l.length := by rw [List.length_take] at hp; omega
  obtain ⟨ad, rfl, hb, hcell⟩ := h.2 hp'
  refine ⟨ad, rfl, hb, fun j u hu => hcell j u ?_⟩
  rw [fm_take hf, List.getElem?_take] at hu
  split at hu
  · exact hu
  · cases hu
theorem RdS.drop (hf : ∀ a, (f a).length = n) (h : RdS f n w B A l) {k cap : Nat} (hk : k ≤ l.length) (hc : l.length ≤ cap) : RdS f n w B (if cap = k then A else A.map (·.add (k * n))) (l.drop k) := by
  refine ⟨fm_len hf _, fun hp => ?_⟩
  rw [List.length_drop] at hp
  obtain ⟨ad, rfl, hb, hcell⟩ := h.2 (by omega)
  rw [if_neg (by omega)]
  refine ⟨ad.add (k * n), rfl, by rw [block_of_add]; exact hb, fun j u hu => ?_⟩
  rw [add_of_add]
  exact hcell _ u (by rw [← hu, fm_drop hf, List.getElem?_drop])
theorem OwnS.rd (h : OwnS f n w base e A c l) : RdS f n w w.heap.size A l := Reads.of_own h
theorem OwnS.cap (h : OwnS f n w base e A c l) : l.length ≤ c := by
  rcases h.2 with ⟨hv, hn⟩ | ⟨g, cap, cur, hv, _, _, hc, _⟩
  · omega
  · injection hv with _ _ h3; omega
theorem OwnS.kept {row : Option Nat} (h : OwnS f n w base e A c l) (hg : w.grownBy w' row) (hne : blk A = none ∨ blk A ≠ row) : OwnS f n w' base e A c l :=
  World.ownsRow.kept h hg (by rw [ownBlock_slice]; exact hne)
theorem OwnS.keep (h : OwnS f n w base e A c l) (hb : ∀ g, blk A = some g → w'.heap[g]? = w.heap[g]?) : OwnS f n w' base e A c l := by
  unfold OwnS at h ⊢
  refine ⟨h.1, ?_⟩
  rcases h.2 with h2 | ⟨g, cap, cur, hv, hg, hh, r⟩
  · exact .inl h2
  · refine .inr ⟨g, cap, cur, hv, hg, ?_, r⟩
    injection hv with hv
    rw [hb g (by rw [hv]; rfl)]
    exact hh
theorem OwnS.alloc (h : OwnS f n w base e A c l) (o : Obj) : OwnS f n (w.alloc o) base e A c l := World.ownsRow.alloc h o
theorem OwnS.below (h : OwnS f n w base e A c l) (hb : Below w.heap.size w w') : OwnS f n w' base e A c l :=
  World.ownsRow.kept (row := none) h ⟨hb.os, hb.tape, hb.output, hb.size, fun k hk _ => hb.block k hk⟩ (by cases A <;> simp [Value.ownBlock])
theorem OwnS.mono {base' : Nat} (h : OwnS f n w base e A c l) (hb : base' ≤ base) : OwnS f n w base' e A c l := by
  refine ⟨h.1, ?_⟩
  rcases h.2 with h2 | ⟨g, cap, cur, hv, hg, r⟩
  · exact .inl h2
  · exact .inr ⟨g, cap, cur, hv, by omega, r⟩
theorem OwnS.blk_ge (h : OwnS f n w base e A c l) : ∀ g, blk A = some g → base ≤ g ∧ g < w.heap.size := by
  intro g hg
  refine World.ownsRow.lt h g ?_
  cases A with
  | none => simp [blk] at hg
  | some a => simpa [Value.ownBlock, blk] using hg
theorem OwnS.nil (w : World) (base : Nat) (e : TypeId) : OwnS f n w base e none 0 [] := World.ownsRow_nil _ _ _ _
/-- The row is a block of cells of its own, from its first cell on. -/
theorem OwnS.form (h : OwnS f n w base e A c l) (hl : 0 < l.length) : ∃ g cur, A = some ⟨g, 0, none⟩ ∧ base ≤ g ∧ g < w.heap.size ∧ w.heap[g]? = some (.cells cur e) := by
  rcases h.2 with ⟨_, hn⟩ | ⟨g, cap, cur, hv, hg, hh, _⟩
  · omega
  · injection hv with hv
    subst hv
    exact ⟨g, cur, rfl, hg, (h.blk_ge g rfl).2, hh⟩
end

section
variable {P : Program} {α : Type} {f : α → List Value} {n bytes : Nat} {z : Value} {t e : TypeId} (w : World)
theorem run_append_s (T : RT P t e f n bytes z) (ty : TypeId) (base : Nat) (A : Option Addr) (c : Nat) (l : List α) (hown : OwnS f n w base e A c l)
    (B : Nat) (A2 : Option Addr) (m c2 : Nat) (l2 : List α) (hm : m = l2.length) (hr : RdS f n w B A2 l2) (hlen : (l.length + l2.length) * bytes ≤ 140737488355328) (hl2 : l.length + l2.length ≤ maxLen) (hbase : base ≤ w.heap.size) :
    ∃ A' c' w', (Builtin.append_ #[t, t] ty #[.slice A l.length c, .slice A2 m c2]).run P w = .ok (.slice A' (l ++ l2).length c') w' ∧ OwnS f n w' base e A' c' (l ++ l2) ∧ w.grownBy w' (blk A) ∧
      (blk A' = blk A ∨ blk A' = some w.heap.size) := by
  subst hm
  obtain ⟨i, hi, hz0, hz1, hz2⟩ := info_parts T.info
  obtain ⟨v', w', hrun, h2, h3, h4⟩ := run_append_any (P := P) w base t ty e i _ n bytes T.sl hi hz0 hz1 hz2 T.zlen T.pos (.slice A l.length c) l.length (l.flatMap f) hown B A2 l2.length c2 (l2.flatMap f) hr (fm_one T.one l2)
    hl2 hlen hbase
  rw [ownBlock_slice] at h3 h4
  have hv : ∃ A' c', v' = .slice A' (l ++ l2).length c' := by
    rw [List.length_append]
    rcases h2.2 with ⟨hv, hn⟩ | ⟨g, cap, cur, hv, _⟩
    · exact ⟨none, 0, by rw [hv, hn]⟩
    · exact ⟨_, _, hv⟩
  obtain ⟨A', c', rfl⟩ := hv
  rw [ownBlock_slice] at h4
  refine ⟨A', c', w', hrun, ?_, h3, h4⟩
  unfold OwnS
  rw [List.flatMap_append]
  rw [List.length_append] at h2 ⊢
  exact h2
theorem wp_append_s {o : Oper} {a : Act} {K : Act → World → Prop} {Q : Exit → Act → World → Prop} (s x : Operand) (T : RT P t e f n bytes z)
    (ho : o.op = .call { callee := .builtin .append, args := #[s, x], argTypes := #[t, t] })
    (base : Nat) (A : Option Addr) (c : Nat) (l : List α) (hs : a.eval s = .slice A l.length c) (hown : OwnS f n w base e A c l)
    (B : Nat) (A2 : Option Addr) (m c2 : Nat) (l2 : List α) (hx : a.eval x = .slice A2 m c2) (hm : m = l2.length) (hr : RdS f n w B A2 l2) (hlen : (l.length + l2.length) * bytes ≤ 140737488355328) (hl2 : l.length + l2.length ≤ maxLen) (hbase : base ≤ w.heap.size)
    (h : ∀ A' c' L w', L = l ++ l2 → OwnS f n w' base e A' c' L → w.grownBy w' (blk A) → (blk A' = blk A ∨ blk A' = some w.heap.size) → K (a.put o.dst (.slice A' L.length c')) w') : o.wp P a w K Q := by
  obtain ⟨A', c', w', hrun, h2, h3, h4⟩ := run_append_s (P := P) w T o.type base A c l hown B A2 m c2 l2 hm hr hlen hl2 hbase
  unfold Oper.wp execOp
  simp only [ho, resolve, invoke, builtin, Sem.run_bind, Sem.run_pure, Result.andThen_ok, List.map_toArray, List.map_cons, List.map_nil, hs, hx, hrun]
  exact h A' c' _ w' rfl h2 h3 h4
/-- .. at the list of a plain region's operations. -/
theorem wpList_append_s {ops : Array Oper} {rest : List Oper} {o : Oper} {a : Act} {Q : Exit → Act → World → Prop} (hgd : o.guard = none) (s x : Operand) (T : RT P t e f n bytes z)
    (ho : o.op = .call { callee := .builtin .append, args := #[s, x], argTypes := #[t, t] })
    (base : Nat) (A : Option Addr) (c : Nat) (l : List α) (hs : a.eval s = .slice A l.length c) (hown : OwnS f n w base e A c l)
    (B : Nat) (A2 : Option Addr) (m c2 : Nat) (l2 : List α) (hx : a.eval x = .slice A2 m c2) (hm : m = l2.length) (hr : RdS f n w B A2 l2) (hlen : (l.length + l2.length) * bytes ≤ 140737488355328) (hl2 : l.length + l2.length ≤ maxLen) (hbase : base ≤ w.heap.size)
    (h : ∀ A' c' L w', L = l ++ l2 → OwnS f n w' base e A' c' L → w.grownBy w' (blk A) → (blk A' = blk A ∨ blk A' = some w.heap.size) → wpList P ops Q rest (a.put o.dst (.slice A' L.length c')) w') : wpList P ops Q (o :: rest) a w :=
  wpList_plain hgd fun _ hK => wp_append_s w s x T ho base A c l hs hown B A2 m c2 l2 hx hm hr hlen hl2 hbase fun A' c' L w' h1 h2 h3 h4 => hK _ _ (h A' c' L w' h1 h2 h3 h4)
/-- .. at a step of a region that draws its order, the destination named. -/
theorem step_append_sd {ops : Array Oper} {o : Oper} {a : Act} {K : Act → World → Prop} {Q : Exit → Act → World → Prop} {E : Prop} (hgd : o.guard = none) (d : Option Tmp) (hd : o.dst = d) (s x : Operand) (T : RT P t e f n bytes z)
    (ho : o.op = .call { callee := .builtin .append, args := #[s, x], argTypes := #[t, t] })
    (base : Nat) (A : Option Addr) (c : Nat) (l : List α) (hs : a.eval s = .slice A l.length c) (hown : OwnS f n w base e A c l)
    (B : Nat) (A2 : Option Addr) (m c2 : Nat) (l2 : List α) (hx : a.eval x = .slice A2 m c2) (hm : m = l2.length) (hr : RdS f n w B A2 l2) (hlen : (l.length + l2.length) * bytes ≤ 140737488355328) (hl2 : l.length + l2.length ≤ maxLen) (hbase : base ≤ w.heap.size)
    (h : ∀ A' c' L w', L = l ++ l2 → OwnS f n w' base e A' c' L → w.grownBy w' (blk A) → (blk A' = blk A ∨ blk A' = some w.heap.size) → K (a.put d (.slice A' L.length c')) w') :
    if Region.wanted o (yielded ops a.tmps) = true then Oper.wp P o a w K Q else E := by
  subst hd
  have hw : Region.wanted o (yielded ops a.tmps) = true := by simp [Region.wanted, hgd]
  rw [if_pos hw]
  exact wp_append_s w s x T ho base A c l hs hown B A2 m c2 l2 hx hm hr hlen hl2 hbase h
end
end Go.Proofs.YtekbdedpombgcaaGreatDoor

namespace Go.Proofs.YtekbdedpombgcaaGreatDoor
open Go.RowKit Go.Maps

namespace Eng
theorem ret_e {a b : Bool} (h : a = b) : Ending.returned (.bool a) = .returned (.bool b) := by rw [h]
theorem ewithin_any (n lo hi : Int) (w : World) : Calls Tryz.prog 10 #[.int .i64 n, .int .i64 lo, .int .i64 hi] w fun e w' => e = .returned (.bool (decide (lo ≤ n) && decide (n ≤ hi))) ∧ w' = w := by
  by_cases h1 : lo ≤ n
  · by_cases h2 : n ≤ hi
    · go_enter Tryz.func10, Tryz.ntmps10
      go_wp2_with fail
      go_ret
      exact ⟨ret_e (by simp [h1, h2]), rfl⟩
    · go_enter Tryz.func10, Tryz.ntmps10
      go_wp2_with fail
      go_ret
      exact ⟨ret_e (by simp; omega), rfl⟩
  · go_enter Tryz.func10, Tryz.ntmps10
    go_wp2_with fail
    go_ret
    exact ⟨ret_e (by simp; omega), rfl⟩
/-- May those be an engine's settings? -/
def setOk (a b c d : Int) : Bool := decide (1 ≤ a ∧ a ≤ 65536 ∧ 64 ≤ b ∧ b ≤ 32768 ∧ 1 ≤ c ∧ c ≤ 32 ∧ 1 ≤ d ∧ d ≤ 20000)
set_option maxHeartbeats 2000000 in
set_option maxRecDepth 100000 in
theorem right_any (a b c d : Int) (w : World) : Calls Tryz.prog 7 #[.agg #[.int .i64 a, .int .i64 b, .int .i64 c, .int .i64 d]] w fun e w' => e = .returned (.bool (setOk a b c d)) ∧ Below w.heap.size w w' := by
  obtain ⟨q, hq⟩ : ∃ q, q = setOk a b c d := ⟨_, rfl⟩
  rw [← hq]
  have HQ := Lib.hid hq
  have hx := heap_alloc_new w (.cells #[.int .i64 a, .int .i64 b, .int .i64 c, .int .i64 d] 22)
  have c0 : (w.alloc (.cells #[.int .i64 a, .int .i64 b, .int .i64 c, .int .i64 d] 22)).cell? ⟨w.heap.size, 0, none⟩ = some (.int .i64 a) := by rw [cell_of_row _ _ 0 _ _ (0, 0) hx]; rfl
  have c1 : (w.alloc (.cells #[.int .i64 a, .int .i64 b, .int .i64 c, .int .i64 d] 22)).cell? ⟨w.heap.size, 1, none⟩ = some (.int .i64 b) := by rw [cell_of_row _ _ 1 _ _ (0, 0) hx]; rfl
  have c2 : (w.alloc (.cells #[.int .i64 a, .int .i64 b, .int .i64 c, .int .i64 d] 22)).cell? ⟨w.heap.size, 2, none⟩ = some (.int .i64 c) := by rw [cell_of_row _ _ 2 _ _ (0, 0) hx]; rfl
  have c3 : (w.alloc (.cells #[.int .i64 a, .int .i64 b, .int .i64 c, .int .i64 d] 22)).cell? ⟨w.heap.size, 3, none⟩ = some (.int .i64 d) := by rw [cell_of_row _ _ 3 _ _ (0, 0) hx]; rfl
  clear hx hq
  go_enter Tryz.func7, Tryz.ntmps7
  by_cases h0 : 1 ≤ a
  rotate_left
  · have HF : Hid (q = false) := Lib.hid (by rw [HQ.out]; unfold setOk; exact decide_eq_false (by omega))
    go_wp2_with fail
    go_ret
    exact ⟨by rw [HF.out]; rfl, (Below.refl _ _).alloc (Nat.le_refl _) _⟩
  by_cases h1 : a ≤ 65536
  rotate_left
  · have HF : Hid (q = false) := Lib.hid (by rw [HQ.out]; unfold setOk; exact decide_eq_false (by omega))
    go_wp2_with fail
    go_ret
    exact ⟨by rw [HF.out]; rfl, (Below.refl _ _).alloc (Nat.le_refl _) _⟩
  by_cases h2 : 64 ≤ b
  rotate_left
  · have HF : Hid (q = false) := Lib.hid (by rw [HQ.out]; unfold setOk; exact decide_eq_false (by omega))
    go_wp2_with fail
    go_ret
    exact ⟨by rw [HF.out]; rfl, (Below.refl _ _).alloc (Nat.le_refl _) _⟩
  by_cases h3 : b ≤ 32768
  rotate_left
  · have HF : Hid (q = false) := Lib.hid (by rw [HQ.out]; unfold setOk; exact decide_eq_false (by omega))
    go_wp2_with fail
    go_ret
    exact ⟨by rw [HF.out]; rfl, (Below.refl _ _).alloc (Nat.le_refl _) _⟩
  by_cases h4 : 1 ≤ c
  rotate_left
  · have HF : Hid (q = false) := Lib.hid (by rw [HQ.out]; unfold setOk; exact decide_eq_false (by omega))
    go_wp2_with fail
    go_ret
    exact ⟨by rw [HF.out]; rfl, (Below.refl _ _).alloc (Nat.le_refl _) _⟩
  by_cases h5 : c ≤ 32
  rotate_left
  · have HF : Hid (q = false) := Lib.hid (by rw [HQ.out]; unfold setOk; exact decide_eq_false (by omega))
    go_wp2_with fail
    go_ret
    exact ⟨by rw [HF.out]; rfl, (Below.refl _ _).alloc (Nat.le_refl _) _⟩
  by_cases h6 : 1 ≤ d
  rotate_left
  · have HF : Hid (q = false) := Lib.hid (by rw [HQ.out]; unfold setOk; exact decide_eq_false (by omega))
    go_wp2_with fail
    go_ret
    exact ⟨by rw [HF.out]; rfl, (Below.refl _ _).alloc (Nat.le_refl _) _⟩
  by_cases h7 : d ≤ 20000
  rotate_left
  · have HF : Hid (q = false) := Lib.hid (by rw [HQ.out]; unfold setOk; exact decide_eq_false (by omega))
    go_wp2_with fail
    go_ret
    exact ⟨by rw [HF.out]; rfl, (Below.refl _ _).alloc (Nat.le_refl _) _⟩
  have HF : Hid (q = true) := Lib.hid (by rw [HQ.out]; unfold setOk; exact decide_eq_true (by omega))
  go_wp2_with fail
  go_ret
  exact ⟨by rw [HF.out]; rfl, (Below.refl _ _).alloc (Nat.le_refl _) _⟩
end Eng
end Go.Proofs.YtekbdedpombgcaaGreatDoor

namespace Go.Proofs.YtekbdedpombgcaaGreatDoor
open Go.RowKit

theorem bt : BT Tryz.prog 34 5 := ⟨Tryz.underlying34, Tryz.underlying5, by kernel_rfl⟩

/-- The call hands back bytes of its own. -/
def GivesB (w : World) (l : List UInt8) (e : Ending) (w' : World) : Prop := ∃ A c, e = .returned (.slice A l.length c) ∧ Own w' w.heap.size 5 A c l ∧ Below w.heap.size w w'
theorem own_one {w : World} {x : Int} {b : UInt8} (hb : (b.toNat : Int) = x) : Own (w.alloc (.cells #[.int .u8 x] 5)) w.heap.size 5 (some ⟨w.heap.size, 0, none⟩) 1 [b] := by
  subst hb
  exact World.ownsRow_lit (e := 5) (size := 1) w #[.int .u8 (b.toNat : Int)] 1 (Nat.le_refl _) (by unfold maxLen; omega) rfl

/-- l with its first k and last k places exchanged. -/
def Turned (l cur : List UInt8) (k : Nat) : Prop := cur.length = l.length ∧ ∀ p, p < l.length → cur[p]? = if p < k ∨ l.length - k ≤ p then l[l.length - 1 - p]? else l[p]?
theorem Turned.start (l : List UInt8) : Turned l l 0 := ⟨rfl, fun p hp => by rw [if_neg (by omega)]⟩
theorem Turned.done {l cur : List UInt8} {k : Nat} (h : Turned l cur k) (hk : l.length ≤ 2 * k + 1) (hk2 : 2 * k ≤ l.length) : cur = l.reverse := by
  apply List.ext_getElem?
  intro p
  rcases Nat.lt_or_ge p l.length with hp | hp
  · rw [h.2 p hp, List.getElem?_reverse hp]
    by_cases c : p < k ∨ l.length - k ≤ p
    · rw [if_pos c]
    · rw [if_neg c]; congr 1; omega
  · rw [List.getElem?_eq_none (by rw [h.1]; exact hp), List.getElem?_eq_none (by simpa using hp)]
theorem Turned.step {l cur : List UInt8} {k : Nat} (h : Turned l cur k) (hk : 2 * k + 1 < l.length) (a b : UInt8) (ha : cur[k]? = some a) (hb : cur[l.length - 1 - k]? = some b) :
    Turned l ((cur.set k b).set (l.length - 1 - k) a) (k + 1) := by
  have e1 := h.2 k (by omega)
  rw [if_neg (by omega)] at e1
  have e2 := h.2 (l.length - 1 - k) (by omega)
  rw [if_neg (by omega)] at e2
  rw [ha] at e1
  rw [hb] at e2
  refine ⟨by simp [h.1], fun p hp => ?_⟩
  have hl := h.1
  by_cases c1 : p = l.length - 1 - k
  · subst c1
    rw [List.getElem?_set_self (by simp; omega), if_pos (by omega)]
    have : l.length - 1 - (l.length - 1 - k) = k := by omega
    rw [this]; exact e1
  · rw [List.getElem?_set_ne (by omega)]
    by_cases c2 : p = k
    · subst c2
      rw [List.getElem?_set_self (by omega), if_pos (by omega)]
      exact e2
    · rw [List.getElem?_set_ne (by omega), h.2 p hp]
      by_cases c3 : p < k ∨ l.length - k ≤ p
      · rw [if_pos c3, if_pos (by omega)]
      · rw [if_neg c3, if_neg (by omega)]
theorem bv_set (l : List UInt8) (k : Nat) (b : UInt8) : bv (l.set k b) = (bv l).set k (.int .u8 (b.toNat : Int)) := by simp [bv, List.map_set]

theorem only_drew {a w : World} {row : Option Nat} (h : a.grownBy w row) : a.grownBy w.drew row := ⟨h.os, h.tape, h.output, h.size, h.block⟩
theorem only_setCell {a w : World} {g : Nat} (h : a.grownBy w (some g)) {p : Addr} (hp : p.block = g) (u : Value) : a.grownBy (w.setCell p u) (some g) :=
  ⟨h.os, h.tape, h.output, by simpa [World.setCell] using h.size, fun i hi hne => (Below.heap_setCell w p u i (by
    rintro rfl
    exact hne (by rw [hp]))).trans (h.block i hi hne)⟩
/-- A store into the row. -/
theorem Own.store {w : World} {base e g c n : Nat} {l : List UInt8} (h : w.ownsRow base e 1 (.slice (some ⟨g, 0, none⟩) n c) n (bv l)) (j : Nat) (b : UInt8) :
    (w.setCell ⟨g, j, none⟩ (.int .u8 (b.toNat : Int))).ownsRow base e 1 (.slice (some ⟨g, 0, none⟩) n c) n (bv (l.set j b)) := by
  rw [bv_set]; exact (h.stored j _).1

set_option maxHeartbeats 1000000 in
set_option maxRecDepth 100000 in
theorem reverse_any (base : Nat) (A : Option Addr) (c : Nat) (l : List UInt8) (w : World) (h : Own w base 5 A c l) (hl : l.length ≤ 9223372036854775807) :
    Calls Tryz.prog 180 #[.slice A l.length c] w fun e w' => e = .returned (.tuple #[]) ∧ Own w' base 5 A c l.reverse ∧ w.grownBy w' (blk A) := by
  by_cases h2 : l.length < 2
  · have hr : l.reverse = l := by
      match l, h2 with
      | [], _ => rfl
      | [_], _ => rfl
    go_enter Tryz.func180, Tryz.ntmps180
    go_wp2
    refine wp_loop_rounds 1 ?_
    rw [rounds_succ]
    go_wp2
    go_end0
    exact ⟨rfl, by rw [hr]; exact h, ⟨rfl, rfl, rfl, Nat.le_refl _, fun _ _ _ => rfl⟩⟩
  · obtain ⟨g, cap, hv, hg1, hg2⟩ := h.form (by omega)
    obtain rfl : A = some ⟨g, 0, none⟩ := by injection hv
    obtain ⟨n, hn⟩ : ∃ n, n = l.length := ⟨_, rfl⟩
    unfold Own at h
    rw [← hn] at h hl h2 ⊢
    have HN := Lib.hid hn; clear hn
    go_enter Tryz.func180, Tryz.ntmps180
    go_wp2
    go_loopw [2, 3] (fun i j wr => ∃ (k : Nat) (cur : List UInt8), 2 * k ≤ n ∧ i = .int .i64 k ∧ j = .int .i64 ((n : Int) - 1 - k) ∧ Hid (Turned l cur k) ∧ wr.ownsRow base 5 1 (.slice (some ⟨g, 0, none⟩) n c) n (bv cur) ∧ w.grownBy wr (some g)) (fun i _ _ => n - (intOf i).toNat)
    case atStart => exact ⟨0, l, by omega, rfl, by congr 1; omega, Lib.hid (Turned.start l), h, ⟨rfl, rfl, rfl, Nat.le_refl _, fun _ _ _ => rfl⟩⟩
    case round =>
      obtain ⟨k, cur, hk, rfl, rfl, HT, ho, hgr⟩ := hrel
      by_cases hlt : 2 * k + 1 < n
      · have hT := HT.out
        have hcl : cur.length = n := by rw [hT.1, HN.out]
        have ca := ho.cellAt k (by omega)
        have cb := ho.cellAt (n - 1 - k) (by omega)
        rw [bv_get cur _ (by omega)] at ca cb
        have fa := ho.frozenAt k
        have fb := ho.frozenAt (n - 1 - k)
        obtain ⟨a, ha⟩ : ∃ a, a = cur[k] := ⟨_, rfl⟩
        obtain ⟨b, hb⟩ : ∃ b, b = cur[n - 1 - k] := ⟨_, rfl⟩
        have ea : cur[k]? = some a := by rw [ha]; exact List.getElem?_eq_getElem _
        have eb : cur[l.length - 1 - k]? = some b := by rw [← HN.out, hb]; exact List.getElem?_eq_getElem _
        have HS := Lib.hid (hT.step (by rw [← HN.out]; omega) a b ea eb)
        rw [← HN.out] at HS
        rw [← ha] at ca
        rw [← hb] at cb
        clear ha hb hT hcl ea eb
        have i1 : (0 : Int) ≤ (k : Int) := by omega
        have i2 : (k : Int) < (n : Int) := by omega
        have i3 : (0 : Int) ≤ (n : Int) - 1 - (k : Int) := by omega
        have i4 : (n : Int) - 1 - (k : Int) < (n : Int) := by omega
        have i5 : ((n : Int) - 1 - (k : Int)).toNat = n - 1 - k := by omega
        go_wp2
        go_region
        go_wp2
        go_roundw
        case rel =>
          have o1 := Own.store ho k b
          have o2 := Own.store o1 (n - 1 - k) a
          refine ⟨k + 1, (cur.set k b).set (n - 1 - k) a, by omega, by go_num, by congr 1; omega, HS, o2, ?_⟩
          exact only_drew (only_setCell (only_setCell hgr (p := ⟨g, k, none⟩) rfl _) (p := ⟨g, n - 1 - k, none⟩) rfl _)
        case measure => simp [intOf]; omega
      · have hE : cur = l.reverse := HT.out.done (by rw [← HN.out]; omega) (by rw [← HN.out]; omega)
        have HE := Lib.hid hE; clear hE
        go_wp2
        go_end0
        refine ⟨rfl, ?_, hgr⟩
        have e := HE.out
        subst e
        unfold Own
        rw [List.length_reverse, ← HN.out]
        exact ho
end Go.Proofs.YtekbdedpombgcaaGreatDoor
