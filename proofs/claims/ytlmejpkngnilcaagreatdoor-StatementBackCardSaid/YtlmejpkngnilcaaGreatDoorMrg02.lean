/- Parts of the proof, one behind the other: Lines and items of a statement as lists: rows of structs, read.; Rows of elements of any kind, n cells each, of the call's own: reading, append, make. Over any program.; slices.Reverse at bytes, over a row of the call's own.; Rows of int64 of the call's own: reading, append (written by gen_int.py out of XByt). Over any program. -/
import Derived.Test.YtlmejpkngnilcaaGreatDoorProg
import Derived.Test.YtlmejpkngnilcaaGreatDoorMrg01
import Derived.Laws.MakeOwn
import Derived.Deep.RegionLaw
import Derived.BigRegion
import Derived.BigQuiet
import Derived.Deep.QuietTactic
import Derived.ChangeAlike
namespace Go.Proofs.YtlmejpkngnilcaaGreatDoor
open Go.RowKit

theorem rows_len {α : Type} (f : α → List Value) (n : Nat) (hf : ∀ a, (f a).length = n) (l : List α) : (l.flatMap f).length = l.length * n := by
  induction l with
  | nil => simp
  | cons p l ih => rw [List.flatMap_cons, List.length_append, ih, hf, List.length_cons, Nat.succ_mul]; omega
theorem rows_get {α : Type} (f : α → List Value) (n : Nat) (hf : ∀ a, (f a).length = n) (l : List α) (k : Nat) (hk : k < l.length) (j : Nat) (hj : j < n) : (l.flatMap f)[k * n + j]? = (f l[k])[j]? := by
  induction l generalizing k with
  | nil => simp at hk
  | cons p l ih =>
    rw [List.flatMap_cons]
    match k with
    | 0 =>
      rw [List.getElem?_append_left (by rw [hf]; omega)]
      simp
    | k + 1 =>
      rw [List.getElem?_append_right (by rw [hf, Nat.succ_mul]; omega)]
      have e : (k + 1) * n + j - (f p).length = k * n + j := by rw [hf, Nat.succ_mul]; omega
      rw [e]
      exact ih k (by simpa using hk)
theorem rows_at {α : Type} (f : α → List Value) (n : Nat) (hf : ∀ a, (f a).length = n) (hn : 0 < n) {l : List α} {w : World} {B : Nat} {A : Option Addr} (h : Reads w B n A l.length (l.flatMap f)) (hl : 0 < l.length) :
    ∃ b off, A = some ⟨b, off, none⟩ ∧ b < B ∧ ∀ k (hk : k < l.length) j u, (f l[k])[j]? = some u → w.cell? ⟨b, off + k * n + j, none⟩ = some u := by
  obtain ⟨ad, hA, hb, hc⟩ := h.2 hl
  obtain ⟨b, off, spot⟩ := ad
  have hu : (f l[0])[0]? = some ((f l[0])[0]'(by rw [hf]; exact hn)) := List.getElem?_eq_getElem _
  have h0 := hc (0 * n + 0) _ (by rw [rows_get f n hf l 0 hl 0 hn]; exact hu)
  have hsp : spot = none := by
    cases spot with
    | none => rfl
    | some s =>
      simp only [Addr.add, if_pos, Nat.zero_mul] at h0
      unfold World.cell? at h0
      simp only [Option.isSome_some, if_true] at h0
      split at h0 <;> cases h0
  subst hsp
  have hadd : ∀ j, (⟨b, off, none⟩ : Addr).add j = ⟨b, off + j, none⟩ := by intro j; unfold Addr.add; split <;> simp_all
  refine ⟨b, off, hA, hb, fun k hk j u hj => ?_⟩
  have hjn : j < n := by
    rcases Nat.lt_or_ge j n with h | h
    · exact h
    · rw [List.getElem?_eq_none (by rw [hf]; exact h)] at hj; cases hj
  have := hc (k * n + j) u (by rw [rows_get f n hf l k hk j hjn]; exact hj)
  rw [hadd, ← Nat.add_assoc] at this
  exact this

structure Ln where
  day : Int
  kind : Int
  ref : Int
  owed : Int
  credit : Int
def Ln.cells (p : Ln) : List Value := [.int .i64 p.day, .int .i64 p.kind, .int .i64 p.ref, .int .i64 p.owed, .int .i64 p.credit]
structure It where
  due : Int
  kind : Int
  period : Int
  open_ : Int
def It.cells (p : It) : List Value := [.int .i64 p.due, .int .i64 p.kind, .int .i64 p.period, .int .i64 p.open_]
def RdL (w : World) (B : Nat) (A : Option Addr) (l : List Ln) : Prop := Reads w B 5 A l.length (l.flatMap Ln.cells)
def RdT (w : World) (B : Nat) (A : Option Addr) (l : List It) : Prop := Reads w B 4 A l.length (l.flatMap It.cells)
section
variable {w w' : World} {B : Nat} {A : Option Addr} {l : List Ln} {m : List It}
theorem RdL.below {D : Nat} (h : RdL w B A l) (hb : Below D w w') (hD : B ≤ D) : RdL w' B A l := Reads.below h hb hD
theorem RdL.more {B' : Nat} (h : RdL w B A l) (hB : B ≤ B') : RdL w B' A l := Reads.more h hB
theorem RdT.below {D : Nat} (h : RdT w B A m) (hb : Below D w w') (hD : B ≤ D) : RdT w' B A m := Reads.below h hb hD
theorem RdT.more {B' : Nat} (h : RdT w B A m) (hB : B ≤ B') : RdT w B' A m := Reads.more h hB
theorem RdL.at_ (h : RdL w B A l) {k : Nat} (hk : k < l.length) : ∃ b off, A = some ⟨b, off, none⟩ ∧ b < B ∧
    w.cell? ⟨b, off + k * 5, none⟩ = some (.int .i64 l[k].day) ∧ w.cell? ⟨b, off + k * 5 + 1, none⟩ = some (.int .i64 l[k].kind) ∧ w.cell? ⟨b, off + k * 5 + 2, none⟩ = some (.int .i64 l[k].ref) ∧
    w.cell? ⟨b, off + k * 5 + 3, none⟩ = some (.int .i64 l[k].owed) ∧ w.cell? ⟨b, off + k * 5 + 4, none⟩ = some (.int .i64 l[k].credit) := by
  obtain ⟨b, off, hA, hb, hc⟩ := rows_at Ln.cells 5 (fun _ => rfl) (by omega) h (by omega)
  exact ⟨b, off, hA, hb, hc k hk 0 _ rfl, hc k hk 1 _ rfl, hc k hk 2 _ rfl, hc k hk 3 _ rfl, hc k hk 4 _ rfl⟩
theorem RdT.at_ (h : RdT w B A m) {k : Nat} (hk : k < m.length) : ∃ b off, A = some ⟨b, off, none⟩ ∧ b < B ∧
    w.cell? ⟨b, off + k * 4, none⟩ = some (.int .i64 m[k].due) ∧ w.cell? ⟨b, off + k * 4 + 1, none⟩ = some (.int .i64 m[k].kind) ∧ w.cell? ⟨b, off + k * 4 + 2, none⟩ = some (.int .i64 m[k].period) ∧
    w.cell? ⟨b, off + k * 4 + 3, none⟩ = some (.int .i64 m[k].open_) := by
  obtain ⟨b, off, hA, hb, hc⟩ := rows_at It.cells 4 (fun _ => rfl) (by omega) h (by omega)
  exact ⟨b, off, hA, hb, hc k hk 0 _ rfl, hc k hk 1 _ rfl, hc k hk 2 _ rfl, hc k hk 3 _ rfl⟩
end
end Go.Proofs.YtlmejpkngnilcaaGreatDoor

namespace Go.Proofs.YtlmejpkngnilcaaGreatDoor
open Go.RowKit

/-- How a value's cells stand in a row: t the slice's type, e the element's. -/
structure RT (P : Program) (t e : TypeId) {α : Type} (f : α → List Value) (n bytes : Nat) (z : Value) : Prop where
  sl : P.underlying t = some (.slice e)
  info : (P.info? e).map (fun i => (i.zero, i.size, i.bytes)) = some (some z, n, bytes)
  len : ∀ a, (f a).length = n
  one : ∀ a, ∀ u ∈ f a, u.oneCell' = true
  pos : 0 < n
  zlen : z.cells.size = n
section
variable {α : Type} {f : α → List Value} {n : Nat}
theorem fm_len (hf : ∀ a, (f a).length = n) (l : List α) : (l.flatMap f).length = l.length * n := by
  induction l with
  | nil => simp
  | cons p l ih => rw [List.flatMap_cons, List.length_append, ih, hf, List.length_cons, Nat.succ_mul]; omega
theorem fm_get (hf : ∀ a, (f a).length = n) (l : List α) (k : Nat) (hk : k < l.length) (j : Nat) (hj : j < n) : (l.flatMap f)[k * n + j]? = (f l[k])[j]? := by
  induction l generalizing k with
  | nil => simp at hk
  | cons p l ih =>
    rw [List.flatMap_cons]
    match k with
    | 0 =>
      rw [List.getElem?_append_left (by rw [hf]; omega)]
      simp
    | k + 1 =>
      rw [List.getElem?_append_right (by rw [hf, Nat.succ_mul]; omega)]
      have e : (k + 1) * n + j - (f p).length = k * n + j := by rw [hf, Nat.succ_mul]; omega
      rw [e]
      exact ih k (by simpa using hk)
theorem fm_one (h : ∀ a, ∀ u ∈ f a, u.oneCell' = true) (l : List α) : ∀ u ∈ l.flatMap f, u.oneCell' = true := by
  intro u hu
  simp only [List.mem_flatMap] at hu
  obtain ⟨a, _, ha⟩ := hu
  exact h a u ha
theorem fm_drop (hf : ∀ a, (f a).length = n) (l : List α) (k : Nat) : (l.drop k).flatMap f = (l.flatMap f).drop (k * n) := by
  induction k generalizing l with
  | zero => simp
  | succ k ih =>
    cases l with
    | nil => simp
    | cons p l =>
      rw [List.drop_succ_cons, ih, List.flatMap_cons, Nat.succ_mul, Nat.add_comm (k * n) n, ← List.drop_drop, List.drop_append_of_le_length (by rw [hf]; omega), show (f p).drop n = [] from List.drop_eq_nil_of_le (by rw [hf]; omega), List.nil_append]
theorem fm_take (hf : ∀ a, (f a).length = n) (l : List α) (k : Nat) : (l.take k).flatMap f = (l.flatMap f).take (k * n) := by
  induction k generalizing l with
  | zero => simp
  | succ k ih =>
    cases l with
    | nil => simp
    | cons p l =>
      rw [List.take_succ_cons, List.flatMap_cons, List.flatMap_cons, ih, Nat.succ_mul, List.take_append, hf, List.take_of_length_le (l := f p) (by rw [hf]; omega), Nat.add_sub_cancel]
end
/-- A slice reads as l. -/
def RdS {α : Type} (f : α → List Value) (n : Nat) (w : World) (B : Nat) (A : Option Addr) (l : List α) : Prop := Reads w B n A l.length (l.flatMap f)
/-- A slice, the call's own (from block 'base' on), reads as l. -/
def OwnS {α : Type} (f : α → List Value) (n : Nat) (w : World) (base : Nat) (e : TypeId) (A : Option Addr) (c : Nat) (l : List α) : Prop := w.ownsRow base e n (.slice A l.length c) l.length (l.flatMap f)
section
variable {α : Type} {f : α → List Value} {n : Nat} {w w' : World} {B base : Nat} {e : TypeId} {A : Option Addr} {c : Nat} {l : List α}
theorem RdS.keep (h : RdS f n w B A l) (hk : ∀ p : Addr, p.block < B → w'.cell? p = w.cell? p) : RdS f n w' B A l := Reads.keep h hk
theorem RdS.below {D : Nat} (h : RdS f n w B A l) (hb : Below D w w') (hD : B ≤ D) : RdS f n w' B A l := Reads.below h hb hD
theorem RdS.alloc (h : RdS f n w B A l) (hB : B ≤ w.heap.size) (o : Obj) : RdS f n (w.alloc o) B A l := Reads.alloc h hB o
theorem RdS.more {B' : Nat} (h : RdS f n w B A l) (hB : B ≤ B') : RdS f n w B' A l := Reads.more h hB
theorem RdS.nil : RdS f n w B A [] := Reads.none_
theorem RdS.grown (h : RdS f n w B A l) {row : Option Nat} (hg : w.grownBy w' row) (hB : B ≤ w.heap.size) (hr : ∀ g, row = some g → B ≤ g) : RdS f n w' B A l := Reads.grown h hg hB hr
/-- The row as one address and the cells of each element. -/
theorem RdS.row (hf : ∀ a, (f a).length = n) (hn : 0 < n) (h : RdS f n w B A l) (hl : 0 < l.length) :
    ∃ b off, A = some ⟨b, off, none⟩ ∧ b < B ∧ ∀ k (hk : k < l.length) j u, (f l[k])[j]? = some u → w.cell? ⟨b, off + k * n + j, none⟩ = some u := by
  obtain ⟨ad, hA, hb, hc⟩ := h.2 hl
  obtain ⟨b, off, spot⟩ := ad
  have hu : (f l[0])[0]? = some ((f l[0])[0]'(by rw [hf]; exact hn)) := List.getElem?_eq_getElem _
  have h0 := hc (0 * n + 0) _ (by rw [fm_get hf l 0 hl 0 hn]; exact hu)
  have hsp : spot = none := by
    cases spot with
    | none => rfl
    | some s =>
      simp only [Addr.add, if_pos, Nat.zero_mul] at h0
      unfold World.cell? at h0
      simp only [Option.isSome_some, if_true] at h0
      split at h0 <;> cases h0
  subst hsp
  have hadd : ∀ j, (⟨b, off, none⟩ : Addr).add j = ⟨b, off + j, none⟩ := by intro j; unfold Addr.add; split <;> simp_all
  refine ⟨b, off, hA, hb, fun k hk j u hj => ?_⟩
  have hjn : j < n := by
    rcases Nat.lt_or_ge j n with h | h
    · exact h
    · rw [List.getElem?_eq_none (by rw [hf]; exact h)] at hj; cases hj
  have := hc (k * n + j) u (by rw [fm_get hf l k hk j hjn]; exact hj)
  rw [hadd, ← Nat.add_assoc] at this
  exact this
/-- A row that reads so, out of its cells. -/
theorem RdS.of (hf : ∀ a, (f a).length = n) (b off : Nat) (hb : b < B) (hc : ∀ k (hk : k < l.length) j u, (f l[k])[j]? = some u → w.cell? ⟨b, off + k * n + j, none⟩ = some u) : RdS f n w B (some ⟨b, off, none⟩) l := by
  refine ⟨fm_len hf l, fun hl => ⟨_, rfl, hb, fun j u hj => ?_⟩⟩
  have hadd : (⟨b, off, none⟩ : Addr).add j = ⟨b, off + j, none⟩ := by unfold Addr.add; split <;> simp_all
  rw [hadd]
  rcases Nat.eq_zero_or_pos n with h0 | hn
  · have : (l.flatMap f).length = 0 := by rw [fm_len hf l, h0, Nat.mul_zero]
    rw [List.getElem?_eq_none (by omega)] at hj; cases hj
  have hjl : j < l.length * n := by
    rcases Nat.lt_or_ge j (l.length * n) with h | h
    · exact h
    · rw [List.getElem?_eq_none (by rw [fm_len hf l]; exact h)] at hj; cases hj
  have hq : j / n < l.length := Nat.div_lt_of_lt_mul (by rw [Nat.mul_comm]; exact hjl)
  have hr : j % n < n := Nat.mod_lt _ hn
  have e : j / n * n + j % n = j := by rw [Nat.mul_comm]; exact Nat.div_add_mod j n
  have h1 := fm_get hf l (j / n) hq (j % n) hr
  rw [e] at h1
  have := hc (j / n) hq (j % n) u (by rw [← h1]; exact hj)
  rw [Nat.add_assoc, e] at this
  exact this
theorem RdS.take (hf : ∀ a, (f a).length = n) (h : RdS f n w B A l) {k : Nat} (hk : k ≤ l.length) : RdS f n w B A (l.take k) := by
  refine ⟨fm_len hf _, fun hp => ?_⟩
  have hp' : 0 < l.length := by rw [List.length_take] at hp; omega
  obtain ⟨ad, rfl, hb, hcell⟩ := h.2 hp'
  refine ⟨ad, rfl, hb, fun j u hu => hcell j u ?_⟩
  rw [fm_take hf, List.getElem?_take] at hu
  split at hu
  · exact hu
  · cases hu
theorem RdS.drop (hf : ∀ a, (f a).length = n) (h : RdS f n w B A l) {k cap : Nat} (hk : k ≤ l.length) (hc : l.length ≤ cap) : RdS f n w B (if cap = k then A else A.map (·.add (k * n))) (l.drop k) := by
  refine ⟨fm_len hf _, fun hp => ?_⟩
  rw [List.length_drop] at hp
  obtain ⟨ad, rfl, hb, hcell⟩ := h.2 (by omega)
  rw [if_neg (by omega)]
  refine ⟨ad.add (k * n), rfl, by rw [block_of_add]; exact hb, fun j u hu => ?_⟩
  rw [add_of_add]
  exact hcell _ u (by rw [← hu, fm_drop hf, List.getElem?_drop])
theorem OwnS.rd (h : OwnS f n w base e A c l) : RdS f n w w.heap.size A l := Reads.of_own h
theorem OwnS.cap (h : OwnS f n w base e A c l) : l.length ≤ c := by
  rcases h.2 with ⟨hv, hn⟩ | ⟨g, cap, cur, hv, _, _, hc, _⟩
  · omega
  · injection hv with _ _ h3; omega
theorem OwnS.kept {row : Option Nat} (h : OwnS f n w base e A c l) (hg : w.grownBy w' row) (hne : blk A = none ∨ blk A ≠ row) : OwnS f n w' base e A c l :=
  World.ownsRow.kept h hg (by rw [ownBlock_slice]; exact hne)
theorem OwnS.keep (h : OwnS f n w base e A c l) (hb : ∀ g, blk A = some g → w'.heap[g]? = w.heap[g]?) : OwnS f n w' base e A c l := by
  unfold OwnS at h ⊢
  refine ⟨h.1, ?_⟩
  rcases h.2 with h2 | ⟨g, cap, cur, hv, hg, hh, r⟩
  · exact .inl h2
  · refine .inr ⟨g, cap, cur, hv, hg, ?_, r⟩
    injection hv with hv
    rw [hb g (by rw [hv]; rfl)]
    exact hh
theorem OwnS.alloc (h : OwnS f n w base e A c l) (o : Obj) : OwnS f n (w.alloc o) base e A c l := World.ownsRow.alloc h o
theorem OwnS.below (h : OwnS f n w base e A c l) (hb : Below w.heap.size w w') : OwnS f n w' base e A c l :=
  World.ownsRow.kept (row := none) h ⟨hb.os, hb.tape, hb.output, hb.size, fun k hk _ => hb.block k hk⟩ (by cases A <;> simp [Value.ownBlock])
theorem OwnS.mono {base' : Nat} (h : OwnS f n w base e A c l) (hb : base' ≤ base) : OwnS f n w base' e A c l := by
  refine ⟨h.1, ?_⟩
  rcases h.2 with h2 | ⟨g, cap, cur, hv, hg, r⟩
  · exact .inl h2
  · exact .inr ⟨g, cap, cur, hv, by omega, r⟩
theorem OwnS.blk_ge (h : OwnS f n w base e A c l) : ∀ g, blk A = some g → base ≤ g ∧ g < w.heap.size := by
  intro g hg
  refine World.ownsRow.lt h g ?_
  cases A with
  | none => simp [blk] at hg
  | some a => simpa [Value.ownBlock, blk] using hg
theorem OwnS.nil (w : World) (base : Nat) (e : TypeId) : OwnS f n w base e none 0 [] := World.ownsRow_nil _ _ _ _
/-- The row is a block of cells of its own, from its first cell on. -/
theorem OwnS.form (h : OwnS f n w base e A c l) (hl : 0 < l.length) : ∃ g cur, A = some ⟨g, 0, none⟩ ∧ base ≤ g ∧ g < w.heap.size ∧ w.heap[g]? = some (.cells cur e) := by
  rcases h.2 with ⟨_, hn⟩ | ⟨g, cap, cur, hv, hg, hh, _⟩
  · omega
  · injection hv with hv
    subst hv
    exact ⟨g, cur, rfl, hg, (h.blk_ge g rfl).2, hh⟩
end

section
variable {P : Program} {α : Type} {f : α → List Value} {n bytes : Nat} {z : Value} {t e : TypeId} (w : World)
theorem run_append_s (T : RT P t e f n bytes z) (ty : TypeId) (base : Nat) (A : Option Addr) (c : Nat) (l : List α) (hown : OwnS f n w base e A c l)
    (B : Nat) (A2 : Option Addr) (m c2 : Nat) (l2 : List α) (hm : m = l2.length) (hr : RdS f n w B A2 l2) (hlen : (l.length + l2.length) * bytes ≤ 140737488355328) (hl2 : l.length + l2.length ≤ maxLen) (hbase : base ≤ w.heap.size) :
    ∃ A' c' w', (Builtin.append_ #[t, t] ty #[.slice A l.length c, .slice A2 m c2]).run P w = .ok (.slice A' (l ++ l2).length c') w' ∧ OwnS f n w' base e A' c' (l ++ l2) ∧ w.grownBy w' (blk A) ∧
      (blk A' = blk A ∨ blk A' = some w.heap.size) := by
  subst hm
  obtain ⟨i, hi, hz0, hz1, hz2⟩ := info_parts T.info
  obtain ⟨v', w', hrun, h2, h3, h4⟩ := run_append_any (P := P) w base t ty e i _ n bytes T.sl hi hz0 hz1 hz2 T.zlen T.pos (.slice A l.length c) l.length (l.flatMap f) hown B A2 l2.length c2 (l2.flatMap f) hr (fm_one T.one l2)
    hl2 hlen hbase
  rw [ownBlock_slice] at h3 h4
  have hv : ∃ A' c', v' = .slice A' (l ++ l2).length c' := by
    rw [List.length_append]
    rcases h2.2 with ⟨hv, hn⟩ | ⟨g, cap, cur, hv, _⟩
    · exact ⟨none, 0, by rw [hv, hn]⟩
    · exact ⟨_, _, hv⟩
  obtain ⟨A', c', rfl⟩ := hv
  rw [ownBlock_slice] at h4
  refine ⟨A', c', w', hrun, ?_, h3, h4⟩
  unfold OwnS
  rw [List.flatMap_append]
  rw [List.length_append] at h2 ⊢
  exact h2
theorem wp_append_s {o : Oper} {a : Act} {K : Act → World → Prop} {Q : Exit → Act → World → Prop} (s x : Operand) (T : RT P t e f n bytes z)
    (ho : o.op = .call { callee := .builtin .append, args := #[s, x], argTypes := #[t, t] })
    (base : Nat) (A : Option Addr) (c : Nat) (l : List α) (hs : a.eval s = .slice A l.length c) (hown : OwnS f n w base e A c l)
    (B : Nat) (A2 : Option Addr) (m c2 : Nat) (l2 : List α) (hx : a.eval x = .slice A2 m c2) (hm : m = l2.length) (hr : RdS f n w B A2 l2) (hlen : (l.length + l2.length) * bytes ≤ 140737488355328) (hl2 : l.length + l2.length ≤ maxLen) (hbase : base ≤ w.heap.size)
    (h : ∀ A' c' L w', L = l ++ l2 → OwnS f n w' base e A' c' L → w.grownBy w' (blk A) → (blk A' = blk A ∨ blk A' = some w.heap.size) → K (a.put o.dst (.slice A' L.length c')) w') : o.wp P a w K Q := by
  obtain ⟨A', c', w', hrun, h2, h3, h4⟩ := run_append_s (P := P) w T o.type base A c l hown B A2 m c2 l2 hm hr hlen hl2 hbase
  unfold Oper.wp execOp
  simp only [ho, resolve, invoke, builtin, Sem.run_bind, Sem.run_pure, Result.andThen_ok, List.map_toArray, List.map_cons, List.map_nil, hs, hx, hrun]
  exact h A' c' _ w' rfl h2 h3 h4
/-- .. at the list of a plain region's operations. -/
theorem wpList_append_s {ops : Array Oper} {rest : List Oper} {o : Oper} {a : Act} {Q : Exit → Act → World → Prop} (hgd : o.guard = none) (s x : Operand) (T : RT P t e f n bytes z)
    (ho : o.op = .call { callee := .builtin .append, args := #[s, x], argTypes := #[t, t] })
    (base : Nat) (A : Option Addr) (c : Nat) (l : List α) (hs : a.eval s = .slice A l.length c) (hown : OwnS f n w base e A c l)
    (B : Nat) (A2 : Option Addr) (m c2 : Nat) (l2 : List α) (hx : a.eval x = .slice A2 m c2) (hm : m = l2.length) (hr : RdS f n w B A2 l2) (hlen : (l.length + l2.length) * bytes ≤ 140737488355328) (hl2 : l.length + l2.length ≤ maxLen) (hbase : base ≤ w.heap.size)
    (h : ∀ A' c' L w', L = l ++ l2 → OwnS f n w' base e A' c' L → w.grownBy w' (blk A) → (blk A' = blk A ∨ blk A' = some w.heap.size) → wpList P ops Q rest (a.put o.dst (.slice A' L.length c')) w') : wpList P ops Q (o :: rest) a w :=
  wpList_plain hgd fun _ hK => wp_append_s w s x T ho base A c l hs hown B A2 m c2 l2 hx hm hr hlen hl2 hbase fun A' c' L w' h1 h2 h3 h4 => hK _ _ (h A' c' L w' h1 h2 h3 h4)
/-- .. at a step of a region that draws its order, the destination named. -/
theorem step_append_sd {ops : Array Oper} {o : Oper} {a : Act} {K : Act → World → Prop} {Q : Exit → Act → World → Prop} {E : Prop} (hgd : o.guard = none) (d : Option Tmp) (hd : o.dst = d) (s x : Operand) (T : RT P t e f n bytes z)
    (ho : o.op = .call { callee := .builtin .append, args := #[s, x], argTypes := #[t, t] })
    (base : Nat) (A : Option Addr) (c : Nat) (l : List α) (hs : a.eval s = .slice A l.length c) (hown : OwnS f n w base e A c l)
    (B : Nat) (A2 : Option Addr) (m c2 : Nat) (l2 : List α) (hx : a.eval x = .slice A2 m c2) (hm : m = l2.length) (hr : RdS f n w B A2 l2) (hlen : (l.length + l2.length) * bytes ≤ 140737488355328) (hl2 : l.length + l2.length ≤ maxLen) (hbase : base ≤ w.heap.size)
    (h : ∀ A' c' L w', L = l ++ l2 → OwnS f n w' base e A' c' L → w.grownBy w' (blk A) → (blk A' = blk A ∨ blk A' = some w.heap.size) → K (a.put d (.slice A' L.length c')) w') :
    if Region.wanted o (yielded ops a.tmps) = true then Oper.wp P o a w K Q else E := by
  subst hd
  have hw : Region.wanted o (yielded ops a.tmps) = true := by simp [Region.wanted, hgd]
  rw [if_pos hw]
  exact wp_append_s w s x T ho base A c l hs hown B A2 m c2 l2 hx hm hr hlen hl2 hbase h
/-- make of length 0, of room for c. -/
theorem wpList_make_s {ops : Array Oper} {rest : List Oper} {o : Oper} {a : Act} {Q : Exit → Act → World → Prop} (hgd : o.guard = none) (ol oc : Operand) (T : RT P t e f n bytes z) (hop : o.op = Op.makeSlice t ol oc)
    (kl kc : IntKind) (c : Nat) (hl : a.eval ol = .int kl 0) (hc : a.eval oc = .int kc (c : Int)) (hn : bytes * c ≤ 281474976710656) (h63 : c ≤ maxLen)
    (hK : ∀ w', OwnS f n w' w.heap.size e (some ⟨w.heap.size, 0, none⟩) c ([] : List α) → w.grownBy w' none → wpList P ops Q rest (a.put o.dst (.slice (some ⟨w.heap.size, 0, none⟩) 0 c)) w') :
    wpList P ops Q (o :: rest) a w :=
  wpList_plain hgd fun K hK' => by
    obtain ⟨i, hi, hz0, hz1, hz2⟩ := info_parts T.info
    obtain ⟨w', hrun, h1, h2⟩ := run_make_own (P := P) w w.heap.size t e i z n T.sl hi hz0 hz1 kl kc c (by rw [hz2]; exact hn) h63 (Nat.le_refl _)
    unfold Oper.wp execOp
    simp only [hop, Sem.run_bind, Sem.run_pure, Result.andThen_ok, hl, hc, hrun]
    exact hK' _ _ (hK w' h1 h2)
end
end Go.Proofs.YtlmejpkngnilcaaGreatDoor

namespace Go.Proofs.YtlmejpkngnilcaaGreatDoor
open Go.RowKit

theorem bt : BT Tryz.prog 39 5 := ⟨Tryz.underlying39, Tryz.underlying5, by kernel_rfl⟩

/-- The call hands back bytes of its own. -/
def GivesB (w : World) (l : List UInt8) (e : Ending) (w' : World) : Prop := ∃ A c, e = .returned (.slice A l.length c) ∧ Own w' w.heap.size 5 A c l ∧ Below w.heap.size w w'
theorem own_one {w : World} {x : Int} {b : UInt8} (hb : (b.toNat : Int) = x) : Own (w.alloc (.cells #[.int .u8 x] 5)) w.heap.size 5 (some ⟨w.heap.size, 0, none⟩) 1 [b] := by
  subst hb
  exact World.ownsRow_lit (e := 5) (size := 1) w #[.int .u8 (b.toNat : Int)] 1 (Nat.le_refl _) (by unfold maxLen; omega) rfl

/-- l with its first k and last k places exchanged. -/
def Turned (l cur : List UInt8) (k : Nat) : Prop := cur.length = l.length ∧ ∀ p, p < l.length → cur[p]? = if p < k ∨ l.length - k ≤ p then l[l.length - 1 - p]? else l[p]?
theorem Turned.start (l : List UInt8) : Turned l l 0 := ⟨rfl, fun p hp => by rw [if_neg (by omega)]⟩
theorem Turned.done {l cur : List UInt8} {k : Nat} (h : Turned l cur k) (hk : l.length ≤ 2 * k + 1) (hk2 : 2 * k ≤ l.length) : cur = l.reverse := by
  apply List.ext_getElem?
  intro p
  rcases Nat.lt_or_ge p l.length with hp | hp
  · rw [h.2 p hp, List.getElem?_reverse hp]
    by_cases c : p < k ∨ l.length - k ≤ p
    · rw [if_pos c]
    · rw [if_neg c]; congr 1; omega
  · rw [List.getElem?_eq_none (by rw [h.1]; exact hp), List.getElem?_eq_none (by simpa using hp)]
theorem Turned.step {l cur : List UInt8} {k : Nat} (h : Turned l cur k) (hk : 2 * k + 1 < l.length) (a b : UInt8) (ha : cur[k]? = some a) (hb : cur[l.length - 1 - k]? = some b) :
    Turned l ((cur.set k b).set (l.length - 1 - k) a) (k + 1) := by
  have e1 := h.2 k (by omega)
  rw [if_neg (by omega)] at e1
  have e2 := h.2 (l.length - 1 - k) (by omega)
  rw [if_neg (by omega)] at e2
  rw [ha] at e1
  rw [hb] at e2
  refine ⟨by simp [h.1], fun p hp => ?_⟩
  have hl := h.1
  by_cases c1 : p = l.length - 1 - k
  · subst c1
    rw [List.getElem?_set_self (by simp; omega), if_pos (by omega)]
    have : l.length - 1 - (l.length - 1 - k) = k := by omega
    rw [this]; exact e1
  · rw [List.getElem?_set_ne (by omega)]
    by_cases c2 : p = k
    · subst c2
      rw [List.getElem?_set_self (by omega), if_pos (by omega)]
      exact e2
    · rw [List.getElem?_set_ne (by omega), h.2 p hp]
      by_cases c3 : p < k ∨ l.length - k ≤ p
      · rw [if_pos c3, if_pos (by omega)]
      · rw [if_neg c3, if_neg (by omega)]
theorem bv_set (l : List UInt8) (k : Nat) (b : UInt8) : bv (l.set k b) = (bv l).set k (.int .u8 (b.toNat : Int)) := by simp [bv, List.map_set]

theorem only_drew {a w : World} {row : Option Nat} (h : a.grownBy w row) : a.grownBy w.drew row := ⟨h.os, h.tape, h.output, h.size, h.block⟩
theorem only_setCell {a w : World} {g : Nat} (h : a.grownBy w (some g)) {p : Addr} (hp : p.block = g) (u : Value) : a.grownBy (w.setCell p u) (some g) :=
  ⟨h.os, h.tape, h.output, by simpa [World.setCell] using h.size, fun i hi hne => (Below.heap_setCell w p u i (by
    rintro rfl
    exact hne (by rw [hp]))).trans (h.block i hi hne)⟩
/-- A store into the row. -/
theorem Own.store {w : World} {base e g c n : Nat} {l : List UInt8} (h : w.ownsRow base e 1 (.slice (some ⟨g, 0, none⟩) n c) n (bv l)) (j : Nat) (b : UInt8) :
    (w.setCell ⟨g, j, none⟩ (.int .u8 (b.toNat : Int))).ownsRow base e 1 (.slice (some ⟨g, 0, none⟩) n c) n (bv (l.set j b)) := by
  rw [bv_set]; exact (h.stored j _).1

end Go.Proofs.YtlmejpkngnilcaaGreatDoor

namespace Go.Proofs.YtlmejpkngnilcaaGreatDoor
open Go.RowKit

/-- Bytes as cells. -/
def iv (l : List Int) : List Value := l.map fun b => .int .i64 b
theorem iv_length (l : List Int) : (iv l).length = l.length := by simp [iv]
theorem iv_append (l m : List Int) : iv (l ++ m) = iv l ++ iv m := by simp [iv]
theorem iv_one (l : List Int) : ∀ u ∈ iv l, u.oneCell' = true := by
  intro u hu
  simp only [iv, List.mem_map] at hu
  obtain ⟨b, _, rfl⟩ := hu
  rfl
theorem iv_drop (l : List Int) (k : Nat) : iv (l.drop k) = (iv l).drop k := by simp [iv]
theorem iv_take (l : List Int) (k : Nat) : iv (l.take k) = (iv l).take k := by simp [iv]
theorem iv_get (l : List Int) (k : Nat) (h : k < l.length) : (iv l)[k]? = some (.int .i64 l[k]) := by simp [iv, h]

/-- The numbers of the types of bytes in a program. -/
structure IT (P : Program) (t e : TypeId) : Prop where
  sl : P.underlying t = some (.slice e)
  el : P.underlying e = some (.int .i64)
  info : (P.info? e).map (fun i => (i.zero, i.size, i.bytes)) = some (some (.int .i64 0), 1, 8)

/-- A slice of bytes reads as l. -/
def RdI (w : World) (B : Nat) (A : Option Addr) (l : List Int) : Prop := Reads w B 1 A l.length (iv l)
/-- A slice of bytes, the call's own (from block 'base' on), reads as l. -/
def OwnI (w : World) (base : Nat) (e : TypeId) (A : Option Addr) (c : Nat) (l : List Int) : Prop := w.ownsRow base e 1 (.slice A l.length c) l.length (iv l)
section
variable {w w' : World} {B base : Nat} {e : TypeId} {A : Option Addr} {c : Nat} {l : List Int}
theorem RdI.below {D : Nat} (h : RdI w B A l) (hb : Below D w w') (hD : B ≤ D) : RdI w' B A l := Reads.below h hb hD
theorem RdI.alloc (h : RdI w B A l) (hB : B ≤ w.heap.size) (o : Obj) : RdI (w.alloc o) B A l := Reads.alloc h hB o
theorem RdI.more {B' : Nat} (h : RdI w B A l) (hB : B ≤ B') : RdI w B' A l := Reads.more h hB
theorem RdI.nil : RdI w B A [] := Reads.none_
theorem RdI.grown (h : RdI w B A l) {row : Option Nat} (hg : w.grownBy w' row) (hB : B ≤ w.heap.size) (hr : ∀ g, row = some g → B ≤ g) : RdI w' B A l := Reads.grown h hg hB hr
theorem RdI.cell (h : RdI w B A l) {k : Nat} (hk : k < l.length) : ∃ ad, A = some ad ∧ ad.block < B ∧ w.cell? (ad.add k) = some (.int .i64 l[k]) := by
  obtain ⟨ad, u, h1, h2, h3, h4⟩ := Reads.at_ h hk
  rw [iv_get l k hk] at h3
  injection h3 with h3
  exact ⟨ad, h1, h2, by rw [h4, h3]⟩
theorem RdI.drop (h : RdI w B A l) {k cap : Nat} (hk : k ≤ l.length) (hc : l.length ≤ cap) : RdI w B (if cap = k then A else A.map (·.add k)) (l.drop k) := by
  have := Reads.drop h hk hc
  unfold RdI
  rw [List.length_drop, iv_drop]
  exact this
theorem RdI.take (h : RdI w B A l) {k : Nat} (hk : k ≤ l.length) : RdI w B A (l.take k) := by
  have := Reads.take h hk
  unfold RdI
  rw [List.length_take, iv_take, Nat.min_eq_left hk]
  exact this
theorem OwnI.rd (h : OwnI w base e A c l) : RdI w w.heap.size A l := Reads.of_own h
theorem OwnI.cap (h : OwnI w base e A c l) : l.length ≤ c := by
  rcases h.2 with ⟨hv, hn⟩ | ⟨g, cap, cur, hv, _, _, hc, _⟩
  · omega
  · injection hv with _ _ h3; omega
theorem OwnI.kept {row : Option Nat} (h : OwnI w base e A c l) (hg : w.grownBy w' row) (hne : blk A = none ∨ blk A ≠ row) : OwnI w' base e A c l :=
  World.ownsRow.kept h hg (by rw [ownBlock_slice]; exact hne)
theorem OwnI.alloc (h : OwnI w base e A c l) (o : Obj) : OwnI (w.alloc o) base e A c l := World.ownsRow.alloc h o
theorem OwnI.below (h : OwnI w base e A c l) (hb : Below w.heap.size w w') : OwnI w' base e A c l :=
  World.ownsRow.kept (row := none) h ⟨hb.os, hb.tape, hb.output, hb.size, fun k hk _ => hb.block k hk⟩ (by cases A <;> simp [Value.ownBlock])
theorem OwnI.mono {base' : Nat} (h : OwnI w base e A c l) (hb : base' ≤ base) : OwnI w base' e A c l := by
  refine ⟨h.1, ?_⟩
  rcases h.2 with h2 | ⟨g, cap, cur, hv, hg, r⟩
  · exact .inl h2
  · exact .inr ⟨g, cap, cur, hv, by omega, r⟩
theorem OwnI.blk_ge (h : OwnI w base e A c l) : ∀ g, blk A = some g → base ≤ g ∧ g < w.heap.size := by
  intro g hg
  refine World.ownsRow.lt h g ?_
  cases A with
  | none => simp [blk] at hg
  | some a => simpa [Value.ownBlock, blk] using hg
theorem OwnI.nil (w : World) (base : Nat) (e : TypeId) : OwnI w base e none 0 [] := World.ownsRow_nil _ _ _ _
end

section
variable {P : Program} (w : World)
/-- append of bytes onto bytes of the call's own. -/
theorem run_append_i {t e : TypeId} (T : IT P t e) (ty : TypeId) (base : Nat) (A : Option Addr) (c : Nat) (l : List Int) (hown : OwnI w base e A c l)
    (B : Nat) (A2 : Option Addr) (m c2 : Nat) (l2 : List Int) (hm : m = l2.length) (hr : RdI w B A2 l2) (hlen : l.length + l2.length ≤ 1000000) (hbase : base ≤ w.heap.size) :
    ∃ A' c' w', (Builtin.append_ #[t, t] ty #[.slice A l.length c, .slice A2 m c2]).run P w = .ok (.slice A' (l ++ l2).length c') w' ∧ OwnI w' base e A' c' (l ++ l2) ∧ w.grownBy w' (blk A) ∧
      (blk A' = blk A ∨ blk A' = some w.heap.size) := by
  subst hm
  obtain ⟨i, hi, hz0, hz1, hz2⟩ := info_parts T.info
  obtain ⟨v', w', hrun, h2, h3, h4⟩ := run_append_any (P := P) w base t ty e i _ 1 8 T.sl hi hz0 hz1 hz2 rfl (by omega) (.slice A l.length c) l.length (iv l) hown B A2 l2.length c2 (iv l2) hr (iv_one l2)
    (by unfold maxLen; omega) (by omega) hbase
  rw [ownBlock_slice] at h3 h4
  have hv : ∃ A' c', v' = .slice A' (l ++ l2).length c' := by
    rw [List.length_append]
    rcases h2.2 with ⟨hv, hn⟩ | ⟨g, cap, cur, hv, _⟩
    · exact ⟨none, 0, by rw [hv, hn]⟩
    · exact ⟨_, _, hv⟩
  obtain ⟨A', c', rfl⟩ := hv
  rw [ownBlock_slice] at h4
  refine ⟨A', c', w', hrun, ?_, h3, h4⟩
  unfold OwnI
  rw [iv_append]
  rw [List.length_append] at h2 ⊢
  exact h2

theorem wp_append_i {o : Oper} {a : Act} {K : Act → World → Prop} {Q : Exit → Act → World → Prop} (s x : Operand) {t e : TypeId} (T : IT P t e)
    (ho : o.op = .call { callee := .builtin .append, args := #[s, x], argTypes := #[t, t] })
    (base : Nat) (A : Option Addr) (c : Nat) (l : List Int) (hs : a.eval s = .slice A l.length c) (hown : OwnI w base e A c l)
    (B : Nat) (A2 : Option Addr) (m c2 : Nat) (l2 : List Int) (hx : a.eval x = .slice A2 m c2) (hm : m = l2.length) (hr : RdI w B A2 l2) (hlen : l.length + l2.length ≤ 1000000) (hbase : base ≤ w.heap.size)
    (h : ∀ A' c' L w', L = l ++ l2 → OwnI w' base e A' c' L → w.grownBy w' (blk A) → (blk A' = blk A ∨ blk A' = some w.heap.size) → K (a.put o.dst (.slice A' L.length c')) w') : o.wp P a w K Q := by
  obtain ⟨A', c', w', hrun, h2, h3, h4⟩ := run_append_i (P := P) w T o.type base A c l hown B A2 m c2 l2 hm hr hlen hbase
  unfold Oper.wp execOp
  simp only [ho, resolve, invoke, builtin, Sem.run_bind, Sem.run_pure, Result.andThen_ok, List.map_toArray, List.map_cons, List.map_nil, hs, hx, hrun]
  exact h A' c' _ w' rfl h2 h3 h4

/-- .. at the list of a plain region's operations. -/
theorem wpList_append_i {ops : Array Oper} {rest : List Oper} {o : Oper} {a : Act} {Q : Exit → Act → World → Prop} (hgd : o.guard = none) (s x : Operand) {t e : TypeId} (T : IT P t e)
    (ho : o.op = .call { callee := .builtin .append, args := #[s, x], argTypes := #[t, t] })
    (base : Nat) (A : Option Addr) (c : Nat) (l : List Int) (hs : a.eval s = .slice A l.length c) (hown : OwnI w base e A c l)
    (B : Nat) (A2 : Option Addr) (m c2 : Nat) (l2 : List Int) (hx : a.eval x = .slice A2 m c2) (hm : m = l2.length) (hr : RdI w B A2 l2) (hlen : l.length + l2.length ≤ 1000000) (hbase : base ≤ w.heap.size)
    (h : ∀ A' c' L w', L = l ++ l2 → OwnI w' base e A' c' L → w.grownBy w' (blk A) → (blk A' = blk A ∨ blk A' = some w.heap.size) → wpList P ops Q rest (a.put o.dst (.slice A' L.length c')) w') : wpList P ops Q (o :: rest) a w :=
  wpList_plain hgd fun _ hK => wp_append_i w s x T ho base A c l hs hown B A2 m c2 l2 hx hm hr hlen hbase fun A' c' L w' h1 h2 h3 h4 => hK _ _ (h A' c' L w' h1 h2 h3 h4)

/-- .. at a step of a region that draws its order. -/
theorem step_append_i {ops : Array Oper} {o : Oper} {a : Act} {K : Act → World → Prop} {Q : Exit → Act → World → Prop} {E : Prop} (hgd : o.guard = none) (s x : Operand) {t e : TypeId} (T : IT P t e)
    (ho : o.op = .call { callee := .builtin .append, args := #[s, x], argTypes := #[t, t] })
    (base : Nat) (A : Option Addr) (c : Nat) (l : List Int) (hs : a.eval s = .slice A l.length c) (hown : OwnI w base e A c l)
    (B : Nat) (A2 : Option Addr) (m c2 : Nat) (l2 : List Int) (hx : a.eval x = .slice A2 m c2) (hm : m = l2.length) (hr : RdI w B A2 l2) (hlen : l.length + l2.length ≤ 1000000) (hbase : base ≤ w.heap.size)
    (h : ∀ A' c' L w', L = l ++ l2 → OwnI w' base e A' c' L → w.grownBy w' (blk A) → (blk A' = blk A ∨ blk A' = some w.heap.size) → K (a.put o.dst (.slice A' L.length c')) w') :
    if Region.wanted o (yielded ops a.tmps) = true then Oper.wp P o a w K Q else E := by
  have hw : Region.wanted o (yielded ops a.tmps) = true := by simp [Region.wanted, hgd]
  rw [if_pos hw]
  exact wp_append_i w s x T ho base A c l hs hown B A2 m c2 l2 hx hm hr hlen hbase h

/-- 'step_append_i' with the destination named. -/
theorem step_append_id {ops : Array Oper} {o : Oper} {a : Act} {K : Act → World → Prop} {Q : Exit → Act → World → Prop} {E : Prop} (hgd : o.guard = none) (d : Option Tmp) (hd : o.dst = d) (s x : Operand) {t e : TypeId} (T : IT P t e)
    (ho : o.op = .call { callee := .builtin .append, args := #[s, x], argTypes := #[t, t] })
    (base : Nat) (A : Option Addr) (c : Nat) (l : List Int) (hs : a.eval s = .slice A l.length c) (hown : OwnI w base e A c l)
    (B : Nat) (A2 : Option Addr) (m c2 : Nat) (l2 : List Int) (hx : a.eval x = .slice A2 m c2) (hm : m = l2.length) (hr : RdI w B A2 l2) (hlen : l.length + l2.length ≤ 1000000) (hbase : base ≤ w.heap.size)
    (h : ∀ A' c' L w', L = l ++ l2 → OwnI w' base e A' c' L → w.grownBy w' (blk A) → (blk A' = blk A ∨ blk A' = some w.heap.size) → K (a.put d (.slice A' L.length c')) w') :
    if Region.wanted o (yielded ops a.tmps) = true then Oper.wp P o a w K Q else E := by
  subst hd
  exact step_append_i w hgd s x T ho base A c l hs hown B A2 m c2 l2 hx hm hr hlen hbase h
end
theorem it : IT Tryz.prog 87 2 := ⟨Tryz.underlying87, Tryz.underlying2, by kernel_rfl⟩
end Go.Proofs.YtlmejpkngnilcaaGreatDoor
