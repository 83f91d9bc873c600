/- Lines and items of a statement as lists: rows of structs, read. -/
import Derived.Test.YtcegcgbcffdjjaaDoorProg
import Derived.Test.YtcegcgbcffdjjaaDoorByt
namespace Go.Proofs.YtcegcgbcffdjjaaDoor
open Go.RowKit

theorem rows_len {α : Type} (f : α → List Value) (n : Nat) (hf : ∀ a, (f a).length = n) (l : List α) : (l.flatMap f).length = l.length * n := by
  induction l with
  | nil => simp
  | cons p l ih => rw [List.flatMap_cons, List.length_append, ih, hf, List.length_cons, Nat.succ_mul]; omega
theorem rows_get {α : Type} (f : α → List Value) (n : Nat) (hf : ∀ a, (f a).length = n) (l : List α) (k : Nat) (hk : k < l.length) (j : Nat) (hj : j < n) : (l.flatMap f)[k * n + j]? = (f l[k])[j]? := by
  induction l generalizing k with
  | nil => simp at hk
  | cons p l ih =>
    rw [List.flatMap_cons]
    match k with
    | 0 =>
      rw [List.getElem?_append_left (by rw [hf]; omega)]
      simp
    | k + 1 =>
      rw [List.getElem?_append_right (by rw [hf, Nat.succ_mul]; omega)]
      have e : (k + 1) * n + j - (f p).length = k * n + j := by rw [hf, Nat.succ_mul]; omega
      rw [e]
      exact ih k (by simpa using hk)
theorem rows_at {α : Type} (f : α → List Value) (n : Nat) (hf : ∀ a, (f a).length = n) (hn : 0 < n) {l : List α} {w : World} {B : Nat} {A : Option Addr} (h : Reads w B n A l.length (l.flatMap f)) (hl : 0 < l.length) :
    ∃ b off, A = some ⟨b, off, none⟩ ∧ b < B ∧ ∀ k (hk : k < l.length) j u, (f l[k])[j]? = some u → w.cell? ⟨b, off + k * n + j, none⟩ = some u := by
  obtain ⟨ad, hA, hb, hc⟩ := h.2 hl
  obtain ⟨b, off, spot⟩ := ad
  have hu : (f l[0])[0]? = some ((f l[0])[0]'(by rw [hf]; exact hn)) := List.getElem?_eq_getElem _
  have h0 := hc (0 * n + 0) _ (by rw [rows_get f n hf l 0 hl 0 hn]; exact hu)
  have hsp : spot = none := by
    cases spot with
    | none => rfl
    | some s =>
      simp only [Addr.add, if_pos, Nat.zero_mul] at h0
      unfold World.cell? at h0
      simp only [Option.isSome_some, if_true] at h0
      split at h0 <;> cases h0
  subst hsp
  have hadd : ∀ j, (⟨b, off, none⟩ : Addr).add j = ⟨b, off + j, none⟩ := by intro j; unfold Addr.add; split <;> simp_all
  refine ⟨b, off, hA, hb, fun k hk j u hj => ?_⟩
  have hjn : j < n := by
    rcases Nat.lt_or_ge j n with h | h
    · exact h
    · rw [List.getElem?_eq_none (by rw [hf]; exact h)] at hj; cases hj
  have := hc (k * n + j) u (by rw [rows_get f n hf l k hk j hjn]; exact hj)
  rw [hadd, ← Nat.add_assoc] at this
  exact this

structure Ln where
  day : Int
  kind : Int
  ref : Int
  owed : Int
  credit : Int
def Ln.cells (p : Ln) : List Value := [.int .i64 p.day, .int .i64 p.kind, .int .i64 p.ref, .int .i64 p.owed, .int .i64 p.credit]
structure It where
  due : Int
  kind : Int
  period : Int
  open_ : Int
def It.cells (p : It) : List Value := [.int .i64 p.due, .int .i64 p.kind, .int .i64 p.period, .int .i64 p.open_]
def RdL (w : World) (B : Nat) (A : Option Addr) (l : List Ln) : Prop := Reads w B 5 A l.length (l.flatMap Ln.cells)
def RdT (w : World) (B : Nat) (A : Option Addr) (l : List It) : Prop := Reads w B 4 A l.length (l.flatMap It.cells)
section
variable {w w' : World} {B : Nat} {A : Option Addr} {l : List Ln} {m : List It}
theorem RdL.below {D : Nat} (h : RdL w B A l) (hb : Below D w w') (hD : B ≤ D) : RdL w' B A l := Reads.below h hb hD
theorem RdL.more {B' : Nat} (h : RdL w B A l) (hB : B ≤ B') : RdL w B' A l := Reads.more h hB
theorem RdT.below {D : Nat} (h : RdT w B A m) (hb : Below D w w') (hD : B ≤ D) : RdT w' B A m := Reads.below h hb hD
theorem RdT.more {B' : Nat} (h : RdT w B A m) (hB : B ≤ B') : RdT w B' A m := Reads.more h hB
theorem RdL.at_ (h : RdL w B A l) {k : Nat} (hk : k < l.length) : ∃ b off, A = some ⟨b, off, none⟩ ∧ b < B ∧
    w.cell? ⟨b, off + k * 5, none⟩ = some (.int .i64 l[k].day) ∧ w.cell? ⟨b, off + k * 5 + 1, none⟩ = some (.int .i64 l[k].kind) ∧ w.cell? ⟨b, off + k * 5 + 2, none⟩ = some (.int .i64 l[k].ref) ∧
    w.cell? ⟨b, off + k * 5 + 3, none⟩ = some (.int .i64 l[k].owed) ∧ w.cell? ⟨b, off + k * 5 + 4, none⟩ = some (.int .i64 l[k].credit) := by
  obtain ⟨b, off, hA, hb, hc⟩ := rows_at Ln.cells 5 (fun _ => rfl) (by omega) h (by omega)
  exact ⟨b, off, hA, hb, hc k hk 0 _ rfl, hc k hk 1 _ rfl, hc k hk 2 _ rfl, hc k hk 3 _ rfl, hc k hk 4 _ rfl⟩
theorem RdT.at_ (h : RdT w B A m) {k : Nat} (hk : k < m.length) : ∃ b off, A = some ⟨b, off, none⟩ ∧ b < B ∧
    w.cell? ⟨b, off + k * 4, none⟩ = some (.int .i64 m[k].due) ∧ w.cell? ⟨b, off + k * 4 + 1, none⟩ = some (.int .i64 m[k].kind) ∧ w.cell? ⟨b, off + k * 4 + 2, none⟩ = some (.int .i64 m[k].period) ∧
    w.cell? ⟨b, off + k * 4 + 3, none⟩ = some (.int .i64 m[k].open_) := by
  obtain ⟨b, off, hA, hb, hc⟩ := rows_at It.cells 4 (fun _ => rfl) (by omega) h (by omega)
  exact ⟨b, off, hA, hb, hc k hk 0 _ rfl, hc k hk 1 _ rfl, hc k hk 2 _ rfl, hc k hk 3 _ rfl⟩
end
end Go.Proofs.YtcegcgbcffdjjaaDoor
