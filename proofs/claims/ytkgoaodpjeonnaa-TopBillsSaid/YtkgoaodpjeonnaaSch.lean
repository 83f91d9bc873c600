/- Schedules and returns as values; the reference's Right of both; the program's Right of both, where they may be. -/
import Derived.Test.YtkgoaodpjeonnaaNumA
import Derived.Test.YtkgoaodpjeonnaaByt
namespace Go.Proofs.Ytkgoaodpjeonnaa
open Go.RowKit

structure Br where
  f : Int
  b : Int
def Br.cells (p : Br) : List Value := [.int .i64 p.f, .int .i64 p.b]
def brv (l : List Br) : List Value := l.flatMap Br.cells
theorem brv_length (l : List Br) : (brv l).length = l.length * 2 := by
  induction l with
  | nil => rfl
  | cons p l ih => simp only [brv, List.flatMap_cons, List.length_append] at ih ⊢; rw [ih]; simp [Br.cells]; omega
theorem brv_get (l : List Br) (k : Nat) (hk : k < l.length) (j : Nat) (hj : j < 2) : (brv l)[k * 2 + j]? = l[k].cells[j]? := by
  induction l generalizing k with
  | nil => simp at hk
  | cons p l ih =>
    simp only [brv, List.flatMap_cons]
    match k with
    | 0 =>
      rw [List.getElem?_append_left (by simp [Br.cells]; omega)]
      simp
    | k + 1 =>
      rw [List.getElem?_append_right (by simp [Br.cells]; omega)]
      have e : (k + 1) * 2 + j - p.cells.length = k * 2 + j := by simp [Br.cells]; omega
      rw [e]
      exact ih k (by simpa using hk)
/-- A slice of brackets reads as l. -/
def RdS (w : World) (B : Nat) (A : Option Addr) (l : List Br) : Prop := Reads w B 2 A l.length (brv l)
section
variable {w w' : World} {B : Nat} {A : Option Addr} {l : List Br}
theorem RdS.below {D : Nat} (h : RdS w B A l) (hb : Below D w w') (hD : B ≤ D) : RdS w' B A l := Reads.below h hb hD
theorem RdS.more {B' : Nat} (h : RdS w B A l) (hB : B ≤ B') : RdS w B' A l := Reads.more h hB
theorem RdS.at_ (h : RdS w B A l) {k : Nat} (hk : k < l.length) : ∃ b off, A = some ⟨b, off, none⟩ ∧ b < B ∧
    w.cell? ⟨b, off + k * 2, none⟩ = some (.int .i64 l[k].f) ∧ w.cell? ⟨b, off + k * 2 + 1, none⟩ = some (.int .i64 l[k].b) := by
  obtain ⟨ad, hA, hb, hc⟩ := h.2 (by omega)
  obtain ⟨b, off, spot⟩ := ad
  have h0 := hc 0 (.int .i64 l[0].f) (by have := brv_get l 0 (by omega) 0 (by omega); simpa [Br.cells] using this)
  have hsp : spot = none := by
    cases spot with
    | none => rfl
    | some s =>
      simp only [Addr.add, if_pos] at h0
      unfold World.cell? at h0
      simp only [Option.isSome_some, if_true] at h0
      split at h0 <;> cases h0
  subst hsp
  have hadd : ∀ j, (⟨b, off, none⟩ : Addr).add j = ⟨b, off + j, none⟩ := by intro j; unfold Addr.add; split <;> simp_all
  refine ⟨b, off, hA, hb, ?_, ?_⟩
  · have := hc (k * 2 + 0) (.int .i64 l[k].f) (by rw [brv_get l k hk 0 (by omega)]; rfl)
    rw [hadd] at this; exact this
  · have := hc (k * 2 + 1) (.int .i64 l[k].b) (by rw [brv_get l k hk 1 (by omega)]; rfl)
    rw [hadd] at this; exact this
end
def Mon (a : Int) : Prop := 0 ≤ a ∧ a ≤ 1125899906842624
instance (a : Int) : Decidable (Mon a) := by unfold Mon; infer_instance
def BrOk (l : List Br) (k : Nat) : Prop := ∃ h : k < l.length, Mon l[k].f ∧ 0 ≤ l[k].b ∧ l[k].b ≤ 10000 ∧ ∀ h0 : 0 < k, l[k - 1].f < l[k].f
/-- A schedule that may be. -/
structure SchOk (l : List Br) (ded cred lbp most least : Int) : Prop where
  one : 1 ≤ l.length
  ten : l.length ≤ 10
  zero : ∀ h : 0 < l.length, l[0].f = 0
  lbp0 : 0 ≤ lbp
  lbp1 : lbp ≤ 10000
  most0 : 0 ≤ most
  most1 : most ≤ 60
  all : ∀ k, k < l.length → BrOk l k
  ded : Mon ded
  cred : Mon cred
  least : Mon least
/-- A return that may be. -/
structure RetOk (per due filed inc wh : Int) : Prop where
  per0 : 1 ≤ per
  per1 : per ≤ 99999
  due0 : 0 ≤ due
  due1 : due ≤ 3652058
  filed0 : 0 ≤ filed
  filed1 : filed ≤ 3652058
  inc : Mon inc
  wh : Mon wh
def Day (a : Int) : Prop := 0 ≤ a ∧ a ≤ 3652058
instance (a : Int) : Decidable (Day a) := by unfold Day; infer_instance
/-- A schedule as a value. -/
def SV (A : Option Addr) (n c : Nat) (ded cred lbp most least : Int) : Value := .agg #[.slice A n c, .int .i64 ded, .int .i64 cred, .int .i64 lbp, .int .i64 most, .int .i64 least]
def RV (per due filed inc wh : Int) : Value := .agg #[.int .i64 per, .int .i64 due, .int .i64 filed, .int .i64 inc, .int .i64 wh]
/-- A test that says yes only if P. -/
def SaysIf (P : Prop) (w : World) (e : Ending) (w' : World) : Prop := ∃ b, e = .returned (.bool b) ∧ (b = true → P) ∧ Below w.heap.size w w'
theorem says_no {P : Prop} {w w' : World} (hb : Below w.heap.size w w') : SaysIf P w (.returned (.bool false)) w' := ⟨false, rfl, (fun h => by cases h), hb⟩
theorem says_yes {P : Prop} {w w' : World} (h : P) (hb : Below w.heap.size w w') : SaysIf P w (.returned (.bool true)) w' := ⟨true, rfl, (fun _ => h), hb⟩
end Go.Proofs.Ytkgoaodpjeonnaa
