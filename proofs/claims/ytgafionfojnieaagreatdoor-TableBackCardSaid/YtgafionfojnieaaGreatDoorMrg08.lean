/- Parts of the proof, one behind the other: '[]byte(s)' at the list of operations; slices of parts. Over any program. -/
import Derived.Test.YtgafionfojnieaaGreatDoorMrg01
import Derived.Laws.IdiomStrings
import Derived.Lib.BytesEntry
namespace Go.Proofs.YtgafionfojnieaaGreatDoor
open Go.RowKit
theorem at_conv {P : Program} {ops : Array Oper} {rest : List Oper} {Q : Exit → Act → World → Prop} {a : Act} {w : World} {dst ty pos aft gd s d x}
   (h : wpList P ops Q (⟨dst, .convert s d x, ty, pos, aft, gd⟩ :: rest) a w) : wpList P ops Q (⟨dst, .convert s d x, ty, pos, aft, gd⟩ :: rest) a w := h
section
variable {P : Program} (w : World)
theorem rdB_bytesRow (s : ByteArray) (cap : Nat) (e : TypeId) (fr : Nat × Nat) : RdB (w.drew.alloc (.cells (bytesRow s cap) e fr)) (w.heap.size + 1) (some ⟨w.heap.size, 0, none⟩) s.data.toList := by
 refine ⟨by simp [bv], fun _ => ⟨_, rfl, by simp, fun j u hu => ?_⟩⟩
 have hadd : (⟨w.heap.size, 0, none⟩ : Addr).add j = ⟨w.heap.size, j, none⟩ := by unfold Addr.add; split <;> simp_all
 have hh : (w.drew.alloc (.cells (bytesRow s cap) e fr)).heap[w.heap.size]? = some (.cells (bytesRow s cap) e fr) := heap_alloc_new w.drew _
 have hj : j < s.data.size := by
   rcases Nat.lt_or_ge j s.data.size with h | h
   · exact h
   · rw [List.getElem?_eq_none (by simp [bv]; exact h)] at hu; cases hu
 rw [hadd]
 have : (w.drew.alloc (.cells (bytesRow s cap) e fr)).cell? ⟨w.heap.size, j, none⟩ = (bytesRow s cap)[j]? := by
   simp only [World.cell?]
   rw [hh]
   rfl
 rw [this, bytesRow_at s cap j hj]
 rw [bv_get _ j (by simpa using hj)] at hu
 simpa using hu
theorem wpList_conv_b {ops : Array Oper} {rest : List Oper} {o : Oper} {a : Act} {Q : Exit → Act → World → Prop} (hgd : o.guard = none) (x : Operand) {t e st : TypeId} (T : BT P t e) (hst : P.underlying st = some .string)
   (ho : o.op = .convert st t x) (s : ByteArray) (hx : a.eval x = .string s) (hs : s.size ≤ 9223372036854775807)
   (h : ∀ cap w', s.size ≤ cap → cap ≤ 9223372036854775807 → RdB w' w'.heap.size (some ⟨w.heap.size, 0, none⟩) s.data.toList → Below w.heap.size w w' → w.heap.size < w'.heap.size → wpList P ops Q rest (a.put o.dst (.slice (some ⟨w.heap.size, 0, none⟩) s.size cap)) w') :
   wpList P ops Q (o :: rest) a w := by
 refine wpList_plain hgd fun K hK => ?_
 have hrun := run_bytes_of_string (P := P) w st t e s hst T.sl T.el
 unfold Oper.wp execOp
 simp only [ho, hx, Sem.run_bind, hrun, Result.andThen, Sem.run_pure]
 refine hK _ _ (h _ _ (grownCap_ge w s.size 0 e) ?_ ?_ ?_ ?_)
 · have := grownCap_le_maxLen w s.size 0 e (by unfold maxLen; omega)
   unfold maxLen at this
   omega
 · refine RdB.more (rdB_bytesRow w s _ e _) ?_
   simp
 · have k := ((Below.refl w.heap.size w).drew).alloc (o := .cells (bytesRow s (grownCap w s.size 0 e)) e ((bytesRow s (grownCap w s.size 0 e)).size, (bytesRow s (grownCap w s.size 0 e)).size + 1)) (Nat.le_refl _)
   exact k
 · simp
end
structure Pt where
 t : Bool
 n : Nat
 s : ByteArray
def Pt.cells (p : Pt) : List Value := [.bool p.t, .int .u64 (p.n : Int), .string p.s]
def pv (l : List Pt) : List Value := l.flatMap Pt.cells
theorem pv_append (l m : List Pt) : pv (l ++ m) = pv l ++ pv m := by simp [pv]
theorem pv_get (l : List Pt) (k : Nat) (hk : k < l.length) (j : Nat) (hj : j < 3) : (pv l)[k * 3 + j]? = l[k].cells[j]? := by
 induction l generalizing k with
 | nil => simp at hk
 | cons p l ih =>
   simp only [pv, List.flatMap_cons]
   match k with
   | 0 =>
     rw [List.getElem?_append_left (by simp [Pt.cells]; omega)]
     simp
   | k + 1 =>
     rw [List.getElem?_append_right (by simp [Pt.cells]; omega)]
     have e : (k + 1) * 3 + j - p.cells.length = k * 3 + j := by simp [Pt.cells]; omega
     rw [e]
     exact ih k (by simpa using hk)
def RdP (w : World) (B : Nat) (A : Option Addr) (l : List Pt) : Prop := Reads w B 3 A l.length (pv l)
section
variable {w w' : World} {B : Nat} {A : Option Addr} {l : List Pt}
theorem RdP.below {D : Nat} (h : RdP w B A l) (hb : Below D w w') (hD : B ≤ D) : RdP w' B A l := Reads.below h hb hD
theorem RdP.more {B' : Nat} (h : RdP w B A l) (hB : B ≤ B') : RdP w B' A l := Reads.more h hB
theorem RdP.alloc (h : RdP w B A l) (hB : B ≤ w.heap.size) (o : Obj) : RdP (w.alloc o) B A l := Reads.alloc h hB o
theorem RdP.at_ (h : RdP w B A l) {k : Nat} (hk : k < l.length) : ∃ b off, A = some ⟨b, off, none⟩ ∧ b < B ∧
   w.cell? ⟨b, off + k * 3, none⟩ = some (.bool l[k].t) ∧ w.cell? ⟨b, off + k * 3 + 1, none⟩ = some (.int .u64 (l[k].n : Int)) ∧ w.cell? ⟨b, off + k * 3 + 2, none⟩ = some (.string l[k].s) := by
 obtain ⟨ad, hA, hb, hc⟩ := h.2 (by omega)
 obtain ⟨b, off, spot⟩ := ad
 have h0 := hc 0 (.bool l[0].t) (by have := pv_get l 0 (by omega) 0 (by omega); simpa [Pt.cells] using this)
 have hsp : spot = none := by
   cases spot with
   | none => rfl
   | some s =>
     simp only [Addr.add, if_pos] at h0
     unfold World.cell? at h0
     simp only [Option.isSome_some, if_true] at h0
     split at h0 <;> cases h0
 subst hsp
 have hadd : ∀ j, (⟨b, off, none⟩ : Addr).add j = ⟨b, off + j, none⟩ := by intro j; unfold Addr.add; split <;> simp_all
 refine ⟨b, off, hA, hb, ?_, ?_, ?_⟩
 · have := hc (k * 3 + 0) (.bool l[k].t) (by rw [pv_get l k hk 0 (by omega)]; rfl)
   rw [hadd] at this; exact this
 · have := hc (k * 3 + 1) (.int .u64 (l[k].n : Int)) (by rw [pv_get l k hk 1 (by omega)]; rfl)
   rw [hadd] at this; exact this
 · have := hc (k * 3 + 2) (.string l[k].s) (by rw [pv_get l k hk 2 (by omega)]; rfl)
   rw [hadd] at this; exact this
end
end Go.Proofs.YtgafionfojnieaaGreatDoor
