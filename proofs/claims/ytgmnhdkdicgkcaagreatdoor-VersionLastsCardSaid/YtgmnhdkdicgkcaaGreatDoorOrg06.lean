/- Parts of the proof, one behind the other: '[]byte(s)' at the list of operations; slices of parts. Over any program.; A region that draws its order, whose operations only read and whose callees leave alone what was there: walked once. -/
import Derived.Test.YtgmnhdkdicgkcaaGreatDoorOrg01
import Derived.Laws.IdiomStrings
import Derived.Lib.BytesEntry
import Derived.Deep.QuietTactic
import Derived.BigQuiet
namespace Go.Proofs.YtgmnhdkdicgkcaaGreatDoor
open Go.RowKit
theorem at_conv {P : Program} {ops : Array Oper} {rest : List Oper} {Q : Exit → Act → World → Prop} {a : Act} {w : World} {dst ty pos aft gd s d x}
   (h : wpList P ops Q (⟨dst, .convert s d x, ty, pos, aft, gd⟩ :: rest) a w) : wpList P ops Q (⟨dst, .convert s d x, ty, pos, aft, gd⟩ :: rest) a w := h
section
variable {P : Program} (w : World)
theorem rdB_bytesRow (s : ByteArray) (cap : Nat) (e : TypeId) (fr : Nat × Nat) : RdB (w.drew.alloc (.cells (bytesRow s cap) e fr)) (w.heap.size + 1) (some ⟨w.heap.size, 0, none⟩) s.data.toList := by
 refine ⟨by simp [bv], fun _ => ⟨_, rfl, by simp, fun j u hu => ?_⟩⟩
 have hadd : (⟨w.heap.size, 0, none⟩ : Addr).add j = ⟨w.heap.size, j, none⟩ := by unfold Addr.add; split <;> simp_all
 have hh : (w.drew.alloc (.cells (bytesRow s cap) e fr)).heap[w.heap.size]? = some (.cells (bytesRow s cap) e fr) := heap_alloc_new w.drew _
 have hj : j < s.data.size := by
   rcases Nat.lt_or_ge j s.data.size with h | h
   · exact h
   · rw [List.getElem?_eq_none (by simp [bv]; exact h)] at hu; cases hu
 rw [hadd]
 have : (w.drew.alloc (.cells (bytesRow s cap) e fr)).cell? ⟨w.heap.size, j, none⟩ = (bytesRow s cap)[j]? := by
   simp only [World.cell?]
   rw [hh]
   rfl
 rw [this, bytesRow_at s cap j hj]
 rw [bv_get _ j (by simpa using hj)] at hu
 simpa using hu
theorem wpList_conv_b {ops : Array Oper} {rest : List Oper} {o : Oper} {a : Act} {Q : Exit → Act → World → Prop} (hgd : o.guard = none) (x : Operand) {t e st : TypeId} (T : BT P t e) (hst : P.underlying st = some .string)
   (ho : o.op = .convert st t x) (s : ByteArray) (hx : a.eval x = .string s) (hs : s.size ≤ 9223372036854775807)
   (h : ∀ cap w', s.size ≤ cap → cap ≤ 9223372036854775807 → RdB w' w'.heap.size (some ⟨w.heap.size, 0, none⟩) s.data.toList → Below w.heap.size w w' → w.heap.size < w'.heap.size → wpList P ops Q rest (a.put o.dst (.slice (some ⟨w.heap.size, 0, none⟩) s.size cap)) w') :
   wpList P ops Q (o :: rest) a w := by
 refine wpList_plain hgd fun K hK => ?_
 have hrun := run_bytes_of_string (P := P) w st t e s hst T.sl T.el
 unfold Oper.wp execOp
 simp only [ho, hx, Sem.run_bind, hrun, Result.andThen, Sem.run_pure]
 refine hK _ _ (h _ _ (grownCap_ge w s.size 0 e) ?_ ?_ ?_ ?_)
 · have := grownCap_le_maxLen w s.size 0 e (by unfold maxLen; omega)
   unfold maxLen at this
   omega
 · refine RdB.more (rdB_bytesRow w s _ e _) ?_
   simp
 · have k := ((Below.refl w.heap.size w).drew).alloc (o := .cells (bytesRow s (grownCap w s.size 0 e)) e ((bytesRow s (grownCap w s.size 0 e)).size, (bytesRow s (grownCap w s.size 0 e)).size + 1)) (Nat.le_refl _)
   exact k
 · simp
end
structure Pt where
 t : Bool
 n : Nat
 s : ByteArray
def Pt.cells (p : Pt) : List Value := [.bool p.t, .int .u64 (p.n : Int), .string p.s]
def pv (l : List Pt) : List Value := l.flatMap Pt.cells
theorem pv_get (l : List Pt) (k : Nat) (hk : k < l.length) (j : Nat) (hj : j < 3) : (pv l)[k * 3 + j]? = l[k].cells[j]? := by
 induction l generalizing k with
 | nil => simp at hk
 | cons p l ih =>
   simp only [pv, List.flatMap_cons]
   match k with
   | 0 =>
     rw [List.getElem?_append_left (by simp [Pt.cells]; omega)]
     simp
   | k + 1 =>
     rw [List.getElem?_append_right (by simp [Pt.cells]; omega)]
     have e : (k + 1) * 3 + j - p.cells.length = k * 3 + j := by simp [Pt.cells]; omega
     rw [e]
     exact ih k (by simpa using hk)
def RdP (w : World) (B : Nat) (A : Option Addr) (l : List Pt) : Prop := Reads w B 3 A l.length (pv l)
section
variable {w w' : World} {B : Nat} {A : Option Addr} {l : List Pt}
theorem RdP.below {D : Nat} (h : RdP w B A l) (hb : Below D w w') (hD : B ≤ D) : RdP w' B A l := Reads.below h hb hD
theorem RdP.more {B' : Nat} (h : RdP w B A l) (hB : B ≤ B') : RdP w B' A l := Reads.more h hB
theorem RdP.alloc (h : RdP w B A l) (hB : B ≤ w.heap.size) (o : Obj) : RdP (w.alloc o) B A l := Reads.alloc h hB o
theorem RdP.at_ (h : RdP w B A l) {k : Nat} (hk : k < l.length) : ∃ b off, A = some ⟨b, off, none⟩ ∧ b < B ∧
   w.cell? ⟨b, off + k * 3, none⟩ = some (.bool l[k].t) ∧ w.cell? ⟨b, off + k * 3 + 1, none⟩ = some (.int .u64 (l[k].n : Int)) ∧ w.cell? ⟨b, off + k * 3 + 2, none⟩ = some (.string l[k].s) := by
 obtain ⟨ad, hA, hb, hc⟩ := h.2 (by omega)
 obtain ⟨b, off, spot⟩ := ad
 have h0 := hc 0 (.bool l[0].t) (by have := pv_get l 0 (by omega) 0 (by omega); simpa [Pt.cells] using this)
 have hsp : spot = none := by
   cases spot with
   | none => rfl
   | some s =>
     simp only [Addr.add, if_pos] at h0
     unfold World.cell? at h0
     simp only [Option.isSome_some, if_true] at h0
     split at h0 <;> cases h0
 subst hsp
 have hadd : ∀ j, (⟨b, off, none⟩ : Addr).add j = ⟨b, off + j, none⟩ := by intro j; unfold Addr.add; split <;> simp_all
 refine ⟨b, off, hA, hb, ?_, ?_, ?_⟩
 · have := hc (k * 3 + 0) (.bool l[k].t) (by rw [pv_get l k hk 0 (by omega)]; rfl)
   rw [hadd] at this; exact this
 · have := hc (k * 3 + 1) (.int .u64 (l[k].n : Int)) (by rw [pv_get l k hk 1 (by omega)]; rfl)
   rw [hadd] at this; exact this
 · have := hc (k * 3 + 2) (.string l[k].s) (by rw [pv_get l k hk 2 (by omega)]; rfl)
   rw [hadd] at this; exact this
end
structure BelowW (w : World) where
 X : World
 hb : Below w.heap.size w X
instance (w : World) : Inhabited (BelowW w) := ⟨⟨w, Below.refl _ _⟩⟩
theorem BelowW.ex {w Y : World} (h : Below w.heap.size w Y) : ∃ p : BelowW w, Y = p.X := ⟨⟨Y, h⟩, rfl⟩
theorem BelowW.calls {w : World} {P : Program} {f : FuncId} {args : Array Value} {v : Value} (p : BelowW w) (h : Calls P f args p.X fun e w' => e = .returned v ∧ Below p.X.heap.size p.X w') : Calls P f args p.X fun e w' => e = .returned v ∧ ∃ q : BelowW w, w' = q.X :=
 h.mono fun _ _ ⟨h1, h2⟩ => ⟨h1, BelowW.ex (p.hb.trans (h2.mono p.hb.size))⟩
theorem wp_region_below {P : Program} {id : Nat} {Q : Exit → Act → World → Prop} {a : Act} {w : World} {l : List Oper} (hm : P.follows .mixedOrders = true) (hB : Region.lexB .any l.toArray = true)
   (h : wpQuiet P l.toArray (fun w' => ∃ p : BelowW w, w' = p.X) (fun a' => ∀ w', (∃ p : BelowW w, w' = p.X) → Q .normal a' w') l a) : (Code.region id l.toArray true).wp P Q a w :=
 wp_region_quiet (C := fun w' => ∃ p : BelowW w, w' = p.X) hm hB ⟨⟨w.drew, (Below.refl _ _).drew⟩, rfl⟩ (by simpa using h)
theorem step_append_be {P : Program} (w : World) {ops : Array Oper} {o : Oper} {a : Act} {K : Act → World → Prop} {Q : Exit → Act → World → Prop} {E : Prop} (hgd : o.guard = none) (d : Option Tmp) (hd : o.dst = d) (s x : Operand) {t e : TypeId} (T : BT P t e)
   (ho : o.op = .call { callee := .builtin .append, args := #[s, x], argTypes := #[t, t] })
   (base : Nat) (A : Option Addr) (c : Nat) (l : List UInt8) (hs : a.eval s = .slice A l.length c) (hown : Own w base e A c l)
   (B : Nat) (A2 : Option Addr) (m c2 : Nat) (l2 : List UInt8) (hx : a.eval x = .slice A2 m c2) (hm : m = l2.length) (hr : RdB w B A2 l2) (hlen : l.length + l2.length ≤ 140737488355328) (hbase : base ≤ w.heap.size)
   (h : ∀ A' c' L w', L = l ++ l2 → Own w' base e A' c' L → w.grownBy w' (blk A) → (blk A' = blk A ∨ blk A' = some w.heap.size) → K (a.put d (.slice A' L.length c')) w') :
   if Region.wanted o (yielded ops a.tmps) = true then Oper.wp P o a w K Q else E := by
 subst hd
 exact step_append_b w hgd s x T ho base A c l hs hown B A2 m c2 l2 hx hm hr hlen hbase h
end Go.Proofs.YtgmnhdkdicgkcaaGreatDoor
