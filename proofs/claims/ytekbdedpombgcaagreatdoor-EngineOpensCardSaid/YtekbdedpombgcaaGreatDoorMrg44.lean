/- Parts of the proof, one behind the other: A region that draws its order: quiet operations ahead (whose callees may lay blocks), and a tail that comes in one order, whatever it does. (The kit's words for a still head, over a class of worlds.) -/
import Derived.Test.YtekbdedpombgcaaGreatDoorMrg01
import Derived.Laws.IdiomStrings
import Derived.Lib.BytesEntry
import Derived.Deep.QuietTactic
import Derived.BigQuiet
import Derived.StillTail
namespace Go.Proofs.YtekbdedpombgcaaGreatDoor
open Go.RowKit

/-- A guard: the walk stands at a conversion. -/
theorem at_conv {P : Program} {ops : Array Oper} {rest : List Oper} {Q : Exit → Act → World → Prop} {a : Act} {w : World} {dst ty pos aft gd s d x}
    (h : wpList P ops Q (⟨dst, .convert s d x, ty, pos, aft, gd⟩ :: rest) a w) : wpList P ops Q (⟨dst, .convert s d x, ty, pos, aft, gd⟩ :: rest) a w := h
section
variable {P : Program} (w : World)
theorem rdB_bytesRow (s : ByteArray) (cap : Nat) (e : TypeId) (fr : Nat × Nat) : RdB (w.drew.alloc (.cells (bytesRow s cap) e fr)) (w.heap.size + 1) (some ⟨w.heap.size, 0, none⟩) s.data.toList := by
  refine ⟨by simp [bv], fun _ => ⟨_, rfl, by simp, fun j u hu => ?_⟩⟩
  have hadd : (⟨w.heap.size, 0, none⟩ : Addr).add j = ⟨w.heap.size, j, none⟩ := by unfold Addr.add; split <;> simp_all
  have hh : (w.drew.alloc (.cells (bytesRow s cap) e fr)).heap[w.heap.size]? = some (.cells (bytesRow s cap) e fr) := heap_alloc_new w.drew _
  have hj : j < s.data.size := by
    rcases Nat.lt_or_ge j s.data.size with h | h
    · exact h
    · rw [List.getElem?_eq_none (by simp [bv]; exact h)] at hu; cases hu
  rw [hadd]
  have : (w.drew.alloc (.cells (bytesRow s cap) e fr)).cell? ⟨w.heap.size, j, none⟩ = (bytesRow s cap)[j]? := by
    simp only [World.cell?]
    rw [hh]
    rfl
  rw [this, bytesRow_at s cap j hj]
  rw [bv_get _ j (by simpa using hj)] at hu
  simpa using hu
theorem wpList_conv_b {ops : Array Oper} {rest : List Oper} {o : Oper} {a : Act} {Q : Exit → Act → World → Prop} (hgd : o.guard = none) (x : Operand) {t e st : TypeId} (T : BT P t e) (hst : P.underlying st = some .string)
    (ho : o.op = .convert st t x) (s : ByteArray) (hx : a.eval x = .string s) (hs : s.size ≤ 9223372036854775807)
    (h : ∀ cap w', s.size ≤ cap → cap ≤ 9223372036854775807 → RdB w' w'.heap.size (some ⟨w.heap.size, 0, none⟩) s.data.toList → Below w.heap.size w w' → w.heap.size < w'.heap.size → wpList P ops Q rest (a.put o.dst (.slice (some ⟨w.heap.size, 0, none⟩) s.size cap)) w') :
    wpList P ops Q (o :: rest) a w := by
  refine wpList_plain hgd fun K hK => ?_
  have hrun := run_bytes_of_string (P := P) w st t e s hst T.sl T.el
  unfold Oper.wp execOp
  simp only [ho, hx, Sem.run_bind, hrun, Result.andThen, Sem.run_pure]
  refine hK _ _ (h _ _ (grownCap_ge w s.size 0 e) ?_ ?_ ?_ ?_)
  · have := grownCap_le_maxLen w s.size 0 e (by unfold maxLen; omega)
    unfold maxLen at this
    omega
  · refine RdB.more (rdB_bytesRow w s _ e _) ?_
    simp
  · have k := ((Below.refl w.heap.size w).drew).alloc (o := .cells (bytesRow s (grownCap w s.size 0 e)) e ((bytesRow s (grownCap w s.size 0 e)).size, (bytesRow s (grownCap w s.size 0 e)).size + 1)) (Nat.le_refl _)
    exact k
  · simp
end

/-- A part of a key. -/
structure Pt where
  t : Bool
  n : Nat
  s : ByteArray
def Pt.cells (p : Pt) : List Value := [.bool p.t, .int .u64 (p.n : Int), .string p.s]
def pv (l : List Pt) : List Value := l.flatMap Pt.cells
theorem pv_get (l : List Pt) (k : Nat) (hk : k < l.length) (j : Nat) (hj : j < 3) : (pv l)[k * 3 + j]? = l[k].cells[j]? := by
  induction l generalizing k with
  | nil => simp at hk
  | cons p l ih =>
    simp only [pv, List.flatMap_cons]
    match k with
    | 0 =>
      rw [List.getElem?_append_left (by simp [Pt.cells]; omega)]
      simp
    | k + 1 =>
      rw [List.getElem?_append_right (by simp [Pt.cells]; omega)]
      have e : (k + 1) * 3 + j - p.cells.length = k * 3 + j := by simp [Pt.cells]; omega
      rw [e]
      exact ih k (by simpa using hk)
/-- A slice of parts reads as l. -/
def RdP (w : World) (B : Nat) (A : Option Addr) (l : List Pt) : Prop := Reads w B 3 A l.length (pv l)
section
variable {w w' : World} {B : Nat} {A : Option Addr} {l : List Pt}
theorem RdP.below {D : Nat} (h : RdP w B A l) (hb : Below D w w') (hD : B ≤ D) : RdP w' B A l := Reads.below h hb hD
theorem RdP.more {B' : Nat} (h : RdP w B A l) (hB : B ≤ B') : RdP w B' A l := Reads.more h hB
theorem RdP.alloc (h : RdP w B A l) (hB : B ≤ w.heap.size) (o : Obj) : RdP (w.alloc o) B A l := Reads.alloc h hB o
/-- The cells of part k. -/
theorem RdP.at_ (h : RdP w B A l) {k : Nat} (hk : k < l.length) : ∃ b off, A = some ⟨b, off, none⟩ ∧ b < B ∧
    w.cell? ⟨b, off + k * 3, none⟩ = some (.bool l[k].t) ∧ w.cell? ⟨b, off + k * 3 + 1, none⟩ = some (.int .u64 (l[k].n : Int)) ∧ w.cell? ⟨b, off + k * 3 + 2, none⟩ = some (.string l[k].s) := by
  obtain ⟨ad, hA, hb, hc⟩ := h.2 (by omega)
  obtain ⟨b, off, spot⟩ := ad
  have h0 := hc 0 (.bool l[0].t) (by have := pv_get l 0 (by omega) 0 (by omega); simpa [Pt.cells] using this)
  have hsp : spot = none := by
    cases spot with
    | none => rfl
    | some s =>
      simp only [Addr.add, if_pos] at h0
      unfold World.cell? at h0
      simp only [Option.isSome_some, if_true] at h0
      split at h0 <;> cases h0
  subst hsp
  have hadd : ∀ j, (⟨b, off, none⟩ : Addr).add j = ⟨b, off + j, none⟩ := by intro j; unfold Addr.add; split <;> simp_all
  refine ⟨b, off, hA, hb, ?_, ?_, ?_⟩
  · have := hc (k * 3 + 0) (.bool l[k].t) (by rw [pv_get l k hk 0 (by omega)]; rfl)
    rw [hadd] at this; exact this
  · have := hc (k * 3 + 1) (.int .u64 (l[k].n : Int)) (by rw [pv_get l k hk 1 (by omega)]; rfl)
    rw [hadd] at this; exact this
  · have := hc (k * 3 + 2) (.string l[k].s) (by rw [pv_get l k hk 2 (by omega)]; rfl)
    rw [hadd] at this; exact this
end
end Go.Proofs.YtekbdedpombgcaaGreatDoor

namespace Go.Proofs.YtekbdedpombgcaaGreatDoor
open Go.RowKit

/-- A world in which all that was in w is as it was. -/
structure BelowW (w : World) where
  X : World
  hb : Below w.heap.size w X
instance (w : World) : Inhabited (BelowW w) := ⟨⟨w, Below.refl _ _⟩⟩
theorem BelowW.ex {w Y : World} (h : Below w.heap.size w Y) : ∃ p : BelowW w, Y = p.X := ⟨⟨Y, h⟩, rfl⟩
theorem BelowW.calls {w : World} {P : Program} {f : FuncId} {args : Array Value} {v : Value} (p : BelowW w) (h : Calls P f args p.X fun e w' => e = .returned v ∧ Below p.X.heap.size p.X w') : Calls P f args p.X fun e w' => e = .returned v ∧ ∃ q : BelowW w, w' = q.X :=
  h.mono fun _ _ ⟨h1, h2⟩ => ⟨h1, BelowW.ex (p.hb.trans (h2.mono p.hb.size))⟩
theorem wp_region_below {P : Program} {id : Nat} {Q : Exit → Act → World → Prop} {a : Act} {w : World} {l : List Oper} (hm : P.follows .mixedOrders = true) (hB : Region.lexB .any l.toArray = true)
    (h : wpQuiet P l.toArray (fun w' => ∃ p : BelowW w, w' = p.X) (fun a' => ∀ w', (∃ p : BelowW w, w' = p.X) → Q .normal a' w') l a) : (Code.region id l.toArray true).wp P Q a w :=
  wp_region_quiet (C := fun w' => ∃ p : BelowW w, w' = p.X) hm hB ⟨⟨w.drew, (Below.refl _ _).drew⟩, rfl⟩ (by simpa using h)
/-- 'step_append_b' with the destination named. -/
theorem step_append_be {P : Program} (w : World) {ops : Array Oper} {o : Oper} {a : Act} {K : Act → World → Prop} {Q : Exit → Act → World → Prop} {E : Prop} (hgd : o.guard = none) (d : Option Tmp) (hd : o.dst = d) (s x : Operand) {t e : TypeId} (T : BT P t e)
    (ho : o.op = .call { callee := .builtin .append, args := #[s, x], argTypes := #[t, t] })
    (base : Nat) (A : Option Addr) (c : Nat) (l : List UInt8) (hs : a.eval s = .slice A l.length c) (hown : Own w base e A c l)
    (B : Nat) (A2 : Option Addr) (m c2 : Nat) (l2 : List UInt8) (hx : a.eval x = .slice A2 m c2) (hm : m = l2.length) (hr : RdB w B A2 l2) (hlen : l.length + l2.length ≤ 140737488355328) (hbase : base ≤ w.heap.size)
    (h : ∀ A' c' L w', L = l ++ l2 → Own w' base e A' c' L → w.grownBy w' (blk A) → (blk A' = blk A ∨ blk A' = some w.heap.size) → K (a.put d (.slice A' L.length c')) w') :
    if Region.wanted o (yielded ops a.tmps) = true then Oper.wp P o a w K Q else E := by
  subst hd
  exact step_append_b w hgd s x T ho base A c l hs hown B A2 m c2 l2 hx hm hr hlen hbase h
end Go.Proofs.YtekbdedpombgcaaGreatDoor
namespace Go.Proofs.YtekbdedpombgcaaGreatDoor
open Go.RowKit

section
variable {P : Program} {ops : Array Oper} {md : Region.Mode} {C : World → Prop}
def wpAnyQL (P : Program) (md : Region.Mode) (ops : Array Oper) (C : World → Prop) (n : Nat) (L : Array Bool → Act → Prop) : Nat → Array Bool → Act → Prop
  | 0, listed, a => L listed a
  | f + 1, listed, a =>
    Region.ready md ops listed ≠ [] ∧ ∀ i ∈ Region.ready md ops listed, i < n ∧ qOp P ops C i (wpAnyQL P md ops C n L f (listed.setIfInBounds i true)) a
theorem wpAny_of_qhead {n g : Nat} {L : Array Bool → Act → Prop} {Q' : Exit → Act → World → Prop} (hL : ∀ listed a w, C w → L listed a → wpAny P md ops Q' g listed a w) :
    ∀ (f : Nat) (listed : Array Bool) (a : Act) (w : World), C w → wpAnyQL P md ops C n L f listed a → wpAny P md ops Q' (f + g) listed a w
  | 0, listed, a, w, hw, h => by rw [Nat.zero_add]; exact hL _ _ _ hw h
  | f + 1, listed, a, w, hw, h => by
    rw [show f + 1 + g = (f + g) + 1 by omega]
    exact ⟨fun h0 => absurd h0 h.1, fun i hi => wpOp_of_qOp hw (fun a' w' hw' h' => wpAny_of_qhead hL f _ a' w' hw' h') (h.2 i hi).2⟩
theorem wpAnyQL_first {n i : Nat} {oi : Oper} {v : Value} {L : Array Bool → Act → Prop} (hi : ops[i]? = some oi) (hsel : ∀ (j : Nat) (o : Oper) cs b, ops[j]? = some o → o.op ≠ .select cs b)
    (hs : Region.sinkB md ops n = true) (hc : Region.chainB md ops n = true) (hn : n < ops.size) (hin : i < n)
    (hdone : ∀ listed a, L listed a → ∀ j ∈ Region.ready md ops listed, n ≤ j) :
    ∀ (f : Nat) (listed : Array Bool) (a : Act), HeadInv md ops n listed →
      (∀ j oj, ops[j]? = some oj → j ≠ i → listed.getD j true = false → (∀ e ∈ oj.after, Region.binds md e = true → e.on ≠ i) → oi.apart ops oj = true) →
      i ∈ Region.ready md ops listed → YieldsIn P ops C oi v a →
      wpAnyQL P md ops C n L f (listed.setIfInBounds i true) (a.put oi.dst v) → wpAnyQL P md ops C n L (f + 1) listed a := by
  intro f
  induction f with
  | zero =>
    intro listed a inv _ hr hy H
    have hun := (mem_ready.1 hr).1
    refine ⟨fun h => (by rw [h] at hr; cases hr), fun j hj => ?_⟩
    have hjn : j < n := by
      rcases Nat.lt_or_ge j n with h | h
      · exact h
      · exact absurd hj (tail_waits hs hc hn inv _ i rfl hin hun j h)
    refine ⟨hjn, ?_⟩
    by_cases hji : j = i
    · subst hji; exact hy.qOp hi H
    · have := hdone _ _ H j (ready_mono hj hji)
      omega
  | succ f ih =>
    intro listed a inv hfree hr hy H
    have hun := (mem_ready.1 hr).1
    refine ⟨fun h => (by rw [h] at hr; cases hr), fun j hj => ?_⟩
    have hjn : j < n := by
      rcases Nat.lt_or_ge j n with h | h
      · exact h
      · exact absurd hj (tail_waits hs hc hn inv _ i rfl hin hun j h)
    refine ⟨hjn, ?_⟩
    by_cases hji : j = i
    · subst hji; exact hy.qOp hi H
    · have h1 := (H.2 j (ready_mono hj hji)).2
      obtain ⟨hjun, oj, hoj, hall⟩ := mem_ready.1 hj
      have hnot : ∀ e ∈ oj.after, Region.binds md e = true → e.on ≠ i := fun e he hb heq => by
        have h1 := hall e he hb
        rw [heq, getD_both hun] at h1
        cases h1
      have h2 := qOp_put hoj (hfree j oj hoj hji hjun hnot) (fun cs b => hsel i oi cs b hi) (fun cs b => hsel j oj cs b hoj) hy h1
      have hfree' : ∀ k ok, ops[k]? = some ok → k ≠ i → (listed.setIfInBounds j true).getD k true = false →
          (∀ e ∈ ok.after, Region.binds md e = true → e.on ≠ i) → oi.apart ops ok = true := fun k ok hk hki hun hno => by
        refine hfree k ok hk hki ?_ hno
        by_cases hjk : j = k
        · subst hjk; exact hjun
        · rw [getD_set_ne true hjk] at hun; exact hun
      refine qOp_mono (fun a' h3 => ih (listed.setIfInBounds j true) a' (inv.set hj hjn) hfree' (ready_mono hr (Ne.symm hji)) h3.1 ?_) h2
      rw [Array.setIfInBounds_comm _ _ hji]
      exact h3.2
theorem wpAnyQL_lex {n g : Nat} {Lq : Act → Prop} (hsel : Region.noSelect ops = true) (hs : Region.sinkB md ops n = true) (hc : Region.chainB md ops n = true) (hn : n < ops.size) :
    ∀ (l : List Oper) (k : Nat) (listed : Array Bool) (a : Act), (∀ j, j < l.length → l[j]? = ops[k + j]?) → k + l.length = n → HeadInv md ops n listed →
    Region.lexHead md ops g l.length k listed = true → wpQuiet P ops C Lq l a →
    wpAnyQL P md ops C n (fun listed' a' => Region.seqB md ops g n listed' = true ∧ Lq a') l.length listed a
  | [], k, listed, a, _, hk, _, hB, h => by
    have : k = n := by simpa using hk
    subst this
    exact ⟨by simpa [Region.lexHead] using hB, h⟩
  | o :: l, k, listed, a, hl, hk, inv, hB, h => by
    have h0 : ops[k]? = some o := by simpa using (hl 0 (by simp)).symm
    simp only [List.length_cons, Region.lexHead, Bool.and_eq_true] at hB
    obtain ⟨⟨hr, hf⟩, hB'⟩ := hB
    have hkn : k < n := by simp only [List.length_cons] at hk; omega
    have hr' : k ∈ Region.ready md ops listed := by simpa using hr
    have hst : qOp P ops C k (wpQuiet P ops C Lq l) a := by unfold qOp; simp only [h0]; exact h
    obtain ⟨v, hy, hK⟩ := yieldsIn_of_qOp h0 hst
    exact wpAnyQL_first h0 (Region.noSelect_spec hsel) hs hc hn hkn (fun listed' a' hL => seqB_ready hL.1) l.length listed a inv (Region.free_spec h0 hf) hr' hy
      (wpAnyQL_lex hsel hs hc hn l (k + 1) _ _ (fun j hj => by have := hl (j + 1) (by simp; omega); simpa [Nat.add_assoc, Nat.add_comm 1 j] using this) (by simp only [List.length_cons] at hk; omega) (inv.set hr' hkn) hB' hK)
theorem wp_region_quiet_tail {id : Nat} {Q : Exit → Act → World → Prop} {a : Act} {w : World} {l : List Oper} (n : Nat) (hm : P.follows .mixedOrders = true) (hB : Region.lexTailB .any l.toArray n = true) (hC : C { w with drawn := w.drawn + 1 })
    (h : wpQuiet P l.toArray C (fun a' => ∀ w', C w' → wpList P l.toArray Q (l.drop n) a' w') (l.take n) a) : (Code.region id l.toArray true).wp P Q a w := by
  simp only [Region.lexTailB, Bool.and_eq_true, decide_eq_true_eq] at hB
  obtain ⟨⟨⟨⟨hsel, hn⟩, hs⟩, hc⟩, hlex⟩ := hB
  have hn' : n < l.length := by simpa using hn
  have htl : (l.take n).length = n := by simp; omega
  have hdl : (l.drop n).length = l.toArray.size - n := by simp
  have inv0 : HeadInv .any l.toArray n (Array.replicate l.toArray.size false) :=
    ⟨by simp, fun j oj _ hl => (by rw [getD_replicate_false] at hl; cases hl), fun t _ ht => getD_in (by simpa using ht) (getD_replicate_false _ _)⟩
  have H := wpAnyQL_lex (C := C) (md := .any) (g := l.toArray.size - n) hsel hs hc hn (l.take n) 0 _ a (fun j hj => by
    have hj' : j < n := by rw [htl] at hj; exact hj
    simp [hj']) (by simpa using htl) inv0 (by rw [htl]; exact hlex) h
  refine wp_region_any hm ?_
  have := wpAny_of_qhead (C := C) (Q' := Q) (g := l.toArray.size - n) (fun listed a' w' hw' hL => by
    have := wpAny_of_seq (md := .any) (Q' := Q) (l.drop n) n listed a' w' (fun j => by simp [List.getElem?_drop]) (by rw [hdl]; exact hL.1) (hL.2 w' hw')
    rwa [hdl] at this) _ _ _ _ hC H
  rw [htl, show n + (l.toArray.size - n) = l.toArray.size by omega] at this
  exact this
/-- At the class of worlds in which all that was there is as it was. -/
theorem wp_region_below_tail {id : Nat} {Q : Exit → Act → World → Prop} {a : Act} {w : World} {l : List Oper} (n : Nat) (hm : P.follows .mixedOrders = true) (hB : Region.lexTailB .any l.toArray n = true)
    (h : wpQuiet P l.toArray (fun w' => ∃ p : BelowW w, w' = p.X) (fun a' => ∀ w', (∃ p : BelowW w, w' = p.X) → wpList P l.toArray Q (l.drop n) a' w') (l.take n) a) : (Code.region id l.toArray true).wp P Q a w :=
  wp_region_quiet_tail (C := fun w' => ∃ p : BelowW w, w' = p.X) n hm hB ⟨⟨w.drew, (Below.refl _ _).drew⟩, rfl⟩ h
end
end Go.Proofs.YtekbdedpombgcaaGreatDoor
