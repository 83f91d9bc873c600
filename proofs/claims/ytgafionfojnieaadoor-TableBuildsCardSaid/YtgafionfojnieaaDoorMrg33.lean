/- Parts of the proof, one behind the other: The writer of a table in memory: what it holds, and how it goes on; the contract of its frame.; The contract of the writer's frame. -/
import Derived.Test.YtgafionfojnieaaDoorMrg32
namespace Go.Proofs.YtgafionfojnieaaDoor
open Go.RowKit

namespace Tb
/-- A frame, or nothing, where the bytes are too many for one. -/
def putL (k : UInt8) (b : List UInt8) : List UInt8 := if b.length ≤ 65536 then Frm.put k b else []
def blkB (E : Int) (l : List Pr) : List UInt8 := if Blk.err E l = 0 then Blk.build E.toNat l else []
end Tb
/-- A block that is none of these. -/
def Off (R : List (Option Nat)) (b : Option Nat) : Prop := ∀ g, b = some g → some g ∉ R
theorem Off.ne {R : List (Option Nat)} {b r : Option Nat} (h : Off R b) (hr : r ∈ R) : b = none ∨ b ≠ r := by
  rcases b with _ | g
  · exact .inl rfl
  · exact .inr (fun e => h g rfl (by rw [e]; exact hr))
theorem Off.new {R R' : List (Option Nat)} {b : Option Nat} {n : Nat} (h : Off R b) (hlt : ∀ g, b = some g → g < n) (hR : ∀ r ∈ R', r ∈ R ∨ r = some n) : Off R' b := by
  intro g hg hm
  rcases hR _ hm with h1 | h1
  · exact h g hg h1
  · injection h1 with h1
    have := hlt g hg
    omega
theorem Off.fresh {R : List (Option Nat)} {b : Option Nat} {n : Nat} (hge : ∀ g, b = some g → n ≤ g) (hR : ∀ g, some g ∈ R → g < n) : Off R b := by
  intro g hg hm
  have := hge g hg
  have := hR g hm
  omega
/-- A pair of the call's own, apart from the rows. -/
structure PvO (w : World) (base : Nat) (R : List (Option Nat)) (q : Pv) : Prop where
  k : Own w base 5 q.kA q.kc q.k
  v : Own w base 5 q.vA q.vc q.v
  ko : Off R (blk q.kA)
  vo : Off R (blk q.vA)
theorem PvO.ok {w : World} {base : Nat} {R : List (Option Nat)} {q : Pv} (h : PvO w base R q) : Pv.Ok w w.heap.size q := ⟨h.k.rd, h.v.rd, h.k.cap, h.v.cap, h.k.cap_le, h.v.cap_le⟩
theorem PvO.kept {w w' : World} {base : Nat} {R : List (Option Nat)} {q : Pv} {row : Option Nat} (h : PvO w base R q) (hg : w.grownBy w' row) (hr : row = none ∨ row ∈ R) : PvO w' base R q := by
  have hn : ∀ b : Option Nat, Off R b → b = none ∨ b ≠ row := fun b hb => by
    rcases hr with rfl | hr
    · rcases b with _ | g
      · exact .inl rfl
      · exact .inr (by simp)
    · exact hb.ne hr
  exact ⟨h.k.kept hg (hn _ h.ko), h.v.kept hg (hn _ h.vo), h.ko, h.vo⟩
theorem PvO.rows {w : World} {base : Nat} {R R' : List (Option Nat)} {q : Pv} (h : PvO w base R q) {n : Nat} (hn : w.heap.size ≤ n) (hR : ∀ r ∈ R', r ∈ R ∨ r = some n) : PvO w base R' q :=
  ⟨h.k, h.v, h.ko.new (fun g hg => Nat.lt_of_lt_of_le (h.k.blk_ge g hg).2 hn) hR, h.vo.new (fun g hg => Nat.lt_of_lt_of_le (h.v.blk_ge g hg).2 hn) hR⟩
/-- The plain writer. -/
structure Wr where
  out : List UInt8
  index : List Pv
  opn : List Pv
  n : Int
  bad : Bool
/-- Where its rows lie. -/
structure WrA where
  oA : Option Addr
  oc : Nat
  xA : Option Addr
  xc : Nat
  pA : Option Addr
  pc : Nat
def WrA.R (a : WrA) (gw : Nat) : List (Option Nat) := [some gw, blk a.oA, blk a.xA, blk a.pA]
def wrObj (s : Wr) (a : WrA) : Obj := .cells #[.slice a.oA s.out.length a.oc, .slice a.xA s.index.length a.xc, .slice a.pA s.opn.length a.pc, .int .i64 s.n, .bool s.bad] 44
/-- The writer at block gw. -/
structure WS (w : World) (base gw : Nat) (s : Wr) (a : WrA) (wr : World) : Prop where
  box : wr.heap[gw]? = some (wrObj s a)
  out : Own wr base 5 a.oA a.oc s.out
  idx : OwnS Pv.cells 2 wr base 48 a.xA a.xc s.index
  opn : OwnS Pv.cells 2 wr base 48 a.pA a.pc s.opn
  prs : ∀ q, q ∈ s.index ∨ q ∈ s.opn → PvO wr base (a.R gw) q
  d1 : Off [some gw, blk a.xA, blk a.pA] (blk a.oA)
  d2 : Off [some gw, blk a.oA, blk a.pA] (blk a.xA)
  d3 : Off [some gw, blk a.oA, blk a.xA] (blk a.pA)
  g1 : base ≤ gw
  below : Below base w wr
  size : base ≤ wr.heap.size
section
variable {w wr w2 : World} {base gw : Nat} {s : Wr} {a : WrA}
theorem grown_of_below (hb : Below wr.heap.size wr w2) : wr.grownBy w2 none := ⟨hb.os, hb.tape, hb.output, hb.size, fun k hk _ => hb.block k hk⟩
theorem WS.lt (h : WS w base gw s a wr) : gw < wr.heap.size := (Array.getElem?_eq_some_iff.1 h.box).1
theorem WS.call (h : WS w base gw s a wr) (hb : Below wr.heap.size wr w2) : WS w base gw s a w2 := by
  have hg := grown_of_below hb
  exact ⟨(hb.block _ h.lt).trans h.box, h.out.below hb, h.idx.below hb, h.opn.below hb, fun q hq => (h.prs q hq).kept hg (.inl rfl), h.d1, h.d2, h.d3, h.g1, h.below.trans (hb.mono h.size), Nat.le_trans h.size hb.size⟩
theorem WS.lts (h : WS w base gw s a wr) : ∀ g, some g ∈ a.R gw → g < wr.heap.size := by
  intro g hg
  simp only [WrA.R, List.mem_cons, List.not_mem_nil, or_false] at hg
  rcases hg with h1 | h1 | h1 | h1
  · injection h1 with h1; rw [h1]; exact h.lt
  · exact (h.out.blk_ge g h1.symm).2
  · exact (h.idx.blk_ge g h1.symm).2
  · exact (h.opn.blk_ge g h1.symm).2
/-- The writer's own cells are set. -/
theorem WS.set (h : WS w base gw s a wr) (hg : wr.grownBy w2 (some gw)) {s' : Wr} {a' : WrA} (hbox : w2.heap[gw]? = some (wrObj s' a')) (hs : s'.out = s.out) (hi : s'.index = s.index) (hp : s'.opn = s.opn) (ha : a' = a) : WS w base gw s' a' w2 := by
  subst ha
  have hne : ∀ b : Option Nat, Off [some gw] b → b = none ∨ b ≠ some gw := fun b hb => hb.ne (by simp)
  have o1 : Off [some gw] (blk a'.oA) := fun g hg hm => h.d1 g hg (by simp at hm ⊢; exact .inl hm)
  have o2 : Off [some gw] (blk a'.xA) := fun g hg hm => h.d2 g hg (by simp at hm ⊢; exact .inl hm)
  have o3 : Off [some gw] (blk a'.pA) := fun g hg hm => h.d3 g hg (by simp at hm ⊢; exact .inl hm)
  exact ⟨hbox, by rw [hs]; exact h.out.kept hg (hne _ o1), by rw [hi]; exact h.idx.kept hg (hne _ o2), by rw [hp]; exact h.opn.kept hg (hne _ o3), fun q hq => (h.prs q (by rwa [hi, hp] at hq)).kept hg (.inr (by simp [WrA.R])), h.d1, h.d2, h.d3, h.g1, h.below.grown hg h.size (fun k hk => by injection hk with hk; rw [← hk]; exact h.g1), Nat.le_trans h.size hg.size⟩
/-- Behind an append to what was put out: all but the writer's own cell. -/
theorem WS.app_out (h : WS w base gw s a wr) {A' : Option Addr} {c' : Nat} {o' : List UInt8} (ho : Own w2 base 5 A' c' o') (hg : wr.grownBy w2 (blk a.oA)) (hat : blk A' = blk a.oA ∨ blk A' = some wr.heap.size)
    (hbox : (w2.setCell ⟨gw, 0, none⟩ (.slice A' o'.length c')).heap[gw]? = some (wrObj { s with out := o' } { a with oA := A', oc := c' })) : WS w base gw { s with out := o' } { a with oA := A', oc := c' } (w2.setCell ⟨gw, 0, none⟩ (.slice A' o'.length c')) := by
  have hgs := grownBy_set w2 ⟨gw, 0, none⟩ (.slice A' o'.length c')
  have hlt := h.lt
  have oo : Off [some gw, blk a.xA, blk a.pA] (blk A') := by
    intro g hg' hm
    rcases hat with h1 | h1
    · exact h.d1 g (h1 ▸ hg') hm
    · rw [h1] at hg'; injection hg' with hg'
      have := h.lts g (by simp [WrA.R] at hm ⊢; rcases hm with h | h | h <;> simp [h])
      omega
  have hA : blk A' = none ∨ blk A' ≠ some gw := oo.ne (by simp)
  have hx : blk a.xA = none ∨ blk a.xA ≠ blk a.oA := h.d2.ne (by simp)
  have hp : blk a.pA = none ∨ blk a.pA ≠ blk a.oA := h.d3.ne (by simp)
  have hx2 : blk a.xA = none ∨ blk a.xA ≠ some gw := h.d2.ne (by simp)
  have hp2 : blk a.pA = none ∨ blk a.pA ≠ some gw := h.d3.ne (by simp)
  have hR : ∀ r ∈ ({ a with oA := A', oc := c' } : WrA).R gw, r ∈ a.R gw ∨ r = some wr.heap.size := by
    intro r hr
    simp only [WrA.R, List.mem_cons, List.not_mem_nil, or_false] at hr ⊢
    rcases hr with h1 | h1 | h1 | h1
    · exact .inl (.inl h1)
    · rcases hat with h2 | h2
      · exact .inl (.inr (.inl (h1.trans h2)))
      · exact .inr (h1.trans h2)
    · exact .inl (.inr (.inr (.inl h1)))
    · exact .inl (.inr (.inr (.inr h1)))
  refine ⟨hbox, ho.kept hgs hA, (h.idx.kept hg hx).kept hgs hx2, (h.opn.kept hg hp).kept hgs hp2, ?_, oo, ?_, ?_, h.g1, ?_, ?_⟩
  · intro q hq
    have h1 := ((h.prs q hq).kept hg (.inr (by simp [WrA.R]))).kept hgs (.inr (by simp [WrA.R]))
    refine ⟨h1.k, h1.v, h1.ko.new (fun g hgg => ((h.prs q hq).k.blk_ge g hgg).2) hR, h1.vo.new (fun g hgg => ((h.prs q hq).v.blk_ge g hgg).2) hR⟩
  · exact h.d2.new (fun g hgg => (h.idx.blk_ge g hgg).2) (fun r hr => by
      simp only [List.mem_cons, List.not_mem_nil, or_false] at hr ⊢
      rcases hr with h1 | h1 | h1
      · exact .inl (.inl h1)
      · rcases hat with h2 | h2
        · exact .inl (.inr (.inl (h1.trans h2)))
        · exact .inr (h1.trans h2)
      · exact .inl (.inr (.inr h1)))
  · exact h.d3.new (fun g hgg => (h.opn.blk_ge g hgg).2) (fun r hr => by
      simp only [List.mem_cons, List.not_mem_nil, or_false] at hr ⊢
      rcases hr with h1 | h1 | h1
      · exact .inl (.inl h1)
      · rcases hat with h2 | h2
        · exact .inl (.inr (.inl (h1.trans h2)))
        · exact .inr (h1.trans h2)
      · exact .inl (.inr (.inr h1)))
  · exact (h.below.grown hg h.size (fun k hk => (h.out.blk_ge k hk).1)).setCell h.g1 _
  · exact Nat.le_trans h.size (Nat.le_trans hg.size (by simp [World.setCell]))
/-- Behind an append of a pair to the row index, and the store of its slice. -/
theorem WS.app_idx (h : WS w base gw s a wr) {q : Pv} (hq : PvO wr base (a.R gw) q) {A' : Option Addr} {c' : Nat} (ho : OwnS Pv.cells 2 w2 base 48 A' c' (s.index ++ [q])) (hg : wr.grownBy w2 (blk a.xA)) (hat : blk A' = blk a.xA ∨ blk A' = some wr.heap.size)
    (hbox : (w2.setCell ⟨gw, 1, none⟩ (.slice A' (s.index ++ [q]).length c')).heap[gw]? = some (wrObj { s with index := s.index ++ [q] } { a with xA := A', xc := c' })) : WS w base gw { s with index := s.index ++ [q] } { a with xA := A', xc := c' } (w2.setCell ⟨gw, 1, none⟩ (.slice A' (s.index ++ [q]).length c')) := by
  have hgs := grownBy_set w2 ⟨gw, 1, none⟩ (.slice A' (s.index ++ [q]).length c')
  have oo : Off [some gw, blk a.oA, blk a.pA] (blk A') := by
    intro g hg' hm
    rcases hat with h1 | h1
    · exact h.d2 g (h1 ▸ hg') hm
    · rw [h1] at hg'; injection hg' with hg'
      have := h.lts g (by simp [WrA.R] at hm ⊢; rcases hm with h | h | h <;> simp [h])
      omega
  have hA : blk A' = none ∨ blk A' ≠ some gw := oo.ne (by simp)
  have hx : blk a.oA = none ∨ blk a.oA ≠ blk a.xA := h.d1.ne (by simp)
  have hp : blk a.pA = none ∨ blk a.pA ≠ blk a.xA := h.d3.ne (by simp)
  have hx2 : blk a.oA = none ∨ blk a.oA ≠ some gw := h.d1.ne (by simp)
  have hp2 : blk a.pA = none ∨ blk a.pA ≠ some gw := h.d3.ne (by simp)
  have hrow : blk A' = blk a.xA ∨ blk A' = some wr.heap.size := hat
  have hR : ∀ r ∈ ({ a with xA := A', xc := c' } : WrA).R gw, r ∈ a.R gw ∨ r = some wr.heap.size := by
    intro r hr
    simp only [WrA.R, List.mem_cons, List.not_mem_nil, or_false] at hr ⊢
    rcases hr with h1 | h1 | h1 | h1 <;> first
      | exact .inl (.inl h1)
      | exact .inl (.inr (.inl h1))
      | exact .inl (.inr (.inr (.inl h1)))
      | exact .inl (.inr (.inr (.inr h1)))
      | (rcases hrow with h2 | h2
         · first
           | exact .inl (.inr (.inl (h1.trans h2)))
           | exact .inl (.inr (.inr (.inl (h1.trans h2))))
           | exact .inl (.inr (.inr (.inr (h1.trans h2))))
         · exact .inr (h1.trans h2))
  have hpr : ∀ q', PvO wr base (a.R gw) q' → PvO (w2.setCell ⟨gw, 1, none⟩ (.slice A' (s.index ++ [q]).length c')) base (({ a with xA := A', xc := c' } : WrA).R gw) q' := fun q' h0 => by
    have h1 := (h0.kept hg (.inr (by simp [WrA.R]))).kept hgs (.inr (by simp [WrA.R]))
    exact ⟨h1.k, h1.v, h1.ko.new (fun g hgg => (h0.k.blk_ge g hgg).2) hR, h1.vo.new (fun g hgg => (h0.v.blk_ge g hgg).2) hR⟩
  refine ⟨hbox, (h.out.kept hg hx).kept hgs hx2, ho.kept hgs hA, (h.opn.kept hg hp).kept hgs hp2, ?_, ?_, oo, ?_, h.g1, ?_, ?_⟩
  · intro q' hq'
    refine hpr q' ?_
    simp only [List.mem_append, List.mem_singleton] at hq'
    rcases hq' with h1 | h1 <;> first
      | exact h.prs q' (.inl h1)
      | exact h.prs q' (.inr h1)
      | (rcases h1 with h1 | h1
         · first
           | exact h.prs q' (.inl h1)
           | exact h.prs q' (.inr h1)
         · rw [h1]; exact hq)
  · exact h.d1.new (fun g hgg => (h.out.blk_ge g hgg).2) (fun r hr => by
      simp only [List.mem_cons, List.not_mem_nil, or_false] at hr ⊢
      rcases hr with h1 | h1 | h1 <;> first
        | exact .inl (.inl h1)
        | exact .inl (.inr (.inl h1))
        | exact .inl (.inr (.inr h1))
        | (rcases hrow with h2 | h2
           · first
             | exact .inl (.inr (.inl (h1.trans h2)))
             | exact .inl (.inr (.inr (h1.trans h2)))
           · exact .inr (h1.trans h2)))
  · exact h.d3.new (fun g hgg => (h.opn.blk_ge g hgg).2) (fun r hr => by
      simp only [List.mem_cons, List.not_mem_nil, or_false] at hr ⊢
      rcases hr with h1 | h1 | h1 <;> first
        | exact .inl (.inl h1)
        | exact .inl (.inr (.inl h1))
        | exact .inl (.inr (.inr h1))
        | (rcases hrow with h2 | h2
           · first
             | exact .inl (.inr (.inl (h1.trans h2)))
             | exact .inl (.inr (.inr (h1.trans h2)))
           · exact .inr (h1.trans h2)))
  · exact (h.below.grown hg h.size (fun k hk => (h.idx.blk_ge k hk).1)).setCell h.g1 _
  · exact Nat.le_trans h.size (Nat.le_trans hg.size (by simp [World.setCell]))
/-- Behind an append of a pair to the row opn, and the store of its slice. -/
theorem WS.app_opn (h : WS w base gw s a wr) {q : Pv} (hq : PvO wr base (a.R gw) q) {A' : Option Addr} {c' : Nat} (ho : OwnS Pv.cells 2 w2 base 48 A' c' (s.opn ++ [q])) (hg : wr.grownBy w2 (blk a.pA)) (hat : blk A' = blk a.pA ∨ blk A' = some wr.heap.size)
    (hbox : (w2.setCell ⟨gw, 2, none⟩ (.slice A' (s.opn ++ [q]).length c')).heap[gw]? = some (wrObj { s with opn := s.opn ++ [q] } { a with pA := A', pc := c' })) : WS w base gw { s with opn := s.opn ++ [q] } { a with pA := A', pc := c' } (w2.setCell ⟨gw, 2, none⟩ (.slice A' (s.opn ++ [q]).length c')) := by
  have hgs := grownBy_set w2 ⟨gw, 2, none⟩ (.slice A' (s.opn ++ [q]).length c')
  have oo : Off [some gw, blk a.oA, blk a.xA] (blk A') := by
    intro g hg' hm
    rcases hat with h1 | h1
    · exact h.d3 g (h1 ▸ hg') hm
    · rw [h1] at hg'; injection hg' with hg'
      have := h.lts g (by simp [WrA.R] at hm ⊢; rcases hm with h | h | h <;> simp [h])
      omega
  have hA : blk A' = none ∨ blk A' ≠ some gw := oo.ne (by simp)
  have hx : blk a.oA = none ∨ blk a.oA ≠ blk a.pA := h.d1.ne (by simp)
  have hp : blk a.xA = none ∨ blk a.xA ≠ blk a.pA := h.d2.ne (by simp)
  have hx2 : blk a.oA = none ∨ blk a.oA ≠ some gw := h.d1.ne (by simp)
  have hp2 : blk a.xA = none ∨ blk a.xA ≠ some gw := h.d2.ne (by simp)
  have hrow : blk A' = blk a.pA ∨ blk A' = some wr.heap.size := hat
  have hR : ∀ r ∈ ({ a with pA := A', pc := c' } : WrA).R gw, r ∈ a.R gw ∨ r = some wr.heap.size := by
    intro r hr
    simp only [WrA.R, List.mem_cons, List.not_mem_nil, or_false] at hr ⊢
    rcases hr with h1 | h1 | h1 | h1 <;> first
      | exact .inl (.inl h1)
      | exact .inl (.inr (.inl h1))
      | exact .inl (.inr (.inr (.inl h1)))
      | exact .inl (.inr (.inr (.inr h1)))
      | (rcases hrow with h2 | h2
         · first
           | exact .inl (.inr (.inl (h1.trans h2)))
           | exact .inl (.inr (.inr (.inl (h1.trans h2))))
           | exact .inl (.inr (.inr (.inr (h1.trans h2))))
         · exact .inr (h1.trans h2))
  have hpr : ∀ q', PvO wr base (a.R gw) q' → PvO (w2.setCell ⟨gw, 2, none⟩ (.slice A' (s.opn ++ [q]).length c')) base (({ a with pA := A', pc := c' } : WrA).R gw) q' := fun q' h0 => by
    have h1 := (h0.kept hg (.inr (by simp [WrA.R]))).kept hgs (.inr (by simp [WrA.R]))
    exact ⟨h1.k, h1.v, h1.ko.new (fun g hgg => (h0.k.blk_ge g hgg).2) hR, h1.vo.new (fun g hgg => (h0.v.blk_ge g hgg).2) hR⟩
  refine ⟨hbox, (h.out.kept hg hx).kept hgs hx2, (h.idx.kept hg hp).kept hgs hp2, ho.kept hgs hA, ?_, ?_, ?_, oo, h.g1, ?_, ?_⟩
  · intro q' hq'
    refine hpr q' ?_
    simp only [List.mem_append, List.mem_singleton] at hq'
    rcases hq' with h1 | h1 <;> first
      | exact h.prs q' (.inl h1)
      | exact h.prs q' (.inr h1)
      | (rcases h1 with h1 | h1
         · first
           | exact h.prs q' (.inl h1)
           | exact h.prs q' (.inr h1)
         · rw [h1]; exact hq)
  · exact h.d1.new (fun g hgg => (h.out.blk_ge g hgg).2) (fun r hr => by
      simp only [List.mem_cons, List.not_mem_nil, or_false] at hr ⊢
      rcases hr with h1 | h1 | h1 <;> first
        | exact .inl (.inl h1)
        | exact .inl (.inr (.inl h1))
        | exact .inl (.inr (.inr h1))
        | (rcases hrow with h2 | h2
           · first
             | exact .inl (.inr (.inl (h1.trans h2)))
             | exact .inl (.inr (.inr (h1.trans h2)))
           · exact .inr (h1.trans h2)))
  · exact h.d2.new (fun g hgg => (h.idx.blk_ge g hgg).2) (fun r hr => by
      simp only [List.mem_cons, List.not_mem_nil, or_false] at hr ⊢
      rcases hr with h1 | h1 | h1 <;> first
        | exact .inl (.inl h1)
        | exact .inl (.inr (.inl h1))
        | exact .inl (.inr (.inr h1))
        | (rcases hrow with h2 | h2
           · first
             | exact .inl (.inr (.inl (h1.trans h2)))
             | exact .inl (.inr (.inr (h1.trans h2)))
           · exact .inr (h1.trans h2)))
  · exact (h.below.grown hg h.size (fun k hk => (h.opn.blk_ge k hk).1)).setCell h.g1 _
  · exact Nat.le_trans h.size (Nat.le_trans hg.size (by simp [World.setCell]))
/-- The open pairs are put away. -/
theorem WS.nil_opn (h : WS w base gw s a wr) (hg : wr.grownBy w2 (some gw)) {n : Int} (hbox : w2.heap[gw]? = some (wrObj { s with opn := [], n := n } { a with pA := none, pc := 0 })) : WS w base gw { s with opn := [], n := n } { a with pA := none, pc := 0 } w2 := by
  have hsub : ∀ r ∈ ({ a with pA := none, pc := 0 } : WrA).R gw, r ∈ a.R gw ∨ r = none := by
    intro r hr
    simp only [WrA.R, List.mem_cons, List.not_mem_nil, or_false] at hr ⊢
    rcases hr with h1 | h1 | h1 | h1
    · exact .inl (.inl h1)
    · exact .inl (.inr (.inl h1))
    · exact .inl (.inr (.inr (.inl h1)))
    · exact .inr h1
  have hO : ∀ {R : List (Option Nat)} {b : Option Nat}, Off (a.R gw) b → Off (({ a with pA := none, pc := 0 } : WrA).R gw) b := fun hb g hg hm => by
    rcases hsub _ hm with h1 | h1
    · exact hb g hg h1
    · cases h1
  refine ⟨hbox, h.out.kept hg (h.d1.ne (by simp)), h.idx.kept hg (h.d2.ne (by simp)), OwnS.nil _ _ _, ?_, ?_, ?_, ?_, h.g1, h.below.grown hg h.size (fun k hk => by injection hk with hk; rw [← hk]; exact h.g1), Nat.le_trans h.size hg.size⟩
  · intro q hq
    have h1 := (h.prs q (by rcases hq with h | h; exact .inl h; cases h)).kept hg (.inr (by simp [WrA.R]))
    exact ⟨h1.k, h1.v, hO (R := a.R gw) h1.ko, hO (R := a.R gw) h1.vo⟩
  · intro g hg' hm
    simp only [List.mem_cons, List.not_mem_nil, or_false] at hm
    refine h.d1 g hg' ?_
    rcases hm with h1 | h1 | h1
    · simp [h1]
    · simp [h1]
    · cases h1
  · intro g hg' hm
    simp only [List.mem_cons, List.not_mem_nil, or_false] at hm
    refine h.d2 g hg' ?_
    rcases hm with h1 | h1 | h1
    · simp [h1]
    · simp [h1]
    · cases h1
  · intro g hg' _
    cases hg'
/-- A block that a pair of the writer's lies in. -/
def WB (s : Wr) (g : Nat) : Prop := ∃ q, (q ∈ s.index ∨ q ∈ s.opn) ∧ (blk q.kA = some g ∨ blk q.vA = some g)
/-- A row that is none of the writer's grows. -/
theorem WS.other (h : WS w base gw s a wr) {row : Option Nat} (hg : wr.grownBy w2 row) (hr : ∀ g, row = some g → some g ∉ a.R gw ∧ ¬ WB s g ∧ base ≤ g) : WS w base gw s a w2 := by
  have hn : ∀ b : Option Nat, b ∈ a.R gw → b = none ∨ b ≠ row := fun b hb => by
    rcases b with _ | g
    · exact .inl rfl
    · exact .inr (fun e => (hr g e.symm).1 hb)
  have hp : ∀ b : Option Nat, (∀ g, b = some g → WB s g) → b = none ∨ b ≠ row := fun b hb => by
    rcases b with _ | g
    · exact .inl rfl
    · exact .inr (fun e => (hr g e.symm).2.1 (hb g rfl))
  refine ⟨(hg.block gw h.lt (fun e => (hr gw e.symm).1 (by simp [WrA.R]))).trans h.box, h.out.kept hg (hn _ (by simp [WrA.R])), h.idx.kept hg (hn _ (by simp [WrA.R])), h.opn.kept hg (hn _ (by simp [WrA.R])), ?_, h.d1, h.d2, h.d3, h.g1, h.below.grown hg h.size (fun k hk => (hr k hk).2.2), Nat.le_trans h.size hg.size⟩
  intro q hq
  have h0 := h.prs q hq
  exact ⟨h0.k.kept hg (hp _ (fun g hgg => ⟨q, hq, .inl hgg⟩)), h0.v.kept hg (hp _ (fun g hgg => ⟨q, hq, .inr hgg⟩)), h0.ko, h0.vo⟩
end
end Go.Proofs.YtgafionfojnieaaDoor

namespace Go.Proofs.YtgafionfojnieaaDoor
open Go.RowKit

theorem WS.cells {w wr : World} {base gw : Nat} {s : Wr} {a : WrA} (h : WS w base gw s a wr) : wr.cell? ⟨gw, 0, none⟩ = some (.slice a.oA s.out.length a.oc) ∧ wr.cell? ⟨gw, 1, none⟩ = some (.slice a.xA s.index.length a.xc) ∧ wr.cell? ⟨gw, 2, none⟩ = some (.slice a.pA s.opn.length a.pc) ∧ wr.cell? ⟨gw, 3, none⟩ = some (.int .i64 s.n) ∧ wr.cell? ⟨gw, 4, none⟩ = some (.bool s.bad) ∧ (∀ j, wr.frozen? ⟨gw, j, none⟩ = false) := by
  have hb := h.box
  refine ⟨?_, ?_, ?_, ?_, ?_, fun j => frozen_of_row wr gw j _ _ hb⟩
  all_goals (rw [cell_of_row wr gw _ _ _ (0, 0) hb]; rfl)
/-- What a writer's step may touch: its own cell, its rows, what is new. -/
structure Mv (gw : Nat) (a : WrA) (wr : World) (a' : WrA) (w' : World) : Prop where
  size : wr.heap.size ≤ w'.heap.size
  block : ∀ k, k < wr.heap.size → some k ∉ a.R gw → w'.heap[k]? = wr.heap[k]?
  rows : ∀ g, some g ∈ a'.R gw → some g ∈ a.R gw ∨ wr.heap.size ≤ g
theorem Mv.refl (gw : Nat) (a : WrA) (w : World) : Mv gw a w a w := ⟨Nat.le_refl _, fun _ _ _ => rfl, fun _ h => .inl h⟩
theorem Mv.trans {gw : Nat} {a b c : WrA} {w1 w2 w3 : World} (h : Mv gw a w1 b w2) (k : Mv gw b w2 c w3) : Mv gw a w1 c w3 :=
  ⟨Nat.le_trans h.size k.size, fun i hi hn => (k.block i (Nat.lt_of_lt_of_le hi h.size) (fun hm => by
    rcases h.rows i hm with h1 | h1
    · exact hn h1
    · omega)).trans (h.block i hi hn), fun g hg => by
    rcases k.rows g hg with h1 | h1
    · exact h.rows g h1
    · exact .inr (Nat.le_trans h.size h1)⟩
theorem Mv.call {gw : Nat} {a : WrA} {w1 w2 : World} (hb : Below w1.heap.size w1 w2) : Mv gw a w1 a w2 := ⟨hb.size, fun k hk _ => hb.block k hk, fun _ h => .inl h⟩
theorem Mv.set {gw : Nat} {a : WrA} {w1 : World} (p : Addr) (hp : p.block = gw) (v : Value) : Mv gw a w1 a (w1.setCell p v) :=
  ⟨by simp [World.setCell], fun k _ hn => Below.heap_setCell _ _ _ _ (fun e => hn (by rw [e, hp]; simp [WrA.R])), fun _ h => .inl h⟩
theorem Mv.grow {gw : Nat} {a a' : WrA} {w1 w2 : World} {row : Option Nat} (hg : w1.grownBy w2 row) (hr : row = none ∨ row ∈ a.R gw) (hrows : ∀ g, some g ∈ a'.R gw → some g ∈ a.R gw ∨ w1.heap.size ≤ g) : Mv gw a w1 a' w2 :=
  ⟨hg.size, fun k hk hn => hg.block k hk (fun e => by
    rcases hr with h | h
    · rw [h] at e; cases e
    · exact hn (by rw [e]; exact h)), hrows⟩
def FrameP (w : World) (base gw : Nat) (s : Wr) (a : WrA) (wr : World) (f : List UInt8) (ok : Bool) (e : Ending) (w' : World) : Prop :=
  ∃ a', e = .returned (.int .i64 (f.length : Int)) ∧ WS w base gw { s with out := s.out ++ f, bad := s.bad || !ok } a' w' ∧ Mv gw a wr a' w'
theorem heap_set0 {w : World} {g : Nat} {x0 x1 x2 x3 x4 v : Value} {T : TypeId} (h : w.heap[g]? = some (.cells #[x0, x1, x2, x3, x4] T)) : (w.setCell ⟨g, 0, none⟩ v).heap[g]? = some (.cells #[v, x1, x2, x3, x4] T) := by
  have := heap_setCell_same w g 0 _ T v h; simpa using this
theorem heap_set1_ {w : World} {g : Nat} {x0 x1 x2 x3 x4 v : Value} {T : TypeId} (h : w.heap[g]? = some (.cells #[x0, x1, x2, x3, x4] T)) : (w.setCell ⟨g, 1, none⟩ v).heap[g]? = some (.cells #[x0, v, x2, x3, x4] T) := by
  have := heap_setCell_same w g 1 _ T v h; simpa using this
theorem heap_set2_ {w : World} {g : Nat} {x0 x1 x2 x3 x4 v : Value} {T : TypeId} (h : w.heap[g]? = some (.cells #[x0, x1, x2, x3, x4] T)) : (w.setCell ⟨g, 2, none⟩ v).heap[g]? = some (.cells #[x0, x1, v, x3, x4] T) := by
  have := heap_setCell_same w g 2 _ T v h; simpa using this
theorem heap_set3_ {w : World} {g : Nat} {x0 x1 x2 x3 x4 v : Value} {T : TypeId} (h : w.heap[g]? = some (.cells #[x0, x1, x2, x3, x4] T)) : (w.setCell ⟨g, 3, none⟩ v).heap[g]? = some (.cells #[x0, x1, x2, v, x4] T) := by
  have := heap_setCell_same w g 3 _ T v h; simpa using this
theorem heap_set4_ {w : World} {g : Nat} {x0 x1 x2 x3 x4 v : Value} {T : TypeId} (h : w.heap[g]? = some (.cells #[x0, x1, x2, x3, x4] T)) : (w.setCell ⟨g, 4, none⟩ v).heap[g]? = some (.cells #[x0, x1, x2, x3, v] T) := by
  have := heap_setCell_same w g 4 _ T v h; simpa using this
/-- The flag is set. -/
theorem WS.setBad {w wr : World} {base gw : Nat} {s : Wr} {a : WrA} (h : WS w base gw s a wr) (b : Bool) : WS w base gw { s with bad := b } a (wr.setCell ⟨gw, 4, none⟩ (.bool b)) :=
  h.set (grownBy_set wr ⟨gw, 4, none⟩ _) (heap_set4_ h.box) rfl rfl rfl rfl
theorem WS.setN {w wr : World} {base gw : Nat} {s : Wr} {a : WrA} (h : WS w base gw s a wr) (n : Int) : WS w base gw { s with n := n } a (wr.setCell ⟨gw, 3, none⟩ (.int .i64 n)) :=
  h.set (grownBy_set wr ⟨gw, 3, none⟩ _) (heap_set3_ h.box) rfl rfl rfl rfl
set_option maxHeartbeats 2000000 in
set_option maxRecDepth 100000 in
theorem wframe_any (w : World) (base gw : Nat) (s : Wr) (a : WrA) (K : UInt8) (A : Option Addr) (c : Nat) (b : List UInt8) (wr : World) (h : WS w base gw s a wr) (hb : RdB wr wr.heap.size A b) (hl : b.length ≤ 70368744177664) (hn : s.out.length ≤ 1000000000000) :
    Calls Tryd.prog 20 #[.pointer (some ⟨gw, 0, none⟩), .int .u8 (K.toNat : Int), .slice A b.length c] wr (FrameP w base gw s a wr (Tb.putL K b) (decide (b.length ≤ 65536))) := by
  have KP : Hid (Calls Tryd.prog 49 #[.int .u8 (K.toNat : Int), .slice A b.length c] wr fun e w' => ∃ A1 c1, e = .returned (.tuple #[.slice A1 (Tb.putL K b).length c1, .int .i64 (if b.length ≤ 65536 then 0 else 1)]) ∧ Own w' wr.heap.size 5 A1 c1 (Tb.putL K b) ∧ Below wr.heap.size wr w') :=
    Lib.hid ((fput_any K A c b wr hb hl).mono fun e w' h => by
      obtain ⟨hbe, h | h⟩ := h
      · have hn : ¬ b.length ≤ 65536 := by simpa using h.1
        unfold Tb.putL
        rw [if_neg hn, if_neg hn]
        exact ⟨none, 0, h.2, Own.nil _ _ _, hbe⟩
      · obtain ⟨hy, A1, c1, he, ho⟩ := h
        have hy' : b.length ≤ 65536 := by simpa using hy
        unfold Tb.putL
        rw [if_pos hy', if_pos hy']
        exact ⟨A1, c1, he, ho, hbe⟩)
  have hF : (Tb.putL K b).length ≤ 100000 := by
    unfold Tb.putL
    split
    · rename_i hs
      have := Cod.number_len (n := b.length) (by omega)
      unfold Frm.put Frm.head Cod.text Frm.be4
      simp; omega
    · simp
  obtain ⟨F, hFF⟩ : ∃ F, F = Tb.putL K b := ⟨_, rfl⟩
  obtain ⟨ok, hok⟩ : ∃ ok, ok = decide (b.length ≤ 65536) := ⟨_, rfl⟩
  have he : (if b.length ≤ 65536 then (0 : Int) else 1) = if ok then 0 else 1 := by rw [hok]; by_cases hs : b.length ≤ 65536 <;> simp [hs]
  rw [he] at KP
  rw [← hFF] at KP hF ⊢
  rw [← hok]
  obtain ⟨x, hx⟩ : ∃ x : Int, x = if ok then 0 else 1 := ⟨_, rfl⟩
  rw [← hx] at KP
  have HWS := Lib.hid h
  obtain ⟨k, hk⟩ : ∃ k : Int, k = (K.toNat : Int) := ⟨_, rfl⟩
  rw [← hk] at KP ⊢
  clear hFF hok he h hb hk
  have hcase : (ok = true ∧ x = 0) ∨ (ok = false ∧ x = 1) := by cases ok <;> simp [hx]
  clear hx
  go_enter Tryd.func20, Tryd.ntmps20
  go_wp2_with fail
  refine KP.out.mono ?_
  rintro e w1 ⟨A1, c1, rfl, ho, hb1⟩
  have HO := Lib.hid ho; have HB1 := Lib.hid hb1
  have HW1 := Lib.hid (HWS.out.call hb1)
  clear ho hb1 KP
  obtain ⟨o0, o1, o2, o3, o4, of⟩ := HW1.out.cells
  have of4 := of 4
  have of0 := of 0
  obtain ⟨f, hf⟩ : ∃ f, f = s.bad := ⟨_, rfl⟩
  obtain ⟨O, hO⟩ : ∃ O, O = s.out.length := ⟨_, rfl⟩
  rw [← hf] at o4
  clear of o1 o2 o3
  obtain ⟨nf, hnf⟩ : ∃ nf, nf = (s.bad || !ok) := ⟨_, rfl⟩
  have hcase2 : (ok = true ∧ x = 0 ∧ f = true ∧ nf = true) ∨ (ok = true ∧ x = 0 ∧ f = false ∧ nf = false) ∨ (ok = false ∧ x = 1 ∧ f = true ∧ nf = true) ∨ (ok = false ∧ x = 1 ∧ f = false ∧ nf = true) := by
    rw [← hf] at hnf
    cases f <;> rcases hcase with ⟨h1, h2⟩ | ⟨h1, h2⟩ <;> simp [h1, h2, hnf]
  have HO0 := Lib.hid hO
  have HNF : Hid (nf = (s.bad || !ok)) := Lib.hid hnf
  have HW2 := Lib.hid (HW1.out.setBad nf)
  have HR2 : Hid (Own (w1.setCell ⟨gw, 4, none⟩ (.bool nf)) wr.heap.size 5 A1 c1 F) := Lib.hid (HO.out.cellput _ _ (fun e => by have := (HO.out.blk_ge gw e).1; have := HWS.out.lt; omega))
  obtain ⟨p0, p1, p2, p3, p4, pf⟩ := HW2.out.cells
  have pf0 := pf 0
  have HFIN : Hid (∀ A' c' L w3, L = s.out ++ F → Own w3 base 5 A' c' L → (w1.setCell ⟨gw, 4, none⟩ (.bool nf)).grownBy w3 (blk a.oA) → (blk A' = blk a.oA ∨ blk A' = some w1.heap.size) →
      w3.cell? ⟨gw, 0, none⟩ = some (.slice a.oA s.out.length a.oc) ∧ w3.frozen? ⟨gw, 0, none⟩ = false ∧ FrameP w base gw s a wr F ok (.returned (.int .i64 (F.length : Int))) (w3.setCell ⟨gw, 0, none⟩ (.slice A' L.length c'))) := Lib.hid (fun A' c' L w3 hL ho hg hat => by
    subst hL
    have h0 := HW2.out
    have hat : blk A' = blk a.oA ∨ blk A' = some (w1.setCell ⟨gw, 4, none⟩ (.bool nf)).heap.size := by simpa [World.setCell] using hat
    have hbx : w3.heap[gw]? = some (wrObj { s with bad := nf } a) := (hg.block _ h0.lt (fun e => by
      rcases h0.d1.ne (r := some gw) (by simp) with h1 | h1
      · rw [h1] at e; cases e
      · exact h1 e.symm)).trans h0.box
    have hst := h0.app_out ho hg hat (heap_set0 hbx)
    refine ⟨by rw [cell_of_row w3 gw 0 _ _ (0, 0) hbx]; rfl, frozen_of_row w3 gw 0 _ _ hbx, { a with oA := A', oc := c' }, rfl, ?_, ?_⟩
    · have := hst; simp only at this; rw [HNF.out] at this; exact this
    · refine ((Mv.call HB1.out).trans (Mv.set ⟨gw, 4, none⟩ rfl _)).trans ((Mv.grow hg (.inr (by simp [WrA.R])) (fun g hg' => ?_)).trans (Mv.set ⟨gw, 0, none⟩ rfl _))
      simp only [WrA.R, List.mem_cons, List.not_mem_nil, or_false] at hg' ⊢
      rcases hg' with h1 | h1 | h1 | h1
      · exact .inl (.inl h1)
      · rcases hat with h2 | h2
        · exact .inl (.inr (.inl (h1.trans h2)))
        · have := h1.trans h2; injection this with this; exact .inr (Nat.le_of_eq this.symm)
      · exact .inl (.inr (.inr (.inl h1)))
      · exact .inl (.inr (.inr (.inr h1))))
  clear hcase hf hO pf p1 p2 p3 p4 hnf
  rcases hcase2 with ⟨rfl, rfl, rfl, rfl⟩ | ⟨rfl, rfl, rfl, rfl⟩ | ⟨rfl, rfl, rfl, rfl⟩ | ⟨rfl, rfl, rfl, rfl⟩
  all_goals
    go_wp2_with (at_builtin; refine wpList_append_b _ rfl _ _ bt rfl base a.oA a.oc s.out rfl HW2.out.out _ A1 F.length c1 F rfl rfl HR2.out.rd (by omega) HW2.out.size ?_)
    intro A2 c2 L w3 hL ho hg hat
    obtain ⟨q0, qf0, hfin⟩ := HFIN.out A2 c2 L w3 hL ho hg hat
    have HFN := Lib.hid hfin
    clear hL ho hg hat hfin
    go_wp2_with fail
    go_ret
    exact HFN.out
end Go.Proofs.YtgafionfojnieaaDoor
