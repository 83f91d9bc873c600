/- Rows of int64 of the call's own: reading, append (written by gen_int.py out of XByt). Over any program. -/
import Derived.Test.YtcegcgbcffdjjaaDoorProg
import Derived.Test.YtcegcgbcffdjjaaDoorByt
namespace Go.Proofs.YtcegcgbcffdjjaaDoor
open Go.RowKit

/-- Bytes as cells. -/
def iv (l : List Int) : List Value := l.map fun b => .int .i64 b
theorem iv_length (l : List Int) : (iv l).length = l.length := by simp [iv]
theorem iv_append (l m : List Int) : iv (l ++ m) = iv l ++ iv m := by simp [iv]
theorem iv_one (l : List Int) : ∀ u ∈ iv l, u.oneCell' = true := by
  intro u hu
  simp only [iv, List.mem_map] at hu
  obtain ⟨b, _, rfl⟩ := hu
  rfl
theorem iv_drop (l : List Int) (k : Nat) : iv (l.drop k) = (iv l).drop k := by simp [iv]
theorem iv_take (l : List Int) (k : Nat) : iv (l.take k) = (iv l).take k := by simp [iv]
theorem iv_get (l : List Int) (k : Nat) (h : k < l.length) : (iv l)[k]? = some (.int .i64 l[k]) := by simp [iv, h]

/-- The numbers of the types of bytes in a program. -/
structure IT (P : Program) (t e : TypeId) : Prop where
  sl : P.underlying t = some (.slice e)
  el : P.underlying e = some (.int .i64)
  info : (P.info? e).map (fun i => (i.zero, i.size, i.bytes)) = some (some (.int .i64 0), 1, 8)

/-- A slice of bytes reads as l. -/
def RdI (w : World) (B : Nat) (A : Option Addr) (l : List Int) : Prop := Reads w B 1 A l.length (iv l)
/-- A slice of bytes, the call's own (from block 'base' on), reads as l. -/
def OwnI (w : World) (base : Nat) (e : TypeId) (A : Option Addr) (c : Nat) (l : List Int) : Prop := w.ownsRow base e 1 (.slice A l.length c) l.length (iv l)
section
variable {w w' : World} {B base : Nat} {e : TypeId} {A : Option Addr} {c : Nat} {l : List Int}
theorem RdI.below {D : Nat} (h : RdI w B A l) (hb : Below D w w') (hD : B ≤ D) : RdI w' B A l := Reads.below h hb hD
theorem RdI.alloc (h : RdI w B A l) (hB : B ≤ w.heap.size) (o : Obj) : RdI (w.alloc o) B A l := Reads.alloc h hB o
theorem RdI.more {B' : Nat} (h : RdI w B A l) (hB : B ≤ B') : RdI w B' A l := Reads.more h hB
theorem RdI.nil : RdI w B A [] := Reads.none_
theorem RdI.grown (h : RdI w B A l) {row : Option Nat} (hg : w.grownBy w' row) (hB : B ≤ w.heap.size) (hr : ∀ g, row = some g → B ≤ g) : RdI w' B A l := Reads.grown h hg hB hr
theorem RdI.cell (h : RdI w B A l) {k : Nat} (hk : k < l.length) : ∃ ad, A = some ad ∧ ad.block < B ∧ w.cell? (ad.add k) = some (.int .i64 l[k]) := by
  obtain ⟨ad, u, h1, h2, h3, h4⟩ := Reads.at_ h hk
  rw [iv_get l k hk] at h3
  injection h3 with h3
  exact ⟨ad, h1, h2, by rw [h4, h3]⟩
theorem RdI.drop (h : RdI w B A l) {k cap : Nat} (hk : k ≤ l.length) (hc : l.length ≤ cap) : RdI w B (if cap = k then A else A.map (·.add k)) (l.drop k) := by
  have := Reads.drop h hk hc
  unfold RdI
  rw [List.length_drop, iv_drop]
  exact this
theorem RdI.take (h : RdI w B A l) {k : Nat} (hk : k ≤ l.length) : RdI w B A (l.take k) := by
  have := Reads.take h hk
  unfold RdI
  rw [List.length_take, iv_take, Nat.min_eq_left hk]
  exact this
theorem OwnI.rd (h : OwnI w base e A c l) : RdI w w.heap.size A l := Reads.of_own h
theorem OwnI.cap (h : OwnI w base e A c l) : l.length ≤ c := by
  rcases h.2 with ⟨hv, hn⟩ | ⟨g, cap, cur, hv, _, _, hc, _⟩
  · omega
  · injection hv with _ _ h3; omega
theorem OwnI.kept {row : Option Nat} (h : OwnI w base e A c l) (hg : w.grownBy w' row) (hne : blk A = none ∨ blk A ≠ row) : OwnI w' base e A c l :=
  World.ownsRow.kept h hg (by rw [ownBlock_slice]; exact hne)
theorem OwnI.alloc (h : OwnI w base e A c l) (o : Obj) : OwnI (w.alloc o) base e A c l := World.ownsRow.alloc h o
theorem OwnI.below (h : OwnI w base e A c l) (hb : Below w.heap.size w w') : OwnI w' base e A c l :=
  World.ownsRow.kept (row := none) h ⟨hb.os, hb.tape, hb.output, hb.size, fun k hk _ => hb.block k hk⟩ (by cases A <;> simp [Value.ownBlock])
theorem OwnI.mono {base' : Nat} (h : OwnI w base e A c l) (hb : base' ≤ base) : OwnI w base' e A c l := by
  refine ⟨h.1, ?_⟩
  rcases h.2 with h2 | ⟨g, cap, cur, hv, hg, r⟩
  · exact .inl h2
  · exact .inr ⟨g, cap, cur, hv, by omega, r⟩
theorem OwnI.blk_ge (h : OwnI w base e A c l) : ∀ g, blk A = some g → base ≤ g ∧ g < w.heap.size := by
  intro g hg
  refine World.ownsRow.lt h g ?_
  cases A with
  | none => simp [blk] at hg
  | some a => simpa [Value.ownBlock, blk] using hg
theorem OwnI.nil (w : World) (base : Nat) (e : TypeId) : OwnI w base e none 0 [] := World.ownsRow_nil _ _ _ _
end

section
variable {P : Program} (w : World)
/-- append of bytes onto bytes of the call's own. -/
theorem run_append_i {t e : TypeId} (T : IT P t e) (ty : TypeId) (base : Nat) (A : Option Addr) (c : Nat) (l : List Int) (hown : OwnI w base e A c l)
    (B : Nat) (A2 : Option Addr) (m c2 : Nat) (l2 : List Int) (hm : m = l2.length) (hr : RdI w B A2 l2) (hlen : l.length + l2.length ≤ 1000000) (hbase : base ≤ w.heap.size) :
    ∃ A' c' w', (Builtin.append_ #[t, t] ty #[.slice A l.length c, .slice A2 m c2]).run P w = .ok (.slice A' (l ++ l2).length c') w' ∧ OwnI w' base e A' c' (l ++ l2) ∧ w.grownBy w' (blk A) ∧
      (blk A' = blk A ∨ blk A' = some w.heap.size) := by
  subst hm
  obtain ⟨i, hi, hz0, hz1, hz2⟩ := info_parts T.info
  obtain ⟨v', w', hrun, h2, h3, h4⟩ := run_append_any (P := P) w base t ty e i _ 1 8 T.sl hi hz0 hz1 hz2 rfl (by omega) (.slice A l.length c) l.length (iv l) hown B A2 l2.length c2 (iv l2) hr (iv_one l2)
    (by unfold maxLen; omega) (by omega) hbase
  rw [ownBlock_slice] at h3 h4
  have hv : ∃ A' c', v' = .slice A' (l ++ l2).length c' := by
    rw [List.length_append]
    rcases h2.2 with ⟨hv, hn⟩ | ⟨g, cap, cur, hv, _⟩
    · exact ⟨none, 0, by rw [hv, hn]⟩
    · exact ⟨_, _, hv⟩
  obtain ⟨A', c', rfl⟩ := hv
  rw [ownBlock_slice] at h4
  refine ⟨A', c', w', hrun, ?_, h3, h4⟩
  unfold OwnI
  rw [iv_append]
  rw [List.length_append] at h2 ⊢
  exact h2

theorem wp_append_i {o : Oper} {a : Act} {K : Act → World → Prop} {Q : Exit → Act → World → Prop} (s x : Operand) {t e : TypeId} (T : IT P t e)
    (ho : o.op = .call { callee := .builtin .append, args := #[s, x], argTypes := #[t, t] })
    (base : Nat) (A : Option Addr) (c : Nat) (l : List Int) (hs : a.eval s = .slice A l.length c) (hown : OwnI w base e A c l)
    (B : Nat) (A2 : Option Addr) (m c2 : Nat) (l2 : List Int) (hx : a.eval x = .slice A2 m c2) (hm : m = l2.length) (hr : RdI w B A2 l2) (hlen : l.length + l2.length ≤ 1000000) (hbase : base ≤ w.heap.size)
    (h : ∀ A' c' L w', L = l ++ l2 → OwnI w' base e A' c' L → w.grownBy w' (blk A) → (blk A' = blk A ∨ blk A' = some w.heap.size) → K (a.put o.dst (.slice A' L.length c')) w') : o.wp P a w K Q := by
  obtain ⟨A', c', w', hrun, h2, h3, h4⟩ := run_append_i (P := P) w T o.type base A c l hown B A2 m c2 l2 hm hr hlen hbase
  unfold Oper.wp execOp
  simp only [ho, resolve, invoke, builtin, Sem.run_bind, Sem.run_pure, Result.andThen_ok, List.map_toArray, List.map_cons, List.map_nil, hs, hx, hrun]
  exact h A' c' _ w' rfl h2 h3 h4

/-- .. at the list of a plain region's operations. -/
theorem wpList_append_i {ops : Array Oper} {rest : List Oper} {o : Oper} {a : Act} {Q : Exit → Act → World → Prop} (hgd : o.guard = none) (s x : Operand) {t e : TypeId} (T : IT P t e)
    (ho : o.op = .call { callee := .builtin .append, args := #[s, x], argTypes := #[t, t] })
    (base : Nat) (A : Option Addr) (c : Nat) (l : List Int) (hs : a.eval s = .slice A l.length c) (hown : OwnI w base e A c l)
    (B : Nat) (A2 : Option Addr) (m c2 : Nat) (l2 : List Int) (hx : a.eval x = .slice A2 m c2) (hm : m = l2.length) (hr : RdI w B A2 l2) (hlen : l.length + l2.length ≤ 1000000) (hbase : base ≤ w.heap.size)
    (h : ∀ A' c' L w', L = l ++ l2 → OwnI w' base e A' c' L → w.grownBy w' (blk A) → (blk A' = blk A ∨ blk A' = some w.heap.size) → wpList P ops Q rest (a.put o.dst (.slice A' L.length c')) w') : wpList P ops Q (o :: rest) a w :=
  wpList_plain hgd fun _ hK => wp_append_i w s x T ho base A c l hs hown B A2 m c2 l2 hx hm hr hlen hbase fun A' c' L w' h1 h2 h3 h4 => hK _ _ (h A' c' L w' h1 h2 h3 h4)

/-- .. at a step of a region that draws its order. -/
theorem step_append_i {ops : Array Oper} {o : Oper} {a : Act} {K : Act → World → Prop} {Q : Exit → Act → World → Prop} {E : Prop} (hgd : o.guard = none) (s x : Operand) {t e : TypeId} (T : IT P t e)
    (ho : o.op = .call { callee := .builtin .append, args := #[s, x], argTypes := #[t, t] })
    (base : Nat) (A : Option Addr) (c : Nat) (l : List Int) (hs : a.eval s = .slice A l.length c) (hown : OwnI w base e A c l)
    (B : Nat) (A2 : Option Addr) (m c2 : Nat) (l2 : List Int) (hx : a.eval x = .slice A2 m c2) (hm : m = l2.length) (hr : RdI w B A2 l2) (hlen : l.length + l2.length ≤ 1000000) (hbase : base ≤ w.heap.size)
    (h : ∀ A' c' L w', L = l ++ l2 → OwnI w' base e A' c' L → w.grownBy w' (blk A) → (blk A' = blk A ∨ blk A' = some w.heap.size) → K (a.put o.dst (.slice A' L.length c')) w') :
    if Region.wanted o (yielded ops a.tmps) = true then Oper.wp P o a w K Q else E := by
  have hw : Region.wanted o (yielded ops a.tmps) = true := by simp [Region.wanted, hgd]
  rw [if_pos hw]
  exact wp_append_i w s x T ho base A c l hs hown B A2 m c2 l2 hx hm hr hlen hbase h

/-- 'step_append_i' with the destination named. -/
theorem step_append_id {ops : Array Oper} {o : Oper} {a : Act} {K : Act → World → Prop} {Q : Exit → Act → World → Prop} {E : Prop} (hgd : o.guard = none) (d : Option Tmp) (hd : o.dst = d) (s x : Operand) {t e : TypeId} (T : IT P t e)
    (ho : o.op = .call { callee := .builtin .append, args := #[s, x], argTypes := #[t, t] })
    (base : Nat) (A : Option Addr) (c : Nat) (l : List Int) (hs : a.eval s = .slice A l.length c) (hown : OwnI w base e A c l)
    (B : Nat) (A2 : Option Addr) (m c2 : Nat) (l2 : List Int) (hx : a.eval x = .slice A2 m c2) (hm : m = l2.length) (hr : RdI w B A2 l2) (hlen : l.length + l2.length ≤ 1000000) (hbase : base ≤ w.heap.size)
    (h : ∀ A' c' L w', L = l ++ l2 → OwnI w' base e A' c' L → w.grownBy w' (blk A) → (blk A' = blk A ∨ blk A' = some w.heap.size) → K (a.put d (.slice A' L.length c')) w') :
    if Region.wanted o (yielded ops a.tmps) = true then Oper.wp P o a w K Q else E := by
  subst hd
  exact step_append_i w hgd s x T ho base A c l hs hown B A2 m c2 l2 hx hm hr hlen hbase h
end
theorem it : IT Tryd.prog 64 2 := ⟨Tryd.underlying64, Tryd.underlying2, by kernel_rfl⟩
end Go.Proofs.YtcegcgbcffdjjaaDoor
