/- Parts of the proof, one behind the other: Slices of bytes: what a slice value reads as (a list of bytes); rows of bytes that the call owns; append, conversion to a string. Over any program. (The words 'Reads', 'run_append_any' after the guide; Blocks of bytes that are known whole: make, copy. Over any program.; Texts that are not the same. -/
import Derived.WalkKit
import Derived.WalkSpells
import Derived.WalkLawsBesides
import Derived.Maps.AppendAt
import Derived.Deep.AppendLies
import Derived.Deep.Draws
import Derived.RegionTactic
import Derived.OwnWalk
import Derived.Lib.Hide
import Derived.OpenShut
import Derived.Laws.CopyOwn
import Derived.Deep.RegionLaw
namespace Go.Proofs.YtlmejpkngnilcaaGreatDoor
open Go.RowKit

theorem ret_slice {A : Option Addr} {n m c : Nat} (h : n = m) : Ending.returned (.slice A n c) = .returned (.slice A m c) := by rw [h]
theorem ret_b {a b : Bool} (h : a = b) : Ending.returned (.bool a) = .returned (.bool b) := by rw [h]
theorem ret_i {k : IntKind} {a b : Int} (h : a = b) : Ending.returned (.int k a) = .returned (.int k b) := by rw [h]
theorem block_of_add (a : Addr) (n : Nat) : (a.add n).block = a.block := by unfold Addr.add; split <;> rfl
theorem add_of_add (a : Addr) (i j : Nat) : (a.add i).add j = a.add (i + j) := by
  unfold Addr.add
  by_cases hi : i = 0 <;> by_cases hj : j = 0 <;> simp [hi, hj, Nat.add_assoc]

/-- The slice '.slice A n c' holds the cells xs ('size' cells an element); its block lies below B. -/
def Reads (w : World) (B size : Nat) (A : Option Addr) (n : Nat) (xs : List Value) : Prop :=
  xs.length = n * size ∧ (0 < n → ∃ ad, A = some ad ∧ ad.block < B ∧ ∀ j u, xs[j]? = some u → w.cell? (ad.add j) = some u)

section
variable {w w' : World} {B B' size n : Nat} {A : Option Addr} {xs : List Value}
theorem Reads.none_ : Reads w B size A 0 [] := ⟨by simp, fun h => absurd h (by omega)⟩
theorem Reads.at_ {k : Nat} (h : Reads w B 1 A n xs) (hk : k < n) : ∃ ad u, A = some ad ∧ ad.block < B ∧ xs[k]? = some u ∧ w.cell? (ad.add k) = some u := by
  obtain ⟨ad, e, hb, hc⟩ := h.2 (by omega)
  have hl : k < xs.length := by have := h.1; omega
  exact ⟨ad, xs[k], e, hb, List.getElem?_eq_getElem hl, hc k _ (List.getElem?_eq_getElem hl)⟩
theorem Reads.keep (h : Reads w B size A n xs) (hk : ∀ p : Addr, p.block < B → w'.cell? p = w.cell? p) : Reads w' B size A n xs :=
  ⟨h.1, fun hn => by
    obtain ⟨ad, e, hb, hc⟩ := h.2 hn
    exact ⟨ad, e, hb, fun j u hu => (hk _ (by rw [block_of_add]; exact hb)).trans (hc j u hu)⟩⟩
theorem Reads.more (h : Reads w B size A n xs) (hB : B ≤ B') : Reads w B' size A n xs :=
  ⟨h.1, fun hn => by
    obtain ⟨ad, e, hb, hc⟩ := h.2 hn
    exact ⟨ad, e, by omega, hc⟩⟩
theorem Reads.below {D : Nat} (h : Reads w B size A n xs) (hb : Below D w w') (hD : B ≤ D) : Reads w' B size A n xs := h.keep fun _ hp => hb.cell (by omega)
theorem Reads.drew (h : Reads w B size A n xs) : Reads w.drew B size A n xs := h
theorem Reads.drewN (h : Reads w B size A n xs) (k : Nat) : Reads (w.drewN k) B size A n xs := h
theorem Reads.alloc (h : Reads w B size A n xs) (hB : B ≤ w.heap.size) (o : Obj) : Reads (w.alloc o) B size A n xs := h.keep fun p hp => World.cell?_alloc_lt w o p (by omega)
theorem Reads.setCell (h : Reads w B size A n xs) {p : Addr} (hB : B ≤ p.block) (u : Value) : Reads (w.setCell p u) B size A n xs :=
  h.keep fun q hq => World.cell?_setCell_other w p q u (fun e => by subst e; omega)
theorem Reads.grown (h : Reads w B size A n xs) {row : Option Nat} (hg : w.grownBy w' row) (hB : B ≤ w.heap.size) (hr : ∀ g, row = some g → B ≤ g) : Reads w' B size A n xs :=
  h.keep fun p hp => World.cell?_of_block (hg.block p.block (by omega) (fun e => by have := hr _ e.symm; omega))
/-- A cut at the head. -/
theorem Reads.drop (h : Reads w B 1 A n xs) {k cap : Nat} (hk : k ≤ n) (hc : n ≤ cap) :
    Reads w B 1 (if cap = k then A else A.map (·.add k)) (n - k) (xs.drop k) := by
  refine ⟨by rw [List.length_drop, h.1]; omega, fun hn => ?_⟩
  obtain ⟨ad, rfl, hb, hcell⟩ := h.2 (by omega)
  rw [if_neg (by omega)]
  refine ⟨ad.add k, rfl, by rw [block_of_add]; exact hb, fun j u hu => ?_⟩
  rw [add_of_add]
  exact hcell _ u (by rw [← hu, List.getElem?_drop])
/-- A cut at the end. -/
theorem Reads.take (h : Reads w B 1 A n xs) {k : Nat} (hk : k ≤ n) : Reads w B 1 A k (xs.take k) := by
  refine ⟨by rw [List.length_take, h.1]; omega, fun hn => ?_⟩
  obtain ⟨ad, rfl, hb, hcell⟩ := h.2 (by omega)
  refine ⟨ad, rfl, hb, fun j u hu => hcell j u ?_⟩
  rw [List.getElem?_take] at hu
  split at hu
  · exact hu
  · cases hu
theorem Reads.of_own {base : Nat} {e : TypeId} {c : Nat} (h : w.ownsRow base e size (.slice A n c) n xs) : Reads w w.heap.size size A n xs := by
  refine ⟨h.1, fun hn => ?_⟩
  obtain ⟨g, cap, hv, _, hlt⟩ := h.form hn
  have hA : A = some ⟨g, 0, none⟩ := by injection hv
  subst hA
  exact ⟨_, rfl, hlt, h.cells (g := g) rfl⟩
end

/-- Bytes as cells. -/
def bv (l : List UInt8) : List Value := l.map fun b => .int .u8 (b.toNat : Int)
theorem bv_length (l : List UInt8) : (bv l).length = l.length := by simp [bv]
theorem bv_append (l m : List UInt8) : bv (l ++ m) = bv l ++ bv m := by simp [bv]
theorem bv_one (l : List UInt8) : ∀ u ∈ bv l, u.oneCell' = true := by
  intro u hu
  simp only [bv, List.mem_map] at hu
  obtain ⟨b, _, rfl⟩ := hu
  rfl
theorem bv_drop (l : List UInt8) (k : Nat) : bv (l.drop k) = (bv l).drop k := by simp [bv]
theorem bv_take (l : List UInt8) (k : Nat) : bv (l.take k) = (bv l).take k := by simp [bv]
theorem bv_get (l : List UInt8) (k : Nat) (h : k < l.length) : (bv l)[k]? = some (.int .u8 (l[k].toNat : Int)) := by simp [bv, h]

/-- The numbers of the types of bytes in a program. -/
structure BT (P : Program) (t e : TypeId) : Prop where
  sl : P.underlying t = some (.slice e)
  el : P.underlying e = some (.int .u8)
  info : (P.info? e).map (fun i => (i.zero, i.size, i.bytes)) = some (some (.int .u8 0), 1, 1)

/-- A slice of bytes reads as l. -/
def RdB (w : World) (B : Nat) (A : Option Addr) (l : List UInt8) : Prop := Reads w B 1 A l.length (bv l)
/-- A slice of bytes, the call's own (from block 'base' on), reads as l. -/
def Own (w : World) (base : Nat) (e : TypeId) (A : Option Addr) (c : Nat) (l : List UInt8) : Prop := w.ownsRow base e 1 (.slice A l.length c) l.length (bv l)
/-- The block of a slice. -/
def blk (A : Option Addr) : Option Nat := A.map (·.block)
theorem ownBlock_slice (A : Option Addr) (n c : Nat) : (Value.slice A n c).ownBlock = blk A := by cases A <;> rfl

section
variable {w w' : World} {B base : Nat} {e : TypeId} {A : Option Addr} {c : Nat} {l : List UInt8}
theorem RdB.below {D : Nat} (h : RdB w B A l) (hb : Below D w w') (hD : B ≤ D) : RdB w' B A l := Reads.below h hb hD
theorem RdB.alloc (h : RdB w B A l) (hB : B ≤ w.heap.size) (o : Obj) : RdB (w.alloc o) B A l := Reads.alloc h hB o
theorem RdB.more {B' : Nat} (h : RdB w B A l) (hB : B ≤ B') : RdB w B' A l := Reads.more h hB
theorem RdB.nil : RdB w B A [] := Reads.none_
theorem RdB.grown (h : RdB w B A l) {row : Option Nat} (hg : w.grownBy w' row) (hB : B ≤ w.heap.size) (hr : ∀ g, row = some g → B ≤ g) : RdB w' B A l := Reads.grown h hg hB hr
theorem RdB.cell (h : RdB w B A l) {k : Nat} (hk : k < l.length) : ∃ ad, A = some ad ∧ ad.block < B ∧ w.cell? (ad.add k) = some (.int .u8 (l[k].toNat : Int)) := by
  obtain ⟨ad, u, h1, h2, h3, h4⟩ := Reads.at_ h hk
  rw [bv_get l k hk] at h3
  injection h3 with h3
  exact ⟨ad, h1, h2, by rw [h4, h3]⟩
theorem RdB.drop (h : RdB w B A l) {k cap : Nat} (hk : k ≤ l.length) (hc : l.length ≤ cap) : RdB w B (if cap = k then A else A.map (·.add k)) (l.drop k) := by
  have := Reads.drop h hk hc
  unfold RdB
  rw [List.length_drop, bv_drop]
  exact this
theorem RdB.take (h : RdB w B A l) {k : Nat} (hk : k ≤ l.length) : RdB w B A (l.take k) := by
  have := Reads.take h hk
  unfold RdB
  rw [List.length_take, bv_take, Nat.min_eq_left hk]
  exact this
theorem Own.rd (h : Own w base e A c l) : RdB w w.heap.size A l := Reads.of_own h
theorem Own.cap (h : Own w base e A c l) : l.length ≤ c := by
  rcases h.2 with ⟨hv, hn⟩ | ⟨g, cap, cur, hv, _, _, hc, _⟩
  · omega
  · injection hv with _ _ h3; omega
theorem Own.kept {row : Option Nat} (h : Own w base e A c l) (hg : w.grownBy w' row) (hne : blk A = none ∨ blk A ≠ row) : Own w' base e A c l :=
  World.ownsRow.kept h hg (by rw [ownBlock_slice]; exact hne)
theorem Own.alloc (h : Own w base e A c l) (o : Obj) : Own (w.alloc o) base e A c l := World.ownsRow.alloc h o
theorem Own.below (h : Own w base e A c l) (hb : Below w.heap.size w w') : Own w' base e A c l :=
  World.ownsRow.kept (row := none) h ⟨hb.os, hb.tape, hb.output, hb.size, fun k hk _ => hb.block k hk⟩ (by cases A <;> simp [Value.ownBlock])
theorem Own.mono {base' : Nat} (h : Own w base e A c l) (hb : base' ≤ base) : Own w base' e A c l := by
  refine ⟨h.1, ?_⟩
  rcases h.2 with h2 | ⟨g, cap, cur, hv, hg, r⟩
  · exact .inl h2
  · exact .inr ⟨g, cap, cur, hv, by omega, r⟩
theorem Own.blk_ge (h : Own w base e A c l) : ∀ g, blk A = some g → base ≤ g ∧ g < w.heap.size := by
  intro g hg
  refine World.ownsRow.lt h g ?_
  cases A with
  | none => simp [blk] at hg
  | some a => simpa [Value.ownBlock, blk] using hg
theorem Own.nil (w : World) (base : Nat) (e : TypeId) : Own w base e none 0 [] := World.ownsRow_nil _ _ _ _
end

section
variable {P : Program} (w : World)
theorem run_append_of_nil (base : Nat) (t ty e : TypeId) (i : TypeInfo) (size : Nat) (ht : P.underlying t = some (.slice e)) (hi : P.info? e = some i)
    (v : Value) (n : Nat) (xs : List Value) (hown : w.ownsRow base e size v n xs) (c : Nat) : (Builtin.append_ #[t, t] ty #[v, .slice none 0 c]).run P w = .ok v w := by
  rcases hown.2 with ⟨rfl, rfl⟩ | ⟨g, cap, cur, rfl, _, _, hnc, _⟩
  · simp [Builtin.append_, run_underlying ht, sizeOf, typeInfo, hi, Builtin.lenOf, Builtin.firstCells]
  · simp [Builtin.append_, run_underlying ht, sizeOf, typeInfo, hi, Builtin.lenOf, Builtin.firstCells, hnc, storeCells]

theorem run_append_any (base : Nat) (t ty e : TypeId) (i : TypeInfo) (z : Value) (size bytes : Nat) (ht : P.underlying t = some (.slice e)) (hi : P.info? e = some i) (hz : i.zero = some z)
    (hsize : i.size = size) (hby : i.bytes = bytes) (hzs : z.cells.size = size) (hsz : 0 < size)
    (v : Value) (n : Nat) (xs : List Value) (hown : w.ownsRow base e size v n xs)
    (B : Nat) (A : Option Addr) (m c : Nat) (news : List Value) (hr : Reads w B size A m news) (h1 : ∀ u ∈ news, u.oneCell' = true)
    (h63 : n + m ≤ maxLen) (hbytes : (n + m) * bytes ≤ 140737488355328) (hbase : base ≤ w.heap.size) :
    ∃ v' w', (Builtin.append_ #[t, t] ty #[v, .slice A m c]).run P w = .ok v' w' ∧ w'.ownsRow base e size v' (n + m) (xs ++ news) ∧ w.grownBy w' v.ownBlock ∧
      (v'.ownBlock = v.ownBlock ∨ v'.ownBlock = some w.heap.size) := by
  rcases A with _ | ad
  · have hm : m = 0 := by
      rcases Nat.eq_zero_or_pos m with h0 | h0
      · exact h0
      · obtain ⟨ad, h, _⟩ := hr.2 h0
        cases h
    subst hm
    have hn : news = [] := List.eq_nil_of_length_eq_zero (by simpa using hr.1)
    subst hn
    exact ⟨v, w, run_append_of_nil w base t ty e i size ht hi v n xs hown c, by simpa using hown, ⟨rfl, rfl, rfl, Nat.le_refl _, fun _ _ _ => rfl⟩, .inl rfl⟩
  · have hcells : ∀ j u, news[j]? = some u → w.cell? (ad.add j) = some u := by
      intro j u hu
      rcases Nat.eq_zero_or_pos m with h0 | h0
      · subst h0
        have hn : news = [] := List.eq_nil_of_length_eq_zero (by simpa using hr.1)
        subst hn
        simp at hu
      · obtain ⟨ad', h, _, hc⟩ := hr.2 h0
        injection h with h
        subst h
        exact hc j u hu
    obtain ⟨v', w', hrun, h2, h3, _, h5⟩ := run_append_own_at (P := P) w base t ty e i z size bytes ht hi hz hsize hby hzs hsz v n xs hown ad m c news hr.1 hcells h1 h63 hbytes hbase
    exact ⟨v', w', hrun, h2, h3, h5⟩

/-- append of bytes onto bytes of the call's own. -/
theorem run_append_b {t e : TypeId} (T : BT P t e) (ty : TypeId) (base : Nat) (A : Option Addr) (c : Nat) (l : List UInt8) (hown : Own w base e A c l)
    (B : Nat) (A2 : Option Addr) (m c2 : Nat) (l2 : List UInt8) (hm : m = l2.length) (hr : RdB w B A2 l2) (hlen : l.length + l2.length ≤ 140737488355328) (hbase : base ≤ w.heap.size) :
    ∃ A' c' w', (Builtin.append_ #[t, t] ty #[.slice A l.length c, .slice A2 m c2]).run P w = .ok (.slice A' (l ++ l2).length c') w' ∧ Own w' base e A' c' (l ++ l2) ∧ w.grownBy w' (blk A) ∧
      (blk A' = blk A ∨ blk A' = some w.heap.size) := by
  subst hm
  obtain ⟨i, hi, hz0, hz1, hz2⟩ := info_parts T.info
  obtain ⟨v', w', hrun, h2, h3, h4⟩ := run_append_any (P := P) w base t ty e i _ 1 1 T.sl hi hz0 hz1 hz2 rfl (by omega) (.slice A l.length c) l.length (bv l) hown B A2 l2.length c2 (bv l2) hr (bv_one l2)
    (by unfold maxLen; omega) (by omega) hbase
  rw [ownBlock_slice] at h3 h4
  have hv : ∃ A' c', v' = .slice A' (l ++ l2).length c' := by
    rw [List.length_append]
    rcases h2.2 with ⟨hv, hn⟩ | ⟨g, cap, cur, hv, _⟩
    · exact ⟨none, 0, by rw [hv, hn]⟩
    · exact ⟨_, _, hv⟩
  obtain ⟨A', c', rfl⟩ := hv
  rw [ownBlock_slice] at h4
  refine ⟨A', c', w', hrun, ?_, h3, h4⟩
  unfold Own
  rw [bv_append]
  rw [List.length_append] at h2 ⊢
  exact h2

theorem wp_append_b {o : Oper} {a : Act} {K : Act → World → Prop} {Q : Exit → Act → World → Prop} (s x : Operand) {t e : TypeId} (T : BT P t e)
    (ho : o.op = .call { callee := .builtin .append, args := #[s, x], argTypes := #[t, t] })
    (base : Nat) (A : Option Addr) (c : Nat) (l : List UInt8) (hs : a.eval s = .slice A l.length c) (hown : Own w base e A c l)
    (B : Nat) (A2 : Option Addr) (m c2 : Nat) (l2 : List UInt8) (hx : a.eval x = .slice A2 m c2) (hm : m = l2.length) (hr : RdB w B A2 l2) (hlen : l.length + l2.length ≤ 140737488355328) (hbase : base ≤ w.heap.size)
    (h : ∀ A' c' L w', L = l ++ l2 → Own w' base e A' c' L → w.grownBy w' (blk A) → (blk A' = blk A ∨ blk A' = some w.heap.size) → K (a.put o.dst (.slice A' L.length c')) w') : o.wp P a w K Q := by
  obtain ⟨A', c', w', hrun, h2, h3, h4⟩ := run_append_b (P := P) w T o.type base A c l hown B A2 m c2 l2 hm hr hlen hbase
  unfold Oper.wp execOp
  simp only [ho, resolve, invoke, builtin, Sem.run_bind, Sem.run_pure, Result.andThen_ok, List.map_toArray, List.map_cons, List.map_nil, hs, hx, hrun]
  exact h A' c' _ w' rfl h2 h3 h4

/-- .. at the list of a plain region's operations. -/
theorem wpList_append_b {ops : Array Oper} {rest : List Oper} {o : Oper} {a : Act} {Q : Exit → Act → World → Prop} (hgd : o.guard = none) (s x : Operand) {t e : TypeId} (T : BT P t e)
    (ho : o.op = .call { callee := .builtin .append, args := #[s, x], argTypes := #[t, t] })
    (base : Nat) (A : Option Addr) (c : Nat) (l : List UInt8) (hs : a.eval s = .slice A l.length c) (hown : Own w base e A c l)
    (B : Nat) (A2 : Option Addr) (m c2 : Nat) (l2 : List UInt8) (hx : a.eval x = .slice A2 m c2) (hm : m = l2.length) (hr : RdB w B A2 l2) (hlen : l.length + l2.length ≤ 140737488355328) (hbase : base ≤ w.heap.size)
    (h : ∀ A' c' L w', L = l ++ l2 → Own w' base e A' c' L → w.grownBy w' (blk A) → (blk A' = blk A ∨ blk A' = some w.heap.size) → wpList P ops Q rest (a.put o.dst (.slice A' L.length c')) w') : wpList P ops Q (o :: rest) a w :=
  wpList_plain hgd fun _ hK => wp_append_b w s x T ho base A c l hs hown B A2 m c2 l2 hx hm hr hlen hbase fun A' c' L w' h1 h2 h3 h4 => hK _ _ (h A' c' L w' h1 h2 h3 h4)

/-- .. at a step of a region that draws its order. -/
theorem step_append_b {ops : Array Oper} {o : Oper} {a : Act} {K : Act → World → Prop} {Q : Exit → Act → World → Prop} {E : Prop} (hgd : o.guard = none) (s x : Operand) {t e : TypeId} (T : BT P t e)
    (ho : o.op = .call { callee := .builtin .append, args := #[s, x], argTypes := #[t, t] })
    (base : Nat) (A : Option Addr) (c : Nat) (l : List UInt8) (hs : a.eval s = .slice A l.length c) (hown : Own w base e A c l)
    (B : Nat) (A2 : Option Addr) (m c2 : Nat) (l2 : List UInt8) (hx : a.eval x = .slice A2 m c2) (hm : m = l2.length) (hr : RdB w B A2 l2) (hlen : l.length + l2.length ≤ 140737488355328) (hbase : base ≤ w.heap.size)
    (h : ∀ A' c' L w', L = l ++ l2 → Own w' base e A' c' L → w.grownBy w' (blk A) → (blk A' = blk A ∨ blk A' = some w.heap.size) → K (a.put o.dst (.slice A' L.length c')) w') :
    if Region.wanted o (yielded ops a.tmps) = true then Oper.wp P o a w K Q else E := by
  have hw : Region.wanted o (yielded ops a.tmps) = true := by simp [Region.wanted, hgd]
  rw [if_pos hw]
  exact wp_append_b w s x T ho base A c l hs hown B A2 m c2 l2 hx hm hr hlen hbase h

/-- One byte in a block of its own. -/
theorem rdB_one {w : World} {g : Nat} {x : Int} {b : UInt8} (h : w.cell? ⟨g, 0, none⟩ = some (.int .u8 x)) (hb : (b.toNat : Int) = x) (hg : g < w.heap.size) : RdB w w.heap.size (some ⟨g, 0, none⟩) [b] := by
  refine ⟨by simp [bv], fun _ => ⟨_, rfl, hg, fun j u hu => ?_⟩⟩
  match j, hu with
  | 0, hu => simp [bv] at hu; subst hu; rw [hb]; simpa [Addr.add] using h
/-- A byte out of a number. -/
theorem byte_of {x : Int} (h0 : 0 ≤ x) (h1 : x < 256) : ((UInt8.ofNat x.toNat).toNat : Int) = x := by
  rw [UInt8.toNat_ofNat']; omega

/-- string(b) -/
theorem foldl_push (l : List UInt8) : ∀ (s : ByteArray), (l.map fun b => (b.toNat : Int)).foldl (fun r n => r.push (UInt8.ofNat n.toNat)) s = ⟨s.data ++ l.toArray⟩ := by
  induction l with
  | nil => intro s; simp
  | cons b l ih =>
    intro s
    rw [List.map_cons, List.foldl_cons, ih]
    have : (UInt8.ofNat (b.toNat : Int).toNat) = b := by simp
    rw [this]
    show ByteArray.mk ((s.push b).data ++ l.toArray) = _
    rw [ByteArray.push]
    simp
theorem run_string_b {t e st : TypeId} (T : BT P t e) (hst : P.underlying st = some .string) (B : Nat) (A : Option Addr) (n c : Nat) (l : List UInt8) (hn : n = l.length) (h : RdB w B A l) :
    (convert t st (.slice A n c)).run P w = .ok (.string ⟨l.toArray⟩) w := by
  subst hn
  rw [run_convert_bytes_string w t st e A l.length c T.sl T.el hst]
  rcases A with _ | ad
  · have hl : l = [] := by
      cases l with
      | nil => rfl
      | cons b l => obtain ⟨ad, h, _⟩ := h.2 (by simp); cases h
    subst hl
    simp [Conv.bytesToString, Sem.run_pure]
    rfl
  · have hc : ∀ j v, (bv l)[j]? = some v → w.cell? (ad.add j) = some v := by
      intro j v hv
      have hj : j < (bv l).length := by
        rcases Nat.lt_or_ge j (bv l).length with h | h
        · exact h
        · rw [List.getElem?_eq_none h] at hv; cases hv
      obtain ⟨ad', h1, _, h2⟩ := h.2 (by rw [bv_length] at hj; omega)
      injection h1 with h1; subst h1
      exact h2 j v hv
    have hl := run_loadCells_list (P := P) (w := w) ad (bv l) hc
    rw [bv_length] at hl
    have e1 : bv l = (l.map fun b => (b.toNat : Int)).map (Value.int .u8) := by simp [bv]
    rw [e1] at hl
    rw [run_bytesToString w ad l.length c _ hl, foldl_push]
    have e2 : (ByteArray.empty.data ++ l.toArray) = l.toArray := by show #[] ++ l.toArray = _; simp
    rw [e2]
end
/-- What a law's walk is told of a slice of integers that came in (the guide's frame): nil, or a row of cells. -/
def IsRow (k : IntKind) (w : World) (a : Option Addr) (len cap : Nat) (zs : List Int) : Prop :=
  (a = none ∧ len = 0 ∧ cap = 0 ∧ zs = []) ∨
  ∃ x, a = some x ∧ len ≤ cap ∧ cap ≤ maxLen ∧ zs.length = cap ∧ (∀ i, i < zs.length → w.cell? (x.add i) = some (.int k (zs.getD i 0))) ∧ ∀ n ∈ zs, (Lit.int k n).wf = true
theorem IsRow.bytes {w : World} {a : Option Addr} {len cap : Nat} {zs : List Int} (h : IsRow .u8 w a len cap zs) : ∃ l : List UInt8, len = l.length ∧ l.length ≤ cap ∧ cap ≤ 9223372036854775807 ∧ RdB w w.heap.size a l := by
  rcases h with ⟨rfl, rfl, rfl, rfl⟩ | ⟨x, rfl, hl, hm, hz, hc, hw⟩
  · exact ⟨[], rfl, by simp, by omega, RdB.nil⟩
  · refine ⟨(zs.take len).map fun z => UInt8.ofNat z.toNat, by simp; omega, by simp; omega, by simpa [maxLen] using hm, ?_⟩
    refine ⟨by simp [bv], fun hn => ⟨x, rfl, ?_, fun j u hu => ?_⟩⟩
    · simp at hn
      have := hc 0 (by omega)
      have hb := World.block_lt_of_cell? w _ this
      rwa [block_of_add] at hb
    · simp only [bv, List.map_map] at hu
      have hj : j < len ∧ j < zs.length := by
        rcases Nat.lt_or_ge j ((zs.take len).length) with h | h
        · simp at h; omega
        · rw [List.getElem?_eq_none (by simpa using h)] at hu; cases hu
      rw [List.getElem?_map, List.getElem?_take, if_pos hj.1, List.getElem?_eq_getElem hj.2] at hu
      simp only [Option.map_some, Function.comp] at hu
      injection hu with hu
      rw [hc j hj.2, ← hu]
      have hwf := hw zs[j] (List.getElem_mem _)
      have hbd : 0 ≤ zs[j] ∧ zs[j] < 256 := by
        have := Go.bounds_u8 hwf
        omega
      have e : zs.getD j 0 = zs[j] := by simp [hj.2]
      rw [e, byte_of hbd.1 hbd.2]
theorem below_grow {B : Nat} {w w1 w2 : World} {row : Option Nat} (h : Below B w w1) (hg : w1.grownBy w2 row) (hr : ∀ g, row = some g → B ≤ g) (hB : B ≤ w1.heap.size) : Below B w w2 := h.grown hg hB hr

#print axioms wpList_append_b
#print axioms run_string_b
end Go.Proofs.YtlmejpkngnilcaaGreatDoor

namespace Go.Proofs.YtlmejpkngnilcaaGreatDoor
open Go.RowKit

/-- Block g is just the bytes l, none frozen. -/
def BlkB (w : World) (g : Nat) (e : TypeId) (l : List UInt8) : Prop := w.heap[g]? = some (.cells (bv l).toArray e (0, 0))
section
variable {w w' : World} {g : Nat} {e : TypeId} {l : List UInt8}
theorem BlkB.lt (h : BlkB w g e l) : g < w.heap.size := by
  rcases Nat.lt_or_ge g w.heap.size with hlt | hge
  · exact hlt
  · unfold BlkB at h; rw [Array.getElem?_eq_none hge] at h; cases h
theorem BlkB.own (h : BlkB w g e l) {base : Nat} (hb : base ≤ g) (hl : l.length ≤ 9223372036854775807) : Own w base e (some ⟨g, 0, none⟩) l.length l := by
  refine ⟨by rw [bv_length]; omega, .inr ⟨g, l.length, (bv l).toArray, rfl, hb, h, Nat.le_refl _, by unfold maxLen; omega, by simp [bv_length], ?_⟩⟩
  simp only [Nat.mul_one]
  exact List.take_of_length_le (by rw [bv_length]; exact Nat.le_refl _)
/-- The first n bytes of the block. -/
theorem BlkB.own_take (h : BlkB w g e l) {base n : Nat} (hb : base ≤ g) (hn : n ≤ l.length) (hl : l.length ≤ 9223372036854775807) : Own w base e (some ⟨g, 0, none⟩) l.length (l.take n) := by
  refine ⟨by rw [bv_length]; omega, .inr ⟨g, l.length, (bv l).toArray, by rw [List.length_take, Nat.min_eq_left hn], hb, h, by rw [List.length_take]; omega, by unfold maxLen; omega, by simp [bv_length], ?_⟩⟩
  simp only [Nat.mul_one, List.length_take, Nat.min_eq_left hn]
  rw [bv_take]
theorem BlkB.rd (h : BlkB w g e l) : RdB w w.heap.size (some ⟨g, 0, none⟩) l := by
  refine ⟨by simp [bv], fun _ => ⟨_, rfl, h.lt, fun j u hu => ?_⟩⟩
  have hadd : (⟨g, 0, none⟩ : Addr).add j = ⟨g, j, none⟩ := by unfold Addr.add; split <;> simp_all
  rw [hadd, cell_of_row w g j _ e (0, 0) h]
  simpa using hu
theorem BlkB.cell (h : BlkB w g e l) {j : Nat} (hj : j < l.length) : w.cell? ⟨g, j, none⟩ = some (.int .u8 (l[j].toNat : Int)) := by
  rw [cell_of_row w g j _ e (0, 0) h]
  simp [bv, hj]
theorem BlkB.free (h : BlkB w g e l) (j : Nat) : w.frozen? ⟨g, j, none⟩ = false := frozen_of_row w g j _ e h
theorem BlkB.keep (h : BlkB w g e l) (hb : w'.heap[g]? = w.heap[g]?) : BlkB w' g e l := hb.trans h
theorem BlkB.below (h : BlkB w g e l) {D : Nat} (hb : Below D w w') (hD : g < D) : BlkB w' g e l := h.keep (hb.block g hD)
theorem BlkB.alloc (h : BlkB w g e l) (o : Obj) : BlkB (w.alloc o) g e l := h.keep (Below.heap_alloc w o g h.lt)
end
/-- A block out of a row that fills its capacity. -/
theorem blkB_of_full {w : World} {base : Nat} {e : TypeId} {g : Nat} {l : List UInt8} (h : Own w base e (some ⟨g, 0, none⟩) l.length l) : BlkB w g e l := by
  rcases h.2 with ⟨h', _⟩ | ⟨g', cap, cur, h', _, hg, _, _, hcs, htake⟩
  · simp at h'
  · simp only [Value.slice.injEq, Option.some.injEq, Addr.mk.injEq, and_true, true_and] at h'
    obtain ⟨rfl, rfl⟩ := h'
    have e1 : cur.toList = bv l := by
      rw [← htake]
      refine (List.take_of_length_le ?_).symm
      rw [Array.length_toList, hcs]; omega
    unfold BlkB
    rw [hg]
    have : cur = (bv l).toArray := by rw [← e1]
    rw [this]
theorem below_of_grown {w w' : World} {row : Option Nat} {B : Nat} (h : w.grownBy w' row) (hB : B ≤ w.heap.size) (hr : ∀ k, row = some k → B ≤ k) : Below B w w' := (Below.refl B w).grown h hB hr

section
variable {P : Program} (w : World)
/-- make([]byte, n) -/
theorem wpList_make_b {ops : Array Oper} {rest : List Oper} {o : Oper} {a : Act} {Q : Exit → Act → World → Prop} (hg : o.guard = none) (ol oc : Operand) {t e : TypeId} (T : BT P t e) (hop : o.op = Op.makeSlice t ol oc)
    (kl kc : IntKind) (L C : Int) (n : Nat) (hl : a.eval ol = .int kl L) (hc : a.eval oc = .int kc C) (hL : L = (n : Int)) (hC : C = (n : Int)) (hn : n ≤ 281474976710656)
    (hK : ∀ w' Z, Z = List.replicate n (0 : UInt8) → BlkB w' w.heap.size e Z → Below w.heap.size w w' → w.heap.size < w'.heap.size → wpList P ops Q rest (a.put o.dst (.slice (some ⟨w.heap.size, 0, none⟩) n n)) w') :
    wpList P ops Q (o :: rest) a w := by
  obtain ⟨i, hi, hz0, hz1, hz2⟩ := info_parts T.info
  refine wpList_make_full w hg ol oc t hop w.heap.size e i _ 1 T.sl hi hz0 hz1 kl kc L C n hl hc hL hC (by rw [hz2]; omega) (by unfold maxLen; omega) (Nat.le_refl _) ?_
  intro w' hown hgr
  have ez : (madeCells (Value.int IntKind.u8 0).cells (n * 1)).toList = bv (List.replicate n (0 : UInt8)) := by
    have e0 : (Value.int IntKind.u8 0).cells = #[Value.int IntKind.u8 0] := rfl
    rw [e0, toList_madeCells_one, Nat.mul_one]
    simp [bv]
  rw [ez] at hown
  have hown' : Own w' w.heap.size e (some ⟨w.heap.size, 0, none⟩) (List.replicate n (0 : UInt8)).length (List.replicate n (0 : UInt8)) := by
    unfold Own
    rw [List.length_replicate]
    exact hown
  have hb := blkB_of_full hown'
  exact hK w' _ rfl hb (below_of_grown hgr (Nat.le_refl _) (fun k hk => by cases hk)) hb.lt

theorem bv_splice (l m : List UInt8) (k : Nat) : bv (splice l k m) = splice (bv l) k (bv m) := by simp [splice, bv]
theorem splice_length (l m : List UInt8) (k : Nat) (h : k + m.length ≤ l.length) : (splice l k m).length = l.length := length_splice l k m h

theorem grownBy_refl (w : World) (row : Option Nat) : w.grownBy w row := ⟨rfl, rfl, rfl, Nat.le_refl _, fun _ _ _ => rfl⟩
theorem grownBy_setRow (w : World) (g : Nat) (cs : Array Value) : w.grownBy (w.setRow g cs) (some g) := ⟨rfl, rfl, rfl, by simp [World.setRow], fun k _ hk => setRow_other w g k cs (fun e => hk (by rw [e]))⟩
/-- copy of bytes into a block that is known whole. -/
theorem wp_copy_b {o : Oper} {a : Act} {K : Act → World → Prop} {Q : Exit → Act → World → Prop} (d s : Operand) {t e : TypeId} (T : BT P t e)
    (ho : o.op = .call { callee := .builtin .copy, args := #[d, s], argTypes := #[t, t] })
    (dp sp : Option Addr) (dLen dCap sLen sCap : Nat) (hd : a.eval d = .slice dp dLen dCap) (hs : a.eval s = .slice sp sLen sCap)
    (g off : Nat) (cur : List UInt8) (hg : BlkB w g e cur) (B : Nat) (l2 : List UInt8) (hn : sLen = l2.length) (hfit2 : l2.length ≤ dLen) (hdp : 0 < l2.length → dp = some ⟨g, off, none⟩) (hsp : RdB w B sp l2)
    (hfit : off + l2.length ≤ cur.length)
    (h : ∀ w' L, L = splice cur off l2 → BlkB w' g e L → w.grownBy w' (some g) → K (a.put o.dst (.int .i64 (l2.length : Int))) w') : o.wp P a w K Q := by
  obtain ⟨i, hi, hz0, hz1, hz2⟩ := info_parts T.info
  have hsz : (P.info? e).map (·.size) = some 1 := by rw [hi, Option.map_some, hz1]
  have hmin : (bv l2).length = Nat.min sLen dLen := by rw [bv_length, hn]; exact (Nat.min_eq_left hfit2).symm
  by_cases h0 : l2.length = 0
  · obtain rfl : l2 = [] := List.eq_nil_of_length_eq_zero h0
    have hrun := run_copy_none (P := P) w t t o.type e dp sp dLen dCap sLen sCap T.sl hsz (by rw [← hmin]; rfl)
    unfold Oper.wp
    simp [execOp, ho, resolve, invoke, builtin, hd, hs, hrun, Result.andThen]
    exact h w _ rfl (by simpa [splice] using hg) (grownBy_refl _ _)
  · obtain ⟨ad, rfl, _, hsrc⟩ := hsp.2 (by omega)
    have hdp' := hdp (by omega)
    subst hdp'
    have hrun := run_copy_row (P := P) w t t o.type e g off dLen dCap ad sLen sCap (bv cur).toArray e (bv l2) T.sl hsz hg hmin hsrc (by simpa [bv_length] using hfit) (bv_one l2)
    unfold Oper.wp
    simp [execOp, ho, resolve, invoke, builtin, hd, hs, hrun, Result.andThen]
    rw [bv_length]
    refine h _ _ rfl ?_ (grownBy_setRow _ _ _)
    unfold BlkB
    rw [bv_splice]
    simpa [splice, bv_length] using setRow_heap w g (bv cur).toArray (splice (bv cur) off (bv l2)).toArray e (0, 0) hg
theorem wpList_copy_b {ops : Array Oper} {rest : List Oper} {o : Oper} {a : Act} {Q : Exit → Act → World → Prop} (hgd : o.guard = none) (d s : Operand) {t e : TypeId} (T : BT P t e)
    (ho : o.op = .call { callee := .builtin .copy, args := #[d, s], argTypes := #[t, t] })
    (dp sp : Option Addr) (dLen dCap sLen sCap : Nat) (hd : a.eval d = .slice dp dLen dCap) (hs : a.eval s = .slice sp sLen sCap)
    (g off : Nat) (cur : List UInt8) (hg : BlkB w g e cur) (B : Nat) (l2 : List UInt8) (hn : sLen = l2.length) (hfit2 : l2.length ≤ dLen) (hdp : 0 < l2.length → dp = some ⟨g, off, none⟩) (hsp : RdB w B sp l2)
    (hfit : off + l2.length ≤ cur.length)
    (h : ∀ w' L, L = splice cur off l2 → BlkB w' g e L → w.grownBy w' (some g) → wpList P ops Q rest (a.put o.dst (.int .i64 (l2.length : Int))) w') : wpList P ops Q (o :: rest) a w :=
  wpList_plain hgd fun _ hK => wp_copy_b w d s T ho dp sp dLen dCap sLen sCap hd hs g off cur hg B l2 hn hfit2 hdp hsp hfit fun w' L h1 h2 h3 => hK _ _ (h w' L h1 h2 h3)
/-- A guard: the walk stands at a copy. -/
theorem at_copy {P : Program} {ops : Array Oper} {rest : List Oper} {Q : Exit → Act → World → Prop} {a : Act} {w : World} {dst ty pos aft gd args ats}
    (h : wpList P ops Q (⟨dst, .call { callee := .builtin .copy, args := args, argTypes := ats }, ty, pos, aft, gd⟩ :: rest) a w) : wpList P ops Q (⟨dst, .call { callee := .builtin .copy, args := args, argTypes := ats }, ty, pos, aft, gd⟩ :: rest) a w := h
/-- .. at a step of a region that draws its order. -/
theorem step_copy_b {ops : Array Oper} {o : Oper} {a : Act} {K : Act → World → Prop} {Q : Exit → Act → World → Prop} {E : Prop} (hgd : o.guard = none) (d s : Operand) {t e : TypeId} (T : BT P t e)
    (ho : o.op = .call { callee := .builtin .copy, args := #[d, s], argTypes := #[t, t] })
    (dp sp : Option Addr) (dLen dCap sLen sCap : Nat) (hd : a.eval d = .slice dp dLen dCap) (hs : a.eval s = .slice sp sLen sCap)
    (g off : Nat) (cur : List UInt8) (hg : BlkB w g e cur) (B : Nat) (l2 : List UInt8) (hn : sLen = l2.length) (hfit2 : l2.length ≤ dLen) (hdp : 0 < l2.length → dp = some ⟨g, off, none⟩) (hsp : RdB w B sp l2)
    (hfit : off + l2.length ≤ cur.length)
    (h : ∀ w' L, L = splice cur off l2 → BlkB w' g e L → w.grownBy w' (some g) → K (a.put o.dst (.int .i64 (l2.length : Int))) w') :
    if Region.wanted o (yielded ops a.tmps) = true then Oper.wp P o a w K Q else E := by
  have hw : Region.wanted o (yielded ops a.tmps) = true := by simp [Region.wanted, hgd]
  rw [if_pos hw]
  exact wp_copy_b w d s T ho dp sp dLen dCap sLen sCap hd hs g off cur hg B l2 hn hfit2 hdp hsp hfit h
end
end Go.Proofs.YtlmejpkngnilcaaGreatDoor

namespace Go.Proofs.YtlmejpkngnilcaaGreatDoor
open Go.RowKit

theorem str_ne {l m : List UInt8} {X Y : ByteArray} (hX : (⟨l.toArray⟩ : ByteArray) = X) (hY : (⟨m.toArray⟩ : ByteArray) = Y) (h : l ≠ m) : (X.toList == Y.toList) = false := by
  subst hX hY
  rw [ByteArray.toList_eq, ByteArray.toList_eq]
  simpa using h
end Go.Proofs.YtlmejpkngnilcaaGreatDoor
