/- Blocks of bytes that are known whole: make, copy. Over any program. -/
import Derived.Test.YtfifbcniilaehaaDoorByt
import Derived.Laws.CopyOwn
import Derived.Deep.RegionLaw
namespace Go.Proofs.YtfifbcniilaehaaDoor
open Go.RowKit

/-- Block g is just the bytes l, none frozen. -/
def BlkB (w : World) (g : Nat) (e : TypeId) (l : List UInt8) : Prop := w.heap[g]? = some (.cells (bv l).toArray e (0, 0))
section
variable {w w' : World} {g : Nat} {e : TypeId} {l : List UInt8}
theorem BlkB.lt (h : BlkB w g e l) : g < w.heap.size := by
  rcases Nat.lt_or_ge g w.heap.size with hlt | hge
  · exact hlt
  · unfold BlkB at h; rw [Array.getElem?_eq_none hge] at h; cases h
theorem BlkB.own (h : BlkB w g e l) {base : Nat} (hb : base ≤ g) (hl : l.length ≤ 9223372036854775807) : Own w base e (some ⟨g, 0, none⟩) l.length l := by
  refine ⟨by rw [bv_length]; omega, .inr ⟨g, l.length, (bv l).toArray, rfl, hb, h, Nat.le_refl _, by unfold maxLen; omega, by simp [bv_length], ?_⟩⟩
  simp only [Nat.mul_one]
  exact List.take_of_length_le (by rw [bv_length]; exact Nat.le_refl _)
/-- The first n bytes of the block. -/
theorem BlkB.own_take (h : BlkB w g e l) {base n : Nat} (hb : base ≤ g) (hn : n ≤ l.length) (hl : l.length ≤ 9223372036854775807) : Own w base e (some ⟨g, 0, none⟩) l.length (l.take n) := by
  refine ⟨by rw [bv_length]; omega, .inr ⟨g, l.length, (bv l).toArray, by rw [List.length_take, Nat.min_eq_left hn], hb, h, by rw [List.length_take]; omega, by unfold maxLen; omega, by simp [bv_length], ?_⟩⟩
  simp only [Nat.mul_one, List.length_take, Nat.min_eq_left hn]
  rw [bv_take]
theorem BlkB.rd (h : BlkB w g e l) : RdB w w.heap.size (some ⟨g, 0, none⟩) l := by
  refine ⟨by simp [bv], fun _ => ⟨_, rfl, h.lt, fun j u hu => ?_⟩⟩
  have hadd : (⟨g, 0, none⟩ : Addr).add j = ⟨g, j, none⟩ := by unfold Addr.add; split <;> simp_all
  rw [hadd, cell_of_row w g j _ e (0, 0) h]
  simpa using hu
theorem BlkB.cell (h : BlkB w g e l) {j : Nat} (hj : j < l.length) : w.cell? ⟨g, j, none⟩ = some (.int .u8 (l[j].toNat : Int)) := by
  rw [cell_of_row w g j _ e (0, 0) h]
  simp [bv, hj]
theorem BlkB.free (h : BlkB w g e l) (j : Nat) : w.frozen? ⟨g, j, none⟩ = false := frozen_of_row w g j _ e h
theorem BlkB.keep (h : BlkB w g e l) (hb : w'.heap[g]? = w.heap[g]?) : BlkB w' g e l := hb.trans h
theorem BlkB.below (h : BlkB w g e l) {D : Nat} (hb : Below D w w') (hD : g < D) : BlkB w' g e l := h.keep (hb.block g hD)
theorem BlkB.alloc (h : BlkB w g e l) (o : Obj) : BlkB (w.alloc o) g e l := h.keep (Below.heap_alloc w o g h.lt)
end
/-- A block out of a row that fills its capacity. -/
theorem blkB_of_full {w : World} {base : Nat} {e : TypeId} {g : Nat} {l : List UInt8} (h : Own w base e (some ⟨g, 0, none⟩) l.length l) : BlkB w g e l := by
  rcases h.2 with ⟨h', _⟩ | ⟨g', cap, cur, h', _, hg, _, _, hcs, htake⟩
  · simp at h'
  · simp only [Value.slice.injEq, Option.some.injEq, Addr.mk.injEq, and_true, true_and] at h'
    obtain ⟨rfl, rfl⟩ := h'
    have e1 : cur.toList = bv l := by
      rw [← htake]
      refine (List.take_of_length_le ?_).symm
      rw [Array.length_toList, hcs]; omega
    unfold BlkB
    rw [hg]
    have : cur = (bv l).toArray := by rw [← e1]
    rw [this]
theorem below_of_grown {w w' : World} {row : Option Nat} {B : Nat} (h : w.grownBy w' row) (hB : B ≤ w.heap.size) (hr : ∀ k, row = some k → B ≤ k) : Below B w w' := (Below.refl B w).grown h hB hr

section
variable {P : Program} (w : World)
/-- make([]byte, n) -/
theorem wpList_make_b {ops : Array Oper} {rest : List Oper} {o : Oper} {a : Act} {Q : Exit → Act → World → Prop} (hg : o.guard = none) (ol oc : Operand) {t e : TypeId} (T : BT P t e) (hop : o.op = Op.makeSlice t ol oc)
    (kl kc : IntKind) (L C : Int) (n : Nat) (hl : a.eval ol = .int kl L) (hc : a.eval oc = .int kc C) (hL : L = (n : Int)) (hC : C = (n : Int)) (hn : n ≤ 281474976710656)
    (hK : ∀ w' Z, Z = List.replicate n (0 : UInt8) → BlkB w' w.heap.size e Z → Below w.heap.size w w' → w.heap.size < w'.heap.size → wpList P ops Q rest (a.put o.dst (.slice (some ⟨w.heap.size, 0, none⟩) n n)) w') :
    wpList P ops Q (o :: rest) a w := by
  obtain ⟨i, hi, hz0, hz1, hz2⟩ := info_parts T.info
  refine wpList_make_full w hg ol oc t hop w.heap.size e i _ 1 T.sl hi hz0 hz1 kl kc L C n hl hc hL hC (by rw [hz2]; omega) (by unfold maxLen; omega) (Nat.le_refl _) ?_
  intro w' hown hgr
  have ez : (madeCells (Value.int IntKind.u8 0).cells (n * 1)).toList = bv (List.replicate n (0 : UInt8)) := by
    have e0 : (Value.int IntKind.u8 0).cells = #[Value.int IntKind.u8 0] := rfl
    rw [e0, toList_madeCells_one, Nat.mul_one]
    simp [bv]
  rw [ez] at hown
  have hown' : Own w' w.heap.size e (some ⟨w.heap.size, 0, none⟩) (List.replicate n (0 : UInt8)).length (List.replicate n (0 : UInt8)) := by
    unfold Own
    rw [List.length_replicate]
    exact hown
  have hb := blkB_of_full hown'
  exact hK w' _ rfl hb (below_of_grown hgr (Nat.le_refl _) (fun k hk => by cases hk)) hb.lt

theorem bv_splice (l m : List UInt8) (k : Nat) : bv (splice l k m) = splice (bv l) k (bv m) := by simp [splice, bv]
theorem splice_length (l m : List UInt8) (k : Nat) (h : k + m.length ≤ l.length) : (splice l k m).length = l.length := length_splice l k m h

theorem grownBy_refl (w : World) (row : Option Nat) : w.grownBy w row := ⟨rfl, rfl, rfl, Nat.le_refl _, fun _ _ _ => rfl⟩
theorem grownBy_setRow (w : World) (g : Nat) (cs : Array Value) : w.grownBy (w.setRow g cs) (some g) := ⟨rfl, rfl, rfl, by simp [World.setRow], fun k _ hk => setRow_other w g k cs (fun e => hk (by rw [e]))⟩
/-- copy of bytes into a block that is known whole. -/
theorem wp_copy_b {o : Oper} {a : Act} {K : Act → World → Prop} {Q : Exit → Act → World → Prop} (d s : Operand) {t e : TypeId} (T : BT P t e)
    (ho : o.op = .call { callee := .builtin .copy, args := #[d, s], argTypes := #[t, t] })
    (dp sp : Option Addr) (dLen dCap sLen sCap : Nat) (hd : a.eval d = .slice dp dLen dCap) (hs : a.eval s = .slice sp sLen sCap)
    (g off : Nat) (cur : List UInt8) (hg : BlkB w g e cur) (B : Nat) (l2 : List UInt8) (hn : sLen = l2.length) (hfit2 : l2.length ≤ dLen) (hdp : 0 < l2.length → dp = some ⟨g, off, none⟩) (hsp : RdB w B sp l2)
    (hfit : off + l2.length ≤ cur.length)
    (h : ∀ w' L, L = splice cur off l2 → BlkB w' g e L → w.grownBy w' (some g) → K (a.put o.dst (.int .i64 (l2.length : Int))) w') : o.wp P a w K Q := by
  obtain ⟨i, hi, hz0, hz1, hz2⟩ := info_parts T.info
  have hsz : (P.info? e).map (·.size) = some 1 := by rw [hi, Option.map_some, hz1]
  have hmin : (bv l2).length = Nat.min sLen dLen := by rw [bv_length, hn]; exact (Nat.min_eq_left hfit2).symm
  by_cases h0 : l2.length = 0
  · obtain rfl : l2 = [] := List.eq_nil_of_length_eq_zero h0
    have hrun := run_copy_none (P := P) w t t o.type e dp sp dLen dCap sLen sCap T.sl hsz (by rw [← hmin]; rfl)
    unfold Oper.wp
    simp [execOp, ho, resolve, invoke, builtin, hd, hs, hrun, Result.andThen]
    exact h w _ rfl (by simpa [splice] using hg) (grownBy_refl _ _)
  · obtain ⟨ad, rfl, _, hsrc⟩ := hsp.2 (by omega)
    have hdp' := hdp (by omega)
    subst hdp'
    have hrun := run_copy_row (P := P) w t t o.type e g off dLen dCap ad sLen sCap (bv cur).toArray e (bv l2) T.sl hsz hg hmin hsrc (by simpa [bv_length] using hfit) (bv_one l2)
    unfold Oper.wp
    simp [execOp, ho, resolve, invoke, builtin, hd, hs, hrun, Result.andThen]
    rw [bv_length]
    refine h _ _ rfl ?_ (grownBy_setRow _ _ _)
    unfold BlkB
    rw [bv_splice]
    simpa [splice, bv_length] using setRow_heap w g (bv cur).toArray (splice (bv cur) off (bv l2)).toArray e (0, 0) hg
theorem wpList_copy_b {ops : Array Oper} {rest : List Oper} {o : Oper} {a : Act} {Q : Exit → Act → World → Prop} (hgd : o.guard = none) (d s : Operand) {t e : TypeId} (T : BT P t e)
    (ho : o.op = .call { callee := .builtin .copy, args := #[d, s], argTypes := #[t, t] })
    (dp sp : Option Addr) (dLen dCap sLen sCap : Nat) (hd : a.eval d = .slice dp dLen dCap) (hs : a.eval s = .slice sp sLen sCap)
    (g off : Nat) (cur : List UInt8) (hg : BlkB w g e cur) (B : Nat) (l2 : List UInt8) (hn : sLen = l2.length) (hfit2 : l2.length ≤ dLen) (hdp : 0 < l2.length → dp = some ⟨g, off, none⟩) (hsp : RdB w B sp l2)
    (hfit : off + l2.length ≤ cur.length)
    (h : ∀ w' L, L = splice cur off l2 → BlkB w' g e L → w.grownBy w' (some g) → wpList P ops Q rest (a.put o.dst (.int .i64 (l2.length : Int))) w') : wpList P ops Q (o :: rest) a w :=
  wpList_plain hgd fun _ hK => wp_copy_b w d s T ho dp sp dLen dCap sLen sCap hd hs g off cur hg B l2 hn hfit2 hdp hsp hfit fun w' L h1 h2 h3 => hK _ _ (h w' L h1 h2 h3)
/-- A guard: the walk stands at a copy. -/
theorem at_copy {P : Program} {ops : Array Oper} {rest : List Oper} {Q : Exit → Act → World → Prop} {a : Act} {w : World} {dst ty pos aft gd args ats}
    (h : wpList P ops Q (⟨dst, .call { callee := .builtin .copy, args := args, argTypes := ats }, ty, pos, aft, gd⟩ :: rest) a w) : wpList P ops Q (⟨dst, .call { callee := .builtin .copy, args := args, argTypes := ats }, ty, pos, aft, gd⟩ :: rest) a w := h
/-- .. at a step of a region that draws its order. -/
theorem step_copy_b {ops : Array Oper} {o : Oper} {a : Act} {K : Act → World → Prop} {Q : Exit → Act → World → Prop} {E : Prop} (hgd : o.guard = none) (d s : Operand) {t e : TypeId} (T : BT P t e)
    (ho : o.op = .call { callee := .builtin .copy, args := #[d, s], argTypes := #[t, t] })
    (dp sp : Option Addr) (dLen dCap sLen sCap : Nat) (hd : a.eval d = .slice dp dLen dCap) (hs : a.eval s = .slice sp sLen sCap)
    (g off : Nat) (cur : List UInt8) (hg : BlkB w g e cur) (B : Nat) (l2 : List UInt8) (hn : sLen = l2.length) (hfit2 : l2.length ≤ dLen) (hdp : 0 < l2.length → dp = some ⟨g, off, none⟩) (hsp : RdB w B sp l2)
    (hfit : off + l2.length ≤ cur.length)
    (h : ∀ w' L, L = splice cur off l2 → BlkB w' g e L → w.grownBy w' (some g) → K (a.put o.dst (.int .i64 (l2.length : Int))) w') :
    if Region.wanted o (yielded ops a.tmps) = true then Oper.wp P o a w K Q else E := by
  have hw : Region.wanted o (yielded ops a.tmps) = true := by simp [Region.wanted, hgd]
  rw [if_pos hw]
  exact wp_copy_b w d s T ho dp sp dLen dCap sLen sCap hd hs g off cur hg B l2 hn hfit2 hdp hsp hfit h
end
end Go.Proofs.YtfifbcniilaehaaDoor
