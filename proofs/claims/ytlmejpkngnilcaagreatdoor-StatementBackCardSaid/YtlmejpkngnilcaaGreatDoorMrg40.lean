/- Parts of the proof, one behind the other: What lies in memory while statement.Parse reads lines.; The contract of statement.Parse. -/
import Derived.Test.YtlmejpkngnilcaaGreatDoorMrg37
import Derived.Test.YtlmejpkngnilcaaGreatDoorMrg39
import Derived.Test.YtlmejpkngnilcaaGreatDoorMrg35
namespace Go.Proofs.YtlmejpkngnilcaaGreatDoor
open Go.RowKit Go.Shelf

theorem set_at {W : World} {B j : Nat} {cs : Array Value} {x : Value} {t : TypeId} {fr : Nat × Nat} (h : W.heap[B]? = some (.cells cs t fr)) : (W.setCell ⟨B, j, none⟩ x).heap[B]? = some (.cells (cs.setIfInBounds j x) t fr) := by
  obtain ⟨hlt, hk⟩ := Array.getElem?_eq_some_iff.1 h
  show (W.heap.modify B _)[B]? = _
  rw [Array.getElem?_eq_getElem (by rw [Array.size_modify]; exact hlt), Array.getElem_modify_self, hk]
  rfl
def smtC (s : Smt) (A : Option Addr) (c : Nat) (A2 : Option Addr) (c2 : Nat) : Array Value := #[.int .i64 s.id, .int .i64 s.fr, .int .i64 s.to_, .int .i64 s.owed, .int .i64 s.credit, .slice A s.l.length c, .slice A2 s.m.length c2]
def zS : Array Value := #[.int .i64 0, .int .i64 0, .int .i64 0, .int .i64 0, .int .i64 0, .slice none 0 0, .slice none 0 0]
theorem smtC_zero : smtC Smt.zero none 0 none 0 = zS := rfl
/-- The statement that is read, in the box behind w's end; the two results' boxes ahead of it. -/
structure PB (w : World) (s : Smt) (A : Option Addr) (c : Nat) (A2 : Option Addr) (c2 : Nat) (W : World) : Prop where
  box : W.heap[w.heap.size + 2]? = some (.cells (smtC s A c A2 c2) 25)
  ol : OwnS Ln.cells 5 W (w.heap.size + 4) 51 A c s.l
  oi : OwnS It.cells 4 W (w.heap.size + 4) 53 A2 c2 s.m
  below : Below w.heap.size w W
  b2 : W.heap[w.heap.size]? = some (.cells zS 25)
  b3 : W.heap[w.heap.size + 1]? = some (.cells #[.int .i64 0] 28)
  lt : w.heap.size + 3 < W.heap.size
/-- What a round turns: the statement's box, rows of lines, of items. -/
structure Rnd (w W W' : World) : Prop where
  size : W.heap.size ≤ W'.heap.size
  low : ∀ k, k < w.heap.size + 4 → k < W.heap.size → k ≠ w.heap.size + 2 → W'.heap[k]? = W.heap[k]?
  keep : ∀ k o, W.heap[k]? = some o → k ≠ w.heap.size + 2 → (∀ cs T fr, o = .cells cs T fr → T ≠ 51 ∧ T ≠ 53) → W'.heap[k]? = some o
theorem Rnd.of_below {w W X : World} (h : Below W.heap.size W X) : Rnd w W X :=
  ⟨h.size, fun k _ hk _ => h.block k hk, fun k _ ho _ _ => (h.block k (Array.getElem?_eq_some_iff.1 ho).1).trans ho⟩
theorem Rnd.trans {w W X Y : World} (h : Rnd w W X) (h2 : Rnd w X Y) : Rnd w W Y :=
  ⟨Nat.le_trans h.size h2.size, fun k h1 h3 h4 => (h2.low k h1 (Nat.lt_of_lt_of_le h3 h.size) h4).trans (h.low k h1 h3 h4), fun k o ho hn hT => h2.keep k o (h.keep k o ho hn hT) hn hT⟩
theorem Rnd.set (w W : World) (j : Nat) (v : Value) : Rnd w W (W.setCell ⟨w.heap.size + 2, j, none⟩ v) :=
  ⟨by simp, fun k _ _ hn => Below.heap_setCell _ _ _ _ hn, fun k o ho hn _ => (Below.heap_setCell _ _ _ _ hn).trans ho⟩
theorem Rnd.row {α : Type} {f : α → List Value} {n : Nat} {w W W' : World} {A : Option Addr} {c : Nat} {l : List α} {T : TypeId} (hT : T = 51 ∨ T = 53) (h : OwnS f n W (w.heap.size + 4) T A c l) (hg : W.grownBy W' (blk A)) : Rnd w W W' := by
  refine ⟨hg.size, fun k hk hkz _ => hg.block k hkz (fun e => ?_), fun k o ho _ hc => (hg.block k (Array.getElem?_eq_some_iff.1 ho).1 (fun e => ?_)).trans ho⟩
  · have := (h.blk_ge k e.symm).1; omega
  · have h2 := h.2
    rcases h2 with ⟨hv, _⟩ | ⟨g', cap, cur, hv, _, hh, _⟩
    · injection hv with hv; rw [hv] at e; cases e
    · injection hv with hv
      rw [hv] at e
      have e : k = g' := by simpa [blk] using e
      subst e
      rw [ho] at hh
      injection hh with hh
      have := hc _ _ _ hh
      rcases hT with rfl | rfl
      · exact this.1 rfl
      · exact this.2 rfl
theorem Rnd.keepsFrom {w W W' : World} {s : Smt} {A : Option Addr} {c : Nat} {A2 : Option Addr} {c2 : Nat} (h : Rnd w W W') (hb : PB w s A c A2 c2 W) (B : Nat) : KeepsFrom B W W' :=
  ⟨h.size, fun k o _ ho hc => h.keep k o ho (fun e => by
    subst e
    rw [hb.box] at ho
    injection ho with ho
    subst ho
    cases hc) (fun cs T fr e => by subst e; cases hc)⟩
theorem Rnd.kpb {w W W' : World} (h : Rnd w W W') (hlt : w.heap.size + 3 < W.heap.size) : KpB (w.heap.size + 3) W W' := ⟨h.size, h.low _ (by omega) hlt (by omega)⟩
section
variable {w W W' : World} {s s' : Smt} {A : Option Addr} {c : Nat} {A2 : Option Addr} {c2 : Nat}
theorem PB.grown {row : Option Nat} (h : PB w s A c A2 c2 W) (hg : W.grownBy W' row) (hr : ∀ r, row = some r → r = w.heap.size + 3 ∨ (w.heap.size + 4 ≤ r ∧ ∃ o : Obj, W.heap[r]? = some o ∧ o.isCells = false)) : PB w s A c A2 c2 W' := by
  have low : ∀ k, k < w.heap.size + 3 → W'.heap[k]? = W.heap[k]? := fun k hk => hg.block k (by have := h.lt; omega) (fun e => by rcases hr k e.symm with h1 | ⟨h1, _⟩ <;> omega)
  have rows : ∀ {α : Type} {f : α → List Value} {n : Nat} {B : Option Addr} {d : Nat} {l : List α} {T : TypeId}, OwnS f n W (w.heap.size + 4) T B d l → OwnS f n W' (w.heap.size + 4) T B d l := fun {α f n B d l T} ho => by
    refine ho.kept hg ?_
    rcases hB : blk B with _ | g
    · exact .inl rfl
    · refine .inr (fun e => ?_)
      have h1 := (ho.blk_ge g hB).1
      rcases hr g e.symm with h2 | ⟨_, o, h2, h3⟩
      · omega
      · rcases ho.2 with ⟨hv, _⟩ | ⟨g', cap, cur, hv, _, hh, _⟩
        · injection hv with hv; rw [hv] at hB; cases hB
        · injection hv with hv
          rw [hv] at hB
          have hB : g' = g := by simpa [blk] using hB
          subst hB
          rw [hh] at h2
          injection h2 with h2
          subst h2
          cases h3
  exact ⟨(low _ (by omega)).trans h.box, rows h.ol, rows h.oi, h.below.grown hg (by have := h.lt; omega) (fun r e => by rcases hr r e with h1 | ⟨h1, _⟩ <;> omega), (low _ (by omega)).trans h.b2, (low _ (by omega)).trans h.b3, Nat.lt_of_lt_of_le h.lt hg.size⟩
theorem PB.cells (h : PB w s A c A2 c2 W) : W.cell? ⟨w.heap.size + 2, 0, none⟩ = some (.int .i64 s.id) ∧ W.cell? ⟨w.heap.size + 2, 1, none⟩ = some (.int .i64 s.fr) ∧ W.cell? ⟨w.heap.size + 2, 2, none⟩ = some (.int .i64 s.to_) ∧ W.cell? ⟨w.heap.size + 2, 3, none⟩ = some (.int .i64 s.owed) ∧ W.cell? ⟨w.heap.size + 2, 4, none⟩ = some (.int .i64 s.credit) ∧
    W.cell? ⟨w.heap.size + 2, 5, none⟩ = some (.slice A s.l.length c) ∧ W.cell? ⟨w.heap.size + 2, 6, none⟩ = some (.slice A2 s.m.length c2) := by
  have k := fun j => cell_of_row W (w.heap.size + 2) j _ _ (0, 0) h.box
  rw [k, k, k, k, k, k, k]
  exact ⟨rfl, rfl, rfl, rfl, rfl, rfl, rfl⟩
theorem PB.fr (h : PB w s A c A2 c2 W) (j : Nat) : W.frozen? ⟨w.heap.size + 2, j, none⟩ = false := frozen_of_row W (w.heap.size + 2) j _ _ h.box
theorem PB.on (h : PB w s A c A2 c2 W) (hb : Below W.heap.size W W') : PB w s A c A2 c2 W' := h.grown (grown_of_below hb) (fun r e => by cases e)
/-- Numbers of the statement are stored. -/
theorem PB.nums (h : PB w s A c A2 c2 W) (hbox : W'.heap[w.heap.size + 2]? = some (.cells (smtC s' A c A2 c2) 25)) (hk : ∀ k, k ≠ w.heap.size + 2 → W'.heap[k]? = W.heap[k]?) (hz : W'.heap.size = W.heap.size) (hb : Below w.heap.size W W') (h1 : s'.l = s.l) (h2 : s'.m = s.m) : PB w s' A c A2 c2 W' := by
  have ol := h.ol.keep (fun g hg => hk g (by have := (h.ol.blk_ge g hg).1; omega))
  have oi := h.oi.keep (fun g hg => hk g (by have := (h.oi.blk_ge g hg).1; omega))
  exact ⟨hbox, by rw [h1]; exact ol, by rw [h2]; exact oi, h.below.trans hb, (hk _ (by omega)).trans h.b2, (hk _ (by omega)).trans h.b3, by rw [hz]; exact h.lt⟩
theorem own_apart {α β : Type} {f : α → List Value} {g : β → List Value} {n k base : Nat} {T U : TypeId} {B C : Option Addr} {d e : Nat} {l : List α} {m : List β} (h : OwnS f n W base T B d l) (h2 : OwnS g k W base U C e m) (hT : T ≠ U) : blk C = none ∨ blk C ≠ blk B := by
  rcases hC : blk C with _ | x
  · exact .inl rfl
  · refine .inr (fun hB => ?_)
    rcases h.2 with ⟨hv, _⟩ | ⟨g', cap, cur, hv, _, hh, _⟩
    · injection hv with hv; rw [hv] at hB; cases hB
    · rcases h2.2 with ⟨hv2, _⟩ | ⟨g2, cap2, cur2, hv2, _, hh2, _⟩
      · injection hv2 with hv2; rw [hv2] at hC; cases hC
      · injection hv with hv; injection hv2 with hv2
        rw [hv] at hB
        rw [hv2] at hC
        have e1 : x = g' := by simpa [blk] using hB
        have e2 : g2 = x := by simpa [blk] using hC
        subst e1 e2
        rw [hh] at hh2
        injection hh2 with hh2
        injection hh2 with _ hh2
        exact hT hh2
/-- A line was appended, and is stored. -/
theorem PB.line {A' : Option Addr} {c' : Nat} {y : Ln} (h : PB w s A c A2 c2 W) (ho : OwnS Ln.cells 5 W' (w.heap.size + 4) 51 A' c' (s.l ++ [y])) (hg : W.grownBy W' (blk A)) :
    PB w { s with l := s.l ++ [y] } A' c' A2 c2 (W'.setCell ⟨w.heap.size + 2, 5, none⟩ (.slice A' (s.l ++ [y]).length c')) := by
  have low : ∀ k, k < w.heap.size + 4 → W'.heap[k]? = W.heap[k]? := fun k hk => hg.block k (by have := h.lt; omega) (fun e => by have := (h.ol.blk_ge k e.symm).1; omega)
  have oi := h.oi.kept hg (own_apart h.ol h.oi (by decide))
  refine ⟨(set_at ((low _ (by omega)).trans h.box)).trans rfl, ho.keep (fun g hgg => Below.heap_setCell _ _ _ _ (by have := (ho.blk_ge g hgg).1; show g ≠ w.heap.size + 2; omega)), oi.keep (fun g hgg => Below.heap_setCell _ _ _ _ (by have := (oi.blk_ge g hgg).1; show g ≠ w.heap.size + 2; omega)), ?_, ?_, ?_, ?_⟩
  · exact (h.below.grown hg (by have := h.lt; omega) (fun r e => by have := (h.ol.blk_ge r e).1; omega)).setCell (p := ⟨w.heap.size + 2, 5, none⟩) (by show _ ≤ w.heap.size + 2; omega) _
  · rw [Below.heap_setCell _ _ _ _ (by show _ ≠ w.heap.size + 2; omega), low _ (by omega)]; exact h.b2
  · rw [Below.heap_setCell _ _ _ _ (by show _ ≠ w.heap.size + 2; omega), low _ (by omega)]; exact h.b3
  · rw [show (W'.setCell ⟨w.heap.size + 2, 5, none⟩ (.slice A' (s.l ++ [y]).length c')).heap.size = W'.heap.size by simp]; exact Nat.lt_of_lt_of_le h.lt hg.size
theorem PB.item {A' : Option Addr} {c' : Nat} {y : It} (h : PB w s A c A2 c2 W) (ho : OwnS It.cells 4 W' (w.heap.size + 4) 53 A' c' (s.m ++ [y])) (hg : W.grownBy W' (blk A2)) :
    PB w { s with m := s.m ++ [y] } A c A' c' (W'.setCell ⟨w.heap.size + 2, 6, none⟩ (.slice A' (s.m ++ [y]).length c')) := by
  have low : ∀ k, k < w.heap.size + 4 → W'.heap[k]? = W.heap[k]? := fun k hk => hg.block k (by have := h.lt; omega) (fun e => by have := (h.oi.blk_ge k e.symm).1; omega)
  have ol := h.ol.kept hg (own_apart h.oi h.ol (by decide))
  refine ⟨(set_at ((low _ (by omega)).trans h.box)).trans rfl, ol.keep (fun g hgg => Below.heap_setCell _ _ _ _ (by have := (ol.blk_ge g hgg).1; show g ≠ w.heap.size + 2; omega)), ho.keep (fun g hgg => Below.heap_setCell _ _ _ _ (by have := (ho.blk_ge g hgg).1; show g ≠ w.heap.size + 2; omega)), ?_, ?_, ?_, ?_⟩
  · exact (h.below.grown hg (by have := h.lt; omega) (fun r e => by have := (h.oi.blk_ge r e).1; omega)).setCell (p := ⟨w.heap.size + 2, 6, none⟩) (by show _ ≤ w.heap.size + 2; omega) _
  · rw [Below.heap_setCell _ _ _ _ (by show _ ≠ w.heap.size + 2; omega), low _ (by omega)]; exact h.b2
  · rw [Below.heap_setCell _ _ _ _ (by show _ ≠ w.heap.size + 2; omega), low _ (by omega)]; exact h.b3
  · rw [show (W'.setCell ⟨w.heap.size + 2, 6, none⟩ (.slice A' (s.m ++ [y]).length c')).heap.size = W'.heap.size by simp]; exact Nat.lt_of_lt_of_le h.lt hg.size
end
theorem lnT : RT Tryz.prog 22 51 Ln.cells 5 40 (.agg #[.int .i64 0, .int .i64 0, .int .i64 0, .int .i64 0, .int .i64 0]) :=
  ⟨Tryz.underlying22, by kernel_rfl, fun _ => rfl, fun a u hu => by simp [Ln.cells] at hu; rcases hu with rfl | rfl | rfl | rfl | rfl <;> rfl, by decide, rfl⟩
theorem ln_new (X : World) (y : Ln) : RdS Ln.cells 5 (X.alloc (.cells #[.int .i64 y.day, .int .i64 y.kind, .int .i64 y.ref, .int .i64 y.owed, .int .i64 y.credit] 51)) (X.heap.size + 1) (some ⟨X.heap.size, 0, none⟩) [y] := by
  refine RdS.of (f := Ln.cells) (n := 5) (fun _ => rfl) X.heap.size 0 (by omega) (fun k hk j u hu => ?_)
  have e : k = 0 := by simp at hk; omega
  subst e
  have h1 := cell_of_row (X.alloc (.cells #[.int .i64 y.day, .int .i64 y.kind, .int .i64 y.ref, .int .i64 y.owed, .int .i64 y.credit] 51)) X.heap.size j _ _ (0, 0) (heap_alloc_new X _)
  rw [show 0 + 0 * 5 + j = j by omega, h1, ← hu]
  simp [Ln.cells]
theorem it_new (X : World) (y : It) : RdS It.cells 4 (X.alloc (.cells #[.int .i64 y.due, .int .i64 y.kind, .int .i64 y.period, .int .i64 y.open_] 53)) (X.heap.size + 1) (some ⟨X.heap.size, 0, none⟩) [y] := by
  refine RdS.of (f := It.cells) (n := 4) (fun _ => rfl) X.heap.size 0 (by omega) (fun k hk j u hu => ?_)
  have e : k = 0 := by simp at hk; omega
  subst e
  have h1 := cell_of_row (X.alloc (.cells #[.int .i64 y.due, .int .i64 y.kind, .int .i64 y.period, .int .i64 y.open_] 53)) X.heap.size j _ _ (0, 0) (heap_alloc_new X _)
  rw [show 0 + 0 * 4 + j = j by omega, h1, ← hu]
  simp [It.cells]
/-- Between two lines. -/
structure PI (w : World) (pre : List ByteArray) (W : World) : Prop where
  ex : ∃ s A c A2 c2, ReadsT pre s ∧ PB w s A c A2 c2 W
/-- Behind an early return. -/
structure PX (w : World) (t : ByteArray) (c : Code) (pre : List ByteArray) (W : World) : Prop where
  code : c = .ret
  lo : ∃ r, LinesOf t pre r
  why : ∃ pre0 x s, pre = pre0 ++ [x] ∧ ReadsT pre0 s ∧ ¬ ∃ s', LineW (wordsOf x) s s'
  b2 : W.heap[w.heap.size]? = some (.cells zS 25)
  b3 : W.heap[w.heap.size + 1]? = some (.cells #[.int .i64 3] 28)
  below : Below w.heap.size w W
  lt : w.heap.size + 3 < W.heap.size
theorem PX.grown {w W W' : World} {t : ByteArray} {c : Code} {pre : List ByteArray} {row : Option Nat} (h : PX w t c pre W) (hg : W.grownBy W' row) (hr : ∀ r, row = some r → w.heap.size + 3 ≤ r) : PX w t c pre W' := by
  have low : ∀ k, k < w.heap.size + 3 → W'.heap[k]? = W.heap[k]? := fun k hk => hg.block k (by have := h.lt; omega) (fun e => by have := hr k e.symm; omega)
  exact ⟨h.code, h.lo, h.why, (low _ (by omega)).trans h.b2, (low _ (by omega)).trans h.b3, h.below.grown hg (by have := h.lt; omega) (fun r e => by have := hr r e; omega), Nat.lt_of_lt_of_le h.lt hg.size⟩
theorem PB.zero2 {w W : World} {s : Smt} {A : Option Addr} {c : Nat} {A2 : Option Addr} {c2 : Nat} (h : PB w s A c A2 c2 W) : W.cell? ⟨w.heap.size, 0, none⟩ = some (.int .i64 0) ∧ W.cell? ⟨w.heap.size, 1, none⟩ = some (.int .i64 0) ∧ W.cell? ⟨w.heap.size, 2, none⟩ = some (.int .i64 0) ∧ W.cell? ⟨w.heap.size, 3, none⟩ = some (.int .i64 0) ∧ W.cell? ⟨w.heap.size, 4, none⟩ = some (.int .i64 0) ∧
    W.cell? ⟨w.heap.size, 5, none⟩ = some (.slice none 0 0) ∧ W.cell? ⟨w.heap.size, 6, none⟩ = some (.slice none 0 0) ∧ W.cell? ⟨w.heap.size + 1, 0, none⟩ = some (.int .i64 0) := by
  have k := fun j => cell_of_row W w.heap.size j _ _ (0, 0) h.b2
  rw [k, k, k, k, k, k, k, cell_of_row W (w.heap.size + 1) 0 _ _ (0, 0) h.b3]
  exact ⟨rfl, rfl, rfl, rfl, rfl, rfl, rfl, rfl⟩
theorem PB.fr2 {w W : World} {s : Smt} {A : Option Addr} {c : Nat} {A2 : Option Addr} {c2 : Nat} (h : PB w s A c A2 c2 W) : W.frozen? ⟨w.heap.size, 0, none⟩ = false ∧ W.frozen? ⟨w.heap.size, 1, none⟩ = false ∧ W.frozen? ⟨w.heap.size, 2, none⟩ = false ∧ W.frozen? ⟨w.heap.size, 3, none⟩ = false ∧ W.frozen? ⟨w.heap.size, 4, none⟩ = false ∧ W.frozen? ⟨w.heap.size, 5, none⟩ = false ∧ W.frozen? ⟨w.heap.size, 6, none⟩ = false ∧ W.frozen? ⟨w.heap.size + 1, 0, none⟩ = false := by
  have k := fun j => frozen_of_row W w.heap.size j _ _ h.b2
  exact ⟨k 0, k 1, k 2, k 3, k 4, k 5, k 6, frozen_of_row W (w.heap.size + 1) 0 _ _ h.b3⟩
/-- The world behind 'return api.Statement{}, api.ErrForm'. -/
def zst (w Y : World) : World := (((((((Y.setCell ⟨w.heap.size, 0, none⟩ (.int .i64 0)).setCell ⟨w.heap.size, 1, none⟩ (.int .i64 0)).setCell ⟨w.heap.size, 2, none⟩ (.int .i64 0)).setCell ⟨w.heap.size, 3, none⟩ (.int .i64 0)).setCell ⟨w.heap.size, 4, none⟩ (.int .i64 0)).setCell ⟨w.heap.size, 5, none⟩ (.slice none 0 0)).setCell ⟨w.heap.size, 6, none⟩ (.slice none 0 0)).setCell ⟨w.heap.size + 1, 0, none⟩ (.int .i64 3)
theorem zst_heap (w Y : World) (k : Nat) (h0 : k ≠ w.heap.size) (h1 : k ≠ w.heap.size + 1) : (zst w Y).heap[k]? = Y.heap[k]? := by
  unfold zst
  rw [Below.heap_setCell _ _ _ _ h1, Below.heap_setCell _ _ _ _ h0, Below.heap_setCell _ _ _ _ h0, Below.heap_setCell _ _ _ _ h0, Below.heap_setCell _ _ _ _ h0, Below.heap_setCell _ _ _ _ h0, Below.heap_setCell _ _ _ _ h0, Below.heap_setCell _ _ _ _ h0]
theorem zst_size (w Y : World) : (zst w Y).heap.size = Y.heap.size := by unfold zst; simp
theorem zst_below (w Y : World) : Below w.heap.size Y (zst w Y) := by
  have hs : ∀ (X : World) (g j : Nat) (v : Value), w.heap.size ≤ g → Below w.heap.size Y X → Below w.heap.size Y (X.setCell ⟨g, j, none⟩ v) := fun X g j v hg h => h.setCell (p := ⟨g, j, none⟩) hg v
  have e := Nat.le_refl w.heap.size
  unfold zst
  exact hs _ _ _ _ (Nat.le_succ _) (hs _ _ _ _ e (hs _ _ _ _ e (hs _ _ _ _ e (hs _ _ _ _ e (hs _ _ _ _ e (hs _ _ _ _ e (hs _ _ _ _ e (Below.refl _ _))))))))
theorem end_ok {w W Y : World} {s s' : Smt} {A A' : Option Addr} {c c' : Nat} {A2 A2' : Option Addr} {c2 c2' : Nat} {pre : List ByteArray} (B : Nat) (hr : Rnd w W Y) (h0 : PB w s A c A2 c2 W) (h : PB w s' A' c' A2' c2' Y) (hrd : ReadsT pre s') : KeepsFrom B W Y ∧ KpB (w.heap.size + 3) W Y ∧ PI w pre Y :=
  ⟨hr.keepsFrom h0 B, hr.kpb h0.lt, ⟨_, _, _, _, _, hrd, h⟩⟩
theorem end_bad {w W Y : World} {s s' : Smt} {A A' : Option Addr} {c c' : Nat} {A2 A2' : Option Addr} {c2 c2' : Nat} {pre : List ByteArray} {t x : ByteArray} (B : Nat) (hr : Rnd w W Y) (h0 : PB w s A c A2 c2 W) (h : PB w s' A' c' A2' c2' Y) (hrd : ReadsT pre s) (hlo : ∃ r, LinesOf t (pre ++ [x]) r) (hno : ¬ ∃ s', LineW (wordsOf x) s s') :
    KeepsFrom B W (zst w Y) ∧ PX w t .ret (pre ++ [x]) (zst w Y) := by
  have k := hr.keepsFrom h0 B
  refine ⟨⟨by rw [zst_size]; exact k.size, fun j o hB hj ho => ?_⟩, rfl, hlo, ⟨pre, x, s, rfl, hrd, hno⟩, ?_, ?_, h.below.trans (zst_below w Y), by rw [zst_size]; exact h.lt⟩
  · have h1 := k.same j o hB hj ho
    rw [zst_heap w Y j (fun e => ?_) (fun e => ?_)]
    · exact h1
    · subst e; rw [h.b2] at h1; injection h1 with h1; subst h1; cases ho
    · subst e; rw [h.b3] at h1; injection h1 with h1; subst h1; cases ho
  · unfold zst
    rw [Below.heap_setCell _ _ _ _ (by show w.heap.size ≠ w.heap.size + 1; omega)]
    exact (set_at (set_at (set_at (set_at (set_at (set_at (set_at h.b2))))))).trans rfl
  · unfold zst
    refine (set_at (cs := #[.int .i64 0]) (fr := (0, 0)) (t := 28) ?_).trans rfl
    have e : w.heap.size + 1 ≠ w.heap.size := by omega
    rw [Below.heap_setCell _ _ _ _ e, Below.heap_setCell _ _ _ _ e, Below.heap_setCell _ _ _ _ e, Below.heap_setCell _ _ _ _ e, Below.heap_setCell _ _ _ _ e, Below.heap_setCell _ _ _ _ e, Below.heap_setCell _ _ _ _ e]
    exact h.b3
section
variable {ws : List ByteArray} {s s' : Smt}
theorem lineW_st (h : hd ws = stB) : LineW ws s s' ↔ ∃ a b c, Took [numR, dayR, dayR] ws.tail [a, b, c] ∧ s' = { s with id := a, fr := b, to_ := c } := by unfold LineW; rw [if_pos h]
theorem lineW_op (h0 : ¬ hd ws = stB) (h : hd ws = opB) : LineW ws s s' ↔ ∃ a b, Took [amtR, amtR] ws.tail [a, b] ∧ s' = { s with owed := a, credit := b } := by unfold LineW; rw [if_neg h0, if_pos h]
theorem lineW_cl (h0 : ¬ hd ws = stB) (h1 : ¬ hd ws = opB) (h : hd ws = clB) : LineW ws s s' ↔ s' = s := by unfold LineW; rw [if_neg h0, if_neg h1, if_pos h]
theorem lineW_du (h0 : ¬ hd ws = stB) (h1 : ¬ hd ws = opB) (h2 : ¬ hd ws = clB) (h : hd ws = duB) : LineW ws s s' ↔ ∃ a b c d, Took [dayR, itemR, numR, amtR] ws.tail [a, b, c, d] ∧ s' = { s with m := s.m ++ [⟨a, b, c, d⟩] } := by unfold LineW; rw [if_neg h0, if_neg h1, if_neg h2, if_pos h]
theorem lineW_ln (h0 : ¬ hd ws = stB) (h1 : ¬ hd ws = opB) (h2 : ¬ hd ws = clB) (h : ¬ hd ws = duB) : LineW ws s s' ↔ ∃ a b c d e, Took [dayR, lineR, numR, amtR, amtR] ws [a, b, c, d, e] ∧ s' = { s with l := s.l ++ [⟨a, b, c, d, e⟩] } := by unfold LineW; rw [if_neg h0, if_neg h1, if_neg h2, if_neg h]
end
/-- A function's end behind marks, where its results lie in cells. -/
theorem leaves_marksc {F : Fence} {n : Nat} {P : Program} {fn : Func} {tmps : Array Value} {R : Ending → World → Prop} {B : Nat} {A : World} (v : Value) (hres : ∀ W, Shut B A W → (results fn tmps).run P W = .ok v W) (hR : ∀ W, Shut B A W → R (.returned v) W) :
    ∀ (ds : List Deferred) (W : World), Marks B W ds → Shut B A W → LeavesInM F n P fn tmps R ds .returning W
  | [], W, _, hW => ⟨v, hres W hW, hR W hW⟩
  | d :: ds, W, ⟨D, e, hB, hD, hne, hm⟩, hW => ⟨by simp, .inl ⟨D, _, by rw [e], run_takeDeferred hD, leaves_marksc v hres hR ds _ (hm.shut hD (fun d' hd => by rw [← e]; exact hne d' hd)) (.step hW hB hD)⟩⟩
theorem results_cc {P : Program} {fn : Func} {p q : Tmp} {ty tz : TypeId} (h : fn.results = #[.cell p ty, .cell q tz]) (tmps : Array Value) (w : World) (g g2 : Nat) (t : TypeId) (cs : Array Value) (fr : Nat × Nat) (d : TypeDesc) (v : Value)
    (hp : tmps.getD p undef = .pointer (some ⟨g, 0, none⟩)) (hg : w.heap[g]? = some (.cells cs t fr)) (hu : P.underlying ty = some d) (hd : (match d, hu with | .struct _, _ => true | .array _ _, _ => true | _, _ => false) = true) (hs : (P.info? ty).map (fun x => x.size) = some cs.size)
    (hq : tmps.getD q undef = .pointer (some ⟨g2, 0, none⟩)) (hv : (loadVar tz ⟨g2, 0, none⟩).run P w = .ok v w) :
    (results fn tmps).run P w = .ok (.tuple #[.agg cs, v]) w := by
  have h1 := results_cell_row (P := P) (fn := { fn with results := #[.cell p ty] }) (p := p) (ty := ty) rfl tmps w g t cs fr d hp hg hu hd hs
  have h2 : ((asAddr (tmps.getD p undef)).run P w).andThen (fun a w1 => (loadVar ty a).run P w1) = .ok (.agg cs) w := by
    simpa [results] using h1
  rw [hp] at h2
  have h3 : (loadVar ty ⟨g, 0, none⟩).run P w = .ok (.agg cs) w := by simpa [asAddr] using h2
  have hp2 := hp
  have hq2 := hq
  simp at hp2 hq2
  simp [results, h, asAddr, hp2, h3, hq2, hv]
theorem stmt_size : (Tryz.prog.info? 25).map (fun x => x.size) = some 7 := by kernel_rfl
/-- Parse's end. -/
theorem leaves_p {n : Nat} {fn : Func} {tmps cs : Array Value} {R : Ending → World → Prop} {D : Nat} {E : Int} {w A : World} (hfn : fn.results = #[.cell 2 25, .cell 3 28]) (hp : tmps.getD 2 undef = .pointer (some ⟨w.heap.size, 0, none⟩)) (hq : tmps.getD 3 undef = .pointer (some ⟨w.heap.size + 1, 0, none⟩))
    (h2 : A.heap[w.heap.size]? = some (.cells cs 25)) (hcs : cs.size = 7) (h3 : A.heap[w.heap.size + 1]? = some (.cells #[.int .i64 E] 28)) (hD : w.heap.size + 4 ≤ D) (hk : A.heap[D]? = some (.deferred (some [])))
    (hR : ∀ W', Below (w.heap.size + 4) A W' → Shut (w.heap.size + 4) A W' → R (.returned (.tuple #[.agg cs, .int .i64 E])) W') : LeavesInM Fence.wide n Tryz.prog fn tmps R [{ target := .collected D, args := #[] }] .returning A := by
  have hz : w.heap.size + 4 ≤ A.heap.size := by have := (Array.getElem?_eq_some_iff.1 hk).1; omega
  refine leaves_marksc (B := w.heap.size + 4) (A := A) (.tuple #[.agg cs, .int .i64 E]) (fun W hW => ?_) (fun W hW => hR W (hW.blw (Below.refl _ A) (Nat.le_refl _)) hW) _ _ ⟨D, rfl, hD, hk, (fun _ h => by cases h), trivial⟩ .refl
  have hb : Below (w.heap.size + 4) A W := hW.blw (Below.refl _ A) (Nat.le_refl _)
  have e2 := (hb.block w.heap.size (by omega)).trans h2
  have e3 := (hb.block (w.heap.size + 1) (by omega)).trans h3
  have c3 : W.cell? ⟨w.heap.size + 1, 0, none⟩ = some (.int .i64 E) := (cell_of_row W (w.heap.size + 1) 0 _ _ (0, 0) e3).trans rfl
  exact results_cc hfn tmps W w.heap.size (w.heap.size + 1) 25 cs (0, 0) _ (.int .i64 E) hp e2 Tryz.underlying25 rfl (by rw [stmt_size, hcs]) hq (by simp [go_sem, c3])
def printS (f : Int → List UInt8) (s : Smt) : Value := printV f s.id s.fr s.to_ s.owed s.credit s.l s.m
/-- What Parse gives. -/
def ParseX (f : Int → List UInt8) (t : ByteArray) (w : World) (e : Ending) (w' : World) : Prop := Below w.heap.size w w' ∧
  ((∃ xs s A c A2 c2, LinesOf t xs ⟨#[]⟩ ∧ ReadsT xs s ∧ printS f s = .tuple #[.string t, .int .i64 0] ∧ e = .returned (.tuple #[.agg (smtC s A c A2 c2), .int .i64 0]) ∧ RdL w' w'.heap.size A s.l ∧ RdT w' w'.heap.size A2 s.m) ∨
   (e = .returned (.tuple #[.agg zS, .int .i64 3]) ∧ ((∃ pre x s r, LinesOf t (pre ++ [x]) r ∧ ReadsT pre s ∧ ¬ ∃ s', LineW (wordsOf x) s s') ∨ (∃ xs s, LinesOf t xs ⟨#[]⟩ ∧ ReadsT xs s ∧ printS f s ≠ .tuple #[.string t, .int .i64 0]))))
/-- The world behind 'return s, api.OK'. -/
def sst (w : World) (s : Smt) (A : Option Addr) (c : Nat) (A2 : Option Addr) (c2 : Nat) (Y : World) : World := (((((((Y.setCell ⟨w.heap.size, 0, none⟩ (.int .i64 s.id)).setCell ⟨w.heap.size, 1, none⟩ (.int .i64 s.fr)).setCell ⟨w.heap.size, 2, none⟩ (.int .i64 s.to_)).setCell ⟨w.heap.size, 3, none⟩ (.int .i64 s.owed)).setCell ⟨w.heap.size, 4, none⟩ (.int .i64 s.credit)).setCell ⟨w.heap.size, 5, none⟩ (.slice A s.l.length c)).setCell ⟨w.heap.size, 6, none⟩ (.slice A2 s.m.length c2)).setCell ⟨w.heap.size + 1, 0, none⟩ (.int .i64 0)
theorem sst_heap (w Y : World) (s : Smt) (A : Option Addr) (c : Nat) (A2 : Option Addr) (c2 : Nat) (k : Nat) (h0 : k ≠ w.heap.size) (h1 : k ≠ w.heap.size + 1) : (sst w s A c A2 c2 Y).heap[k]? = Y.heap[k]? := by
  unfold sst
  rw [Below.heap_setCell _ _ _ _ h1, Below.heap_setCell _ _ _ _ h0, Below.heap_setCell _ _ _ _ h0, Below.heap_setCell _ _ _ _ h0, Below.heap_setCell _ _ _ _ h0, Below.heap_setCell _ _ _ _ h0, Below.heap_setCell _ _ _ _ h0, Below.heap_setCell _ _ _ _ h0]
theorem sst_below (w Y : World) (s : Smt) (A : Option Addr) (c : Nat) (A2 : Option Addr) (c2 : Nat) : Below w.heap.size Y (sst w s A c A2 c2 Y) := by
  have hs : ∀ (X : World) (g j : Nat) (v : Value), w.heap.size ≤ g → Below w.heap.size Y X → Below w.heap.size Y (X.setCell ⟨g, j, none⟩ v) := fun X g j v hg h => h.setCell (p := ⟨g, j, none⟩) hg v
  have e := Nat.le_refl w.heap.size
  unfold sst
  exact hs _ _ _ _ (Nat.le_succ _) (hs _ _ _ _ e (hs _ _ _ _ e (hs _ _ _ _ e (hs _ _ _ _ e (hs _ _ _ _ e (hs _ _ _ _ e (hs _ _ _ _ e (Below.refl _ _))))))))
theorem sst_boxes {w Y : World} {s0 s : Smt} {A0 A : Option Addr} {c0 c : Nat} {B0 A2 : Option Addr} {d0 c2 : Nat} (h : PB w s0 A0 c0 B0 d0 Y) : (sst w s A c A2 c2 Y).heap[w.heap.size]? = some (.cells (smtC s A c A2 c2) 25) ∧ (sst w s A c A2 c2 Y).heap[w.heap.size + 1]? = some (.cells #[.int .i64 0] 28) := by
  unfold sst
  constructor
  · rw [Below.heap_setCell _ _ _ _ (by show w.heap.size ≠ w.heap.size + 1; omega)]
    exact (set_at (set_at (set_at (set_at (set_at (set_at (set_at h.b2))))))).trans rfl
  · refine (set_at (cs := #[.int .i64 0]) (fr := (0, 0)) (t := 28) ?_).trans rfl
    have e : w.heap.size + 1 ≠ w.heap.size := by omega
    rw [Below.heap_setCell _ _ _ _ e, Below.heap_setCell _ _ _ _ e, Below.heap_setCell _ _ _ _ e, Below.heap_setCell _ _ _ _ e, Below.heap_setCell _ _ _ _ e, Below.heap_setCell _ _ _ _ e, Below.heap_setCell _ _ _ _ e]
    exact h.b3
theorem zst_boxes {w Y : World} {s0 : Smt} {A0 : Option Addr} {c0 : Nat} {B0 : Option Addr} {d0 : Nat} (h : PB w s0 A0 c0 B0 d0 Y) : (zst w Y).heap[w.heap.size]? = some (.cells zS 25) ∧ (zst w Y).heap[w.heap.size + 1]? = some (.cells #[.int .i64 3] 28) := by
  unfold zst
  constructor
  · rw [Below.heap_setCell _ _ _ _ (by show w.heap.size ≠ w.heap.size + 1; omega)]
    exact (set_at (set_at (set_at (set_at (set_at (set_at (set_at h.b2))))))).trans rfl
  · refine (set_at (cs := #[.int .i64 0]) (fr := (0, 0)) (t := 28) ?_).trans rfl
    have e : w.heap.size + 1 ≠ w.heap.size := by omega
    rw [Below.heap_setCell _ _ _ _ e, Below.heap_setCell _ _ _ _ e, Below.heap_setCell _ _ _ _ e, Below.heap_setCell _ _ _ _ e, Below.heap_setCell _ _ _ _ e, Below.heap_setCell _ _ _ _ e, Below.heap_setCell _ _ _ _ e]
    exact h.b3
theorem printS_form (f : Int → List UInt8) (s : Smt) : ∃ (S : ByteArray) (E : Int), printS f s = .tuple #[.string S, .int .i64 E] ∧ (E = 0 ∨ E = 1) := by
  unfold printS printV
  split
  · exact ⟨_, 0, rfl, .inl rfl⟩
  · exact ⟨_, 1, rfl, .inr rfl⟩
end Go.Proofs.YtlmejpkngnilcaaGreatDoor

namespace Go.Proofs.YtlmejpkngnilcaaGreatDoor
open Go.RowKit Go.Shelf

attribute [local go_sem] Oper.semAt_some

theorem bare_of (x : ByteArray) : (⟨(Lib.trimSuffix x.data.toList (⟨#[10]⟩ : ByteArray).data.toList).toArray⟩ : ByteArray) = bareW x := rfl
/-- strings.Split at a blank. -/
theorem split_c (x : ByteArray) (hs : x.size ≤ 1000000) (w : World) (hm : HasMax w) (n : Nat) (hn : n = (wordsOf x).length) :
    Calls Tryz.prog 29 #[.string (bareW x), .string ⟨#[32]⟩] w fun e w' => e = .returned (.slice (some ⟨w.heap.size, 0, none⟩) n n) ∧ w' = w.alloc (.cells ((wordsOf x).map Value.string).toArray 9) := by
  obtain ⟨m, hm⟩ := hm
  have h := Tryz.strings_Split (bareW x) ⟨#[32]⟩ m w (by have := bareW_size x; omega) hm (by decide)
  rw [hn, wordsOf_len]
  exact h
theorem wd_new (w : World) (ws : List ByteArray) (n : Nat) (hn : n = ws.length) : Wd ((w.alloc (.cells (ws.map Value.string).toArray 9)).alloc (.cells #[.slice (some ⟨w.heap.size, 0, none⟩) n n, .bool false] 71)) (w.heap.size + 1) ws false := by
  subst hn
  refine ⟨⟨some ⟨w.heap.size, 0, none⟩, ?_, ?_⟩⟩
  · have := heap_alloc_new (w.alloc (.cells (ws.map Value.string).toArray 9)) (.cells #[.slice (some ⟨w.heap.size, 0, none⟩) ws.length ws.length, .bool false] 71)
    simpa using this
  · refine RdS.of (f := Sc) (n := 1) (fun _ => rfl) w.heap.size 0 (by omega) (fun k hk j u hu => ?_)
    have h1 := cell_of_row ((w.alloc (.cells (ws.map Value.string).toArray 9)).alloc (.cells #[.slice (some ⟨w.heap.size, 0, none⟩) ws.length ws.length, .bool false] 71)) w.heap.size k _ _ (0, 0) ((heap_alloc_old _ _ (by simp)).trans (heap_alloc_new w (.cells (ws.map Value.string).toArray 9)))
    match j with
    | 0 =>
      have : u = .string ws[k] := by simpa [Sc] using hu.symm
      subst this
      rw [show 0 + k * 1 + 0 = k by omega, h1]
      simp [hk]
    | j + 1 => simp [Sc] at hu
set_option maxHeartbeats 16000000 in
set_option maxRecDepth 100000 in
theorem sparse_any (f : Int → List UInt8) (hf : Dates f) (t : ByteArray) (ht : t.size ≤ 100000) (w : World) (hp : PW w) :
    Calls Tryz.prog 9 #[.string t] w (ParseX f t w) := by
  have HP := Lib.hid hp
  have HT := Lib.hid ht
  have HF := Lib.hid hf
  clear hp hf
  refine (callsIn_wide (n := 5)).1 ?_
  refine callsIn_of_wp_marks Tryz.func9 rfl trivial ?_ rfl
  simp only [Tryz.ntmps9, List.size_toArray, List.length_cons, List.length_nil, Nat.reduceAdd, Nat.reduceSub, Array.replicate_succ, Array.replicate_zero, List.push_toArray, List.append_toArray, List.nil_append, List.cons_append]
  gi_wp2_with fail
  refine ⟨trivial, ?_⟩
  refine (callsIn_wide.2 (lines_any t _)).mono ?_
  rintro e wL ⟨rfl, hwL⟩
  -- FROM HERE
  have z1 : (((w.alloc (.cells zS 25)).alloc (.cells #[.int .i64 0] 28)).alloc (.cells zS 25)).heap.size = w.heap.size + 3 := by simp
  have HPB : Hid (PB w Smt.zero none 0 none 0 wL) := Lib.hid (by
    rw [hwL]
    refine ⟨?_, OwnS.nil _ _ _, OwnS.nil _ _ _, ((((Below.refl _ _).alloc (Nat.le_refl _) _).alloc (by simp) _).alloc (by simp; omega) _).alloc (by simp; omega) _, ?_, ?_, by simp⟩
    · rw [heap_alloc_old _ _ (by simp)]
      have := heap_alloc_new ((w.alloc (.cells zS 25)).alloc (.cells #[.int .i64 0] 28)) (.cells zS 25)
      rw [show ((w.alloc (.cells zS 25)).alloc (.cells #[.int .i64 0] 28)).heap.size = w.heap.size + 2 by simp] at this
      exact this
    · rw [heap_alloc_old _ _ (by simp; omega), heap_alloc_old _ _ (by simp; omega), heap_alloc_old _ _ (by simp)]
      exact heap_alloc_new w _
    · rw [heap_alloc_old _ _ (by simp), heap_alloc_old _ _ (by simp)]
      have := heap_alloc_new (w.alloc (.cells zS 25)) (.cells #[.int .i64 0] 28)
      rw [show (w.alloc (.cells zS 25)).heap.size = w.heap.size + 1 by simp] at this
      exact this)
  have HBX : Hid (wL.heap[w.heap.size + 3]? = some (.cells #[.string t] 9)) := Lib.hid (by
    rw [hwL]
    have := heap_alloc_new (((w.alloc (.cells zS 25)).alloc (.cells #[.int .i64 0] 28)).alloc (.cells zS 25)) (.cells #[.string t] 9)
    rwa [z1] at this)
  have HZL : Hid (wL.heap.size = w.heap.size + 4) := Lib.hid (by rw [hwL]; simp)
  have z2 : (((w.alloc (.cells #[.int .i64 0, .int .i64 0, .int .i64 0, .int .i64 0, .int .i64 0, .slice none 0 0, .slice none 0 0] 25)).alloc (.cells #[.int .i64 0] 28)).alloc (.cells #[.int .i64 0, .int .i64 0, .int .i64 0, .int .i64 0, .int .i64 0, .slice none 0 0, .slice none 0 0] 25)).heap.size = w.heap.size + 3 := z1
  rw [z2]
  clear hwL z1 z2
  have HSEQ : Hid (SeqT (fun pre x => ∃ r', LinesOf t (pre ++ [x]) r') (fun r => r = w.heap.size + 3) Fence.wide 4 Tryz.prog 49 #[.pointer (some ⟨w.heap.size + 3, 0, none⟩)] (fun x => #[.string x]) (KpB (w.heap.size + 3)) (fun xs => LinesOf t xs ⟨#[]⟩) (fun _ => True) (t.size + 1) wL) := Lib.hid (fun L J Jx W hW hJ _ hY h0 =>
    lines1_in L (w.heap.size + 3) t J Jx hJ hY W ((hW.block _ (by have := HZL.out; omega)).trans HBX.out) (by have := HT.out; omega) h0)
  have HI1 : Hid (OwnFrom wL.heap.size (PI w)) := Lib.hid (fun s A B row ⟨ss, A1, c1, A2, c2, h1, h2⟩ hg hr => ⟨ss, A1, c1, A2, c2, h1, h2.grown hg (fun r e => .inr ⟨by have := (hr r e).1; have := HZL.out; omega, (hr r e).2⟩)⟩)
  have HI2 : Hid (AbO (fun r => r = w.heap.size + 3) (PI w)) := Lib.hid (fun s A B row ⟨ss, A1, c1, A2, c2, h1, h2⟩ hg hr => ⟨ss, A1, c1, A2, c2, h1, h2.grown hg (fun r e => .inl (hr r e))⟩)
  have HX1 : Hid (∀ c, OwnFrom wL.heap.size (PX w t c)) := Lib.hid (fun c s A B row hs hg hr => hs.grown hg (fun r e => by have := (hr r e).1; have := HZL.out; omega))
  have HX2 : Hid (∀ c, AbO (fun r => r = w.heap.size + 3) (PX w t c)) := Lib.hid (fun c s A B row hs hg hr => hs.grown hg (fun r e => by have := hr r e; omega))
  have HKB : Hid (∀ (W : World) (l : Nat) (o : Obj), wL.heap.size ≤ l → l < W.heap.size → KpB (w.heap.size + 3) W (W.putObj l o)) := Lib.hid (fun W l o h1 _ => ⟨by simp [World.putObj], World.putObj_heap_other (by have := HZL.out; omega)⟩)
  rw [show w.heap.size + 1 + 1 = w.heap.size + 2 from rfl]
  gi_wp2_with fail
  refine rangeFunc_t (T := fun pre x => ∃ r', LinesOf t (pre ++ [x]) r') (own := fun r => r = w.heap.size + 3) rfl (by decide) (gf := 49) (lb := #[.pointer (some ⟨w.heap.size + 3, 0, none⟩)]) rfl trivial (enters_of Tryz.func49 (by kernel_rfl) rfl)
    HSEQ.out (fun r e => by rw [e]; have := HZL.out; omega) KpB.trans HKB.out (fun _ => rfl) (PI w) (PX w t) HI1.out HX1.out HI2.out HX2.out ⟨_, _, _, _, _, .nil, HPB.out⟩
    (fun x : ByteArray => { tmps := #[.string t, undef, .pointer (some ⟨w.heap.size, 0, none⟩), .pointer (some ⟨w.heap.size + 1, 0, none⟩), .pointer (some ⟨w.heap.size + 2, 0, none⟩), .string x, undef, undef, undef, .string t, .func (.func 49) #[] #[.pointer (some ⟨w.heap.size + 3, 0, none⟩)], .string x, undef, undef, undef, undef, undef, undef, undef, undef, undef, undef, undef, undef, undef, undef, undef, undef, undef, undef, undef, undef, undef, undef, undef, undef, undef, undef, undef, undef, undef, undef, undef, undef, undef, undef, undef, undef, undef, undef, undef, undef, undef, undef, undef, undef, undef, undef, undef, undef, undef, undef, undef, undef, undef, undef, undef, undef, undef, undef, undef, undef, undef, undef, undef, undef, undef, undef, undef, undef, undef, undef, undef, undef, undef, undef, undef, undef, undef, undef, undef, undef, undef, undef, undef, undef, undef, undef, undef, undef, undef], defers := [] }) ?assign ?body ?done ?stop
  case assign =>
    intro L x W K hK
    gi_wp2_with fail
    exact hK
  case stop =>
    rintro D c pre W hD _ hpx hk
    have hcode := hpx.code
    subst hcode
    have HPX := Lib.hid hpx
    have HK := Lib.hid hk
    clear hpx hk
    gi_wp2_with fail
    refine leaves_p (w := w) (cs := zS) (E := 3) rfl rfl rfl HPX.out.b2 rfl HPX.out.b3 (by have := HZL.out; omega) HK.out (fun W' hb _ => ?_)
    obtain ⟨pre0, x, s, e1, e2, e3⟩ := HPX.out.why
    obtain ⟨r, e4⟩ := HPX.out.lo
    exact ⟨HPX.out.below.trans (hb.mono (by omega)), .inr ⟨rfl, .inl ⟨pre0, x, s, r, by rw [← e1]; exact e4, e2, e3⟩⟩⟩
  case body =>
    intro L pre x W hi hTx hlen
    obtain ⟨s, A, c, A2, c2, hrs, hpb⟩ := hi
    obtain ⟨r', hlo⟩ := hTx
    have hxz : x.size ≤ 100000 := Nat.le_trans (hlo.size.2 x (by simp)) HT.out
    have hplen : pre.length ≤ 100000 := by have h1 := hlo.size.1; rw [List.length_append] at h1; have := HT.out; omega
    have HPW : Hid (PW W) := Lib.hid (HP.out.below hpb.below)
    have KT : Hid (Calls Tryz.prog 30 #[.string x, .string ⟨#[10]⟩] W fun e w' => e = .returned (.string (bareW x)) ∧ w' = W) := Lib.hid (Tryz.strings_TrimSuffix x ⟨#[10]⟩ W (by omega))
    obtain ⟨ws, hws⟩ : ∃ ws, ws = wordsOf x := ⟨_, rfl⟩
    obtain ⟨W1, hW1⟩ : ∃ W1, W1 = W.alloc (.cells (ws.map Value.string).toArray 9) := ⟨_, rfl⟩
    have hz1 : W1.heap.size = W.heap.size + 1 := by rw [hW1]; simp
    obtain ⟨bx, hbx⟩ : ∃ bx, bx = bareW x := ⟨_, rfl⟩
    have KS : Hid (Calls Tryz.prog 29 #[.string bx, .string ⟨#[32]⟩] W fun e w' => e = .returned (.slice (some ⟨W.heap.size, 0, none⟩) ws.length ws.length) ∧ w' = W1) := Lib.hid (by rw [hbx, hW1, hws]; exact split_c x (by omega) W HPW.out.max _ rfl)
    rw [← hbx] at KT
    obtain ⟨W2, hW2⟩ : ∃ W2, W2 = W1.alloc (.cells #[.slice (some ⟨W.heap.size, 0, none⟩) ws.length ws.length, .bool false] 71) := ⟨_, rfl⟩
    have HWD : Hid (Wd W2 (W.heap.size + 1) ws false) := Lib.hid (by rw [hW2, hW1]; exact wd_new W ws _ rfl)
    have hb2 : Below W.heap.size W W2 := by rw [hW2, hW1]; exact ((Below.refl _ _).alloc (Nat.le_refl _) _).alloc (by simp) _
    have hwn : 0 < ws.length := by rw [hws, wordsOf_len]; omega
    obtain ⟨h, hh⟩ : ∃ h, h = hd ws := ⟨_, rfl⟩
    have hc0 : (W1.alloc (.cells #[.slice (some ⟨W.heap.size, 0, none⟩) ws.length ws.length, .bool false] 71)).cell? ⟨W.heap.size, 0, none⟩ = some (.string h) := by
      have h1 := cell_of_row (W1.alloc (.cells #[.slice (some ⟨W.heap.size, 0, none⟩) ws.length ws.length, .bool false] 71)) W.heap.size 0 _ _ (0, 0) ((heap_alloc_old _ _ (by omega)).trans (by rw [hW1]; exact heap_alloc_new W (.cells (ws.map Value.string).toArray 9)))
      rw [h1, hh]
      cases ws with
      | nil => exact absurd hwn (by simp)
      | cons a r => rfl
    have HPB2 : Hid (PB w s A c A2 c2 W2) := Lib.hid (hpb.on hb2)
    have HPB0 := Lib.hid hpb
    have HLO : Hid (∃ r, LinesOf t (pre ++ [x]) r) := Lib.hid ⟨_, hlo⟩
    have HB2 := Lib.hid hb2
    have hwl : ws.length ≤ 100001 := by rw [hws]; exact wordsOf_few x hxz
    have HWZ : Hid (∀ y ∈ ws, y.size ≤ 1000000) := Lib.hid (fun y hy => by rw [hws] at hy; have := wordsOf_size x y hy; omega)
    have HRS := Lib.hid hrs
    have HWS := Lib.hid hws
    have HW2 := Lib.hid hW2
    have HHD := Lib.hid hh
    have HZ1 := Lib.hid hz1
    have hlt := hpb.lt
    clear hrs hpb hlo hbx hws hW1 hb2 hh hW2 hz1
    gi_wp2_with fail
    refine ⟨trivial, ((callsIn_wide.2 KT.out).inRound L).mono ?_⟩
    rintro e w3 ⟨rfl, he⟩
    rw [he]
    clear he KT
    gi_wp2_with fail
    refine ⟨trivial, ((callsIn_wide.2 KS.out).inRound L).mono ?_⟩
    rintro e w3 ⟨rfl, he⟩
    rw [he]
    clear he KS
    obtain ⟨g, hg⟩ : ∃ g, g = W1.heap.size := ⟨_, rfl⟩
    have hgW : g = W.heap.size + 1 := hg.trans HZ1.out
    have HG := Lib.hid hg
    have HWD2 : Hid (Wd W2 g ws false) := Lib.hid (by rw [hgW]; exact HWD.out)
    have hne : ¬ g = w.heap.size + 2 := by omega
    have hne2 : ¬ w.heap.size + 2 = g := by omega
    have hgl : W.heap.size ≤ g := by omega
    have HPWg : Hid (∀ X, Below g W2 X → PW X) := Lib.hid (fun X hX => HPW.out.below (HB2.out.trans (hX.mono hgl)))
    have HGW := Lib.hid hgW
    clear hg HWD hgW
    by_cases hst : h = stB
    · have b0 : (h.toList == [115, 116, 97, 116, 101, 109, 101, 110, 116]) = true := by rw [hst, ByteArray.toList_eq]; rfl
      have Hst := Lib.hid hst
      clear hst
      gi_wp2_with fail
      rw [← HW2.out, ← HG.out]
      refine ⟨trivial, ((callsIn_wide.2 (next_any g ws false W2 (by omega) HWD2.out)).inRound L).mono ?_⟩
      rintro e w4 ⟨rfl, hw4, hb4⟩
      have C0 : Hid (Chn g ws.tail [] [] false w4 w4) := Lib.hid (Chn.nil (by
        cases ws with
        | nil => exact absurd hwn (by simp)
        | cons a r => exact hw4))
      have HB4 := Lib.hid (HB2.out.trans (hb4.mono hgl))
      have HPW4 : Hid (∀ X, Below g w4 X → PW X) := Lib.hid (fun X hX => HPWg.out X (hb4.trans hX))
      have hwt : ws.tail.length ≤ 1000000 := by rw [List.length_tail]; omega
      have HWT : Hid (∀ y ∈ ws.tail, y.size ≤ 1000000) := Lib.hid (fun y hy => HWZ.out y (List.mem_of_mem_tail hy))
      clear hw4 hb4 hc0
      gi_wp2_with fail
      refine ⟨trivial, ((callsIn_wide.2 (number_c C0.out hwt HWT.out HPW4.out)).inRound L).mono ?_⟩
      rintro e w5 ⟨v1, am1, rfl, cn1⟩
      have C1 := Lib.hid cn1
      clear cn1
      gi_wp2_with fail
      refine ⟨trivial, ((callsIn_wide.2 (day_c C1.out hwt HWT.out HPW4.out)).inRound L).mono ?_⟩
      rintro e w6 ⟨v2, am2, rfl, cn2⟩
      have C2 := Lib.hid cn2
      clear cn2
      gi_wp2_with fail
      refine ⟨trivial, ((callsIn_wide.2 (day_c C2.out hwt HWT.out HPW4.out)).inRound L).mono ?_⟩
      rintro e w7 ⟨v3, am3, rfl, cn3⟩
      have C3 := Lib.hid cn3
      have hbX : Below W.heap.size W w7 := HB4.out.trans (cn3.below.mono hgl)
      have PBX := Lib.hid (HPB0.out.on hbX)
      have f0 := PBX.out.fr 0
      have f1 := PBX.out.fr 1
      have f2 := PBX.out.fr 2
      obtain ⟨m0, m1, m2, m3, m4, m5, m6⟩ := PBX.out.cells
      obtain ⟨Y, hY⟩ : ∃ Y, Y = (((w7.setCell ⟨w.heap.size + 2, 0, none⟩ (.int .i64 v1)).setCell ⟨w.heap.size + 2, 1, none⟩ (.int .i64 v2)).setCell ⟨w.heap.size + 2, 2, none⟩ (.int .i64 v3)) := ⟨_, rfl⟩
      have PBY : Hid (PB w { s with id := v1, fr := v2, to_ := v3 } A c A2 c2 Y) := Lib.hid (by rw [hY]; exact PBX.out.nums ((set_at (set_at (set_at (PBX.out.box)))).trans rfl) (fun k hk => by rw [Below.heap_setCell _ _ _ _ hk, Below.heap_setCell _ _ _ _ hk, Below.heap_setCell _ _ _ _ hk]) (by simp) ((((Below.refl _ _).setCell (by simp) _).setCell (by simp) _).setCell (by simp) _) rfl rfl)
      have yq := cn3.wd.cells.2.1
      have HRN : Hid (Rnd w W Y) := Lib.hid (by rw [hY]; exact ((((Rnd.of_below hbX).trans (Rnd.set _ _ _ _)).trans (Rnd.set _ _ _ _)).trans (Rnd.set _ _ _ _)))
      have HY := Lib.hid hY
      clear cn3 hY hbX
      cases am3
      · gi_wp2_with fail
        rw [← HY.out]
        exact end_ok _ HRN.out HPB0.out PBY.out (.step HRS.out (by rw [← HWS.out]; exact (lineW_st (HHD.out.symm.trans Hst.out)).2 ⟨v1, v2, v3, C3.out.yes rfl, rfl⟩))
      · obtain ⟨y0, y1, y2, y3, y4, y5, y6, y7⟩ := PBX.out.zero2
        obtain ⟨z0, z1, z2, z3, z4, z5, z6, z7⟩ := PBX.out.fr2
        gi_wp2_with fail
        rw [← HY.out]
        exact end_bad _ HRN.out HPB0.out PBY.out HRS.out HLO.out (fun ⟨s', hl⟩ => by
          rw [← HWS.out] at hl
          obtain ⟨a, b, c, hk, _⟩ := (lineW_st (HHD.out.symm.trans Hst.out)).1 hl
          have := C3.out.no ⟨_, hk⟩
          cases this)
    · have b0 : (h.toList == [115, 116, 97, 116, 101, 109, 101, 110, 116]) = false := by
        rw [beq_eq_false_iff_ne, ByteArray.toList_eq]
        intro hh
        exact hst (ByteArray.ext (Array.toList_inj.1 hh))
      have Hst := Lib.hid hst
      clear hst
      by_cases hop : h = opB
      · have b1 : (h.toList == [111, 112, 101, 110, 105, 110, 103]) = true := by rw [hop, ByteArray.toList_eq]; rfl
        have Hop := Lib.hid hop
        clear hop
        gi_wp2_with fail
        rw [← HW2.out, ← HG.out]
        refine ⟨trivial, ((callsIn_wide.2 (next_any g ws false W2 (by omega) HWD2.out)).inRound L).mono ?_⟩
        rintro e w4 ⟨rfl, hw4, hb4⟩
        have C0 : Hid (Chn g ws.tail [] [] false w4 w4) := Lib.hid (Chn.nil (by
          cases ws with
          | nil => exact absurd hwn (by simp)
          | cons a r => exact hw4))
        have HB4 := Lib.hid (HB2.out.trans (hb4.mono hgl))
        have HPW4 : Hid (∀ X, Below g w4 X → PW X) := Lib.hid (fun X hX => HPWg.out X (hb4.trans hX))
        have hwt : ws.tail.length ≤ 1000000 := by rw [List.length_tail]; omega
        have HWT : Hid (∀ y ∈ ws.tail, y.size ≤ 1000000) := Lib.hid (fun y hy => HWZ.out y (List.mem_of_mem_tail hy))
        clear hw4 hb4 hc0
        gi_wp2_with fail
        refine ⟨trivial, ((callsIn_wide.2 (amount_c C0.out hwt HWT.out HPW4.out)).inRound L).mono ?_⟩
        rintro e w5 ⟨v1, am1, rfl, cn1⟩
        have C1 := Lib.hid cn1
        clear cn1
        gi_wp2_with fail
        refine ⟨trivial, ((callsIn_wide.2 (amount_c C1.out hwt HWT.out HPW4.out)).inRound L).mono ?_⟩
        rintro e w6 ⟨v2, am2, rfl, cn2⟩
        have C2 := Lib.hid cn2
        have hbX : Below W.heap.size W w6 := HB4.out.trans (cn2.below.mono hgl)
        have PBX := Lib.hid (HPB0.out.on hbX)
        have f3 := PBX.out.fr 3
        have f4 := PBX.out.fr 4
        obtain ⟨m0, m1, m2, m3, m4, m5, m6⟩ := PBX.out.cells
        obtain ⟨Y, hY⟩ : ∃ Y, Y = ((w6.setCell ⟨w.heap.size + 2, 3, none⟩ (.int .i64 v1)).setCell ⟨w.heap.size + 2, 4, none⟩ (.int .i64 v2)) := ⟨_, rfl⟩
        have PBY : Hid (PB w { s with owed := v1, credit := v2 } A c A2 c2 Y) := Lib.hid (by rw [hY]; exact PBX.out.nums ((set_at (set_at (PBX.out.box))).trans rfl) (fun k hk => by rw [Below.heap_setCell _ _ _ _ hk, Below.heap_setCell _ _ _ _ hk]) (by simp) (((Below.refl _ _).setCell (by simp) _).setCell (by simp) _) rfl rfl)
        have yq := cn2.wd.cells.2.1
        have HRN : Hid (Rnd w W Y) := Lib.hid (by rw [hY]; exact (((Rnd.of_below hbX).trans (Rnd.set _ _ _ _)).trans (Rnd.set _ _ _ _)))
        have HY := Lib.hid hY
        clear cn2 hY hbX
        cases am2
        · gi_wp2_with fail
          rw [← HY.out]
          exact end_ok _ HRN.out HPB0.out PBY.out (.step HRS.out (by rw [← HWS.out]; exact (lineW_op (fun e => Hst.out (HHD.out.trans e)) (HHD.out.symm.trans Hop.out)).2 ⟨v1, v2, C2.out.yes rfl, rfl⟩))
        · obtain ⟨y0, y1, y2, y3, y4, y5, y6, y7⟩ := PBX.out.zero2
          obtain ⟨z0, z1, z2, z3, z4, z5, z6, z7⟩ := PBX.out.fr2
          gi_wp2_with fail
          rw [← HY.out]
          exact end_bad _ HRN.out HPB0.out PBY.out HRS.out HLO.out (fun ⟨s', hl⟩ => by
            rw [← HWS.out] at hl
            obtain ⟨a, b, hk, _⟩ := (lineW_op (fun e => Hst.out (HHD.out.trans e)) (HHD.out.symm.trans Hop.out)).1 hl
            have := C2.out.no ⟨_, hk⟩
            cases this)
      · have b1 : (h.toList == [111, 112, 101, 110, 105, 110, 103]) = false := by
          rw [beq_eq_false_iff_ne, ByteArray.toList_eq]
          intro hh
          exact hop (ByteArray.ext (Array.toList_inj.1 hh))
        have Hop := Lib.hid hop
        clear hop
        by_cases hcl : h = clB
        · have b2 : (h.toList == [99, 108, 111, 115, 105, 110, 103]) = true := by rw [hcl, ByteArray.toList_eq]; rfl
          have Hcl := Lib.hid hcl
          clear hcl
          have y4 := (HWD2.out.cells).2.1
          rw [HW2.out] at y4
          have yq : (W1.alloc (.cells #[.slice (some ⟨W.heap.size, 0, none⟩) ws.length ws.length, .bool false] 71)).cell? ⟨W1.heap.size, 1, none⟩ = some (.bool false) := by rw [← HG.out]; exact y4
          clear y4
          gi_wp2_with fail
          rw [← HW2.out]
          exact end_ok _ (Rnd.of_below HB2.out) HPB0.out HPB2.out (.step HRS.out (by rw [← HWS.out]; exact (lineW_cl (fun e => Hst.out (HHD.out.trans e)) (fun e => Hop.out (HHD.out.trans e)) (HHD.out.symm.trans Hcl.out)).2 rfl))
        · have b2 : (h.toList == [99, 108, 111, 115, 105, 110, 103]) = false := by
            rw [beq_eq_false_iff_ne, ByteArray.toList_eq]
            intro hh
            exact hcl (ByteArray.ext (Array.toList_inj.1 hh))
          have Hcl := Lib.hid hcl
          clear hcl
          by_cases hdu : h = duB
          · have b3 : (h.toList == [100, 117, 101]) = true := by rw [hdu, ByteArray.toList_eq]; rfl
            have Hdu := Lib.hid hdu
            clear hdu
            gi_wp2_with fail
            rw [← HW2.out, ← HG.out]
            refine ⟨trivial, ((callsIn_wide.2 (next_any g ws false W2 (by omega) HWD2.out)).inRound L).mono ?_⟩
            rintro e w4 ⟨rfl, hw4, hb4⟩
            have C0 : Hid (Chn g ws.tail [] [] false w4 w4) := Lib.hid (Chn.nil (by
              cases ws with
              | nil => exact absurd hwn (by simp)
              | cons a r => exact hw4))
            have HB4 := Lib.hid (HB2.out.trans (hb4.mono hgl))
            have HPW4 : Hid (∀ X, Below g w4 X → PW X) := Lib.hid (fun X hX => HPWg.out X (hb4.trans hX))
            have hwt : ws.tail.length ≤ 1000000 := by rw [List.length_tail]; omega
            have HWT : Hid (∀ y ∈ ws.tail, y.size ≤ 1000000) := Lib.hid (fun y hy => HWZ.out y (List.mem_of_mem_tail hy))
            clear hw4 hb4 hc0
            gi_wp2_with fail
            have C0d := Lib.hid C0.out.drew
            have HSB : Hid (∀ X, Below W.heap.size W X → X.cell? ⟨w.heap.size + 2, 6, none⟩ = some (.slice A2 s.m.length c2)) := Lib.hid (fun X hX => (HPB0.out.on hX).cells.2.2.2.2.2.2)
            have HS0 := HSB.out w4.drew HB4.out.drew
            refine wpIn_region_E (S := fun X => X.cell? ⟨w.heap.size + 2, 6, none⟩ = some (.slice A2 s.m.length c2)) 14 (fun _ _ h => h) (noDefer_spec (by kernel_rfl)) (by kernel_rfl) ?_
            refine wpAnyE_take (i := 0) (v := ?_) rfl (by kernel_rfl) (by kernel_rfl) (by kernel_rfl) (by kernel_rfl) (fun _ _ _ h => h) (Or.inl ⟨by rfl, ?_⟩) HS0 ?_
            rotate_left
            · (intro wy hSw; go_simp; try with_reducible rfl)
            try simp only [Act.put, List.setIfInBounds_toArray]
            refine wpAnyE_take (i := 1) (v := ?_) rfl (by kernel_rfl) (by kernel_rfl) (by kernel_rfl) (by kernel_rfl) (fun _ _ _ h => h) (Or.inl ⟨by rfl, ?_⟩) HS0 ?_
            rotate_left
            · (intro wy hSw; go_simp; try with_reducible rfl)
            try simp only [Act.put]
            refine wpAnyE_take (i := 2) (v := ?_) rfl (by kernel_rfl) (by kernel_rfl) (by kernel_rfl) (by kernel_rfl) (fun _ _ _ h => h) (Or.inl ⟨by rfl, ?_⟩) HS0 ?_
            rotate_left
            · (intro wy hSw; go_simp; try with_reducible rfl)
            try simp only [Act.put]
            refine wpAnyE_take (i := 4) (v := ?_) rfl (by kernel_rfl) (by kernel_rfl) (by kernel_rfl) (by kernel_rfl) (fun _ _ _ h => h) (Or.inl ⟨by rfl, ?_⟩) HS0 ?_
            rotate_left
            · (intro wy hSw; go_simp; try with_reducible rfl)
            try simp only [Act.put]
            refine wpAnyE_take (i := 6) (v := ?_) rfl (by kernel_rfl) (by kernel_rfl) (by kernel_rfl) (by kernel_rfl) (fun _ _ _ h => h) (Or.inl ⟨by rfl, ?_⟩) HS0 ?_
            rotate_left
            · (intro wy hSw; go_simp; try with_reducible rfl)
            try simp only [Act.put]
            refine wpAnyE_take (i := 8) (v := ?_) rfl (by kernel_rfl) (by kernel_rfl) (by kernel_rfl) (by kernel_rfl) (fun _ _ _ h => h) (Or.inl ⟨by rfl, ?_⟩) HS0 ?_
            rotate_left
            · (intro wy hSw; go_simp; try with_reducible rfl)
            try simp only [Act.put]
            refine wpAnyE_one (i := 3) (by kernel_rfl) rfl (fun K hK => ?_)
            go_simp
            refine (day_c C0d.out hwt HWT.out HPW4.out).mono ?_
            rintro e w5 ⟨v1, am1, rfl, cn1⟩
            have HS1 := HSB.out w5 (HB4.out.trans (cn1.below.mono hgl))
            have C1 := Lib.hid cn1
            refine hK _ _ HS1 ?_
            clear hK K HS0 cn1
            refine wpAnyE_one (i := 5) (by kernel_rfl) rfl (fun K hK => ?_)
            go_simp
            refine (item_c C1.out hwt).mono ?_
            rintro e w6 ⟨v2, am2, rfl, cn2⟩
            have HS2 := HSB.out w6 (HB4.out.trans (cn2.below.mono hgl))
            have C2 := Lib.hid cn2
            refine hK _ _ HS2 ?_
            clear hK K HS1 cn2
            refine wpAnyE_one (i := 7) (by kernel_rfl) rfl (fun K hK => ?_)
            go_simp
            refine (number_c C2.out hwt HWT.out HPW4.out).mono ?_
            rintro e w7 ⟨v3, am3, rfl, cn3⟩
            have HS3 := HSB.out w7 (HB4.out.trans (cn3.below.mono hgl))
            have C3 := Lib.hid cn3
            refine hK _ _ HS3 ?_
            clear hK K HS2 cn3
            refine wpAnyE_one (i := 9) (by kernel_rfl) rfl (fun K hK => ?_)
            go_simp
            refine (amount_c C3.out hwt HWT.out HPW4.out).mono ?_
            rintro e w8 ⟨v4, am4, rfl, cn4⟩
            have HS4 := HSB.out w8 (HB4.out.trans (cn4.below.mono hgl))
            have C4 := Lib.hid cn4
            refine hK _ _ HS4 ?_
            clear hK K HS3
            have hbX : Below W.heap.size W w8 := HB4.out.trans (cn4.below.mono hgl)
            have PBX := Lib.hid (HPB0.out.on hbX)
            have HBX7 := Lib.hid hbX
            refine wpAnyE_one (i := 10) (by kernel_rfl) rfl (fun K hK => ?_)
            go_simp
            refine hK _ _ HS4 ?_
            clear hK K
            refine wpAnyE_one (i := 11) (by kernel_rfl) rfl (fun K hK => ?_)
            go_simp
            obtain ⟨XR, hXR⟩ : ∃ XR, XR = w8.alloc (.cells #[.int .i64 v1, .int .i64 v2, .int .i64 v3, .int .i64 v4] 53) := ⟨_, rfl⟩
            have hbR : Below W.heap.size W XR := by rw [hXR]; exact hbX.alloc hbX.size _
            have PBR := Lib.hid (HPB0.out.on hbR)
            have HBR := Lib.hid hbR
            have HRR := Lib.hid (show RdS It.cells 4 XR (w8.heap.size + 1) (some ⟨w8.heap.size, 0, none⟩) [⟨v1, v2, v3, v4⟩] by rw [hXR]; exact it_new w8 ⟨v1, v2, v3, v4⟩)
            have HWR : Hid (XR.heap[g]? = w8.heap[g]?) := Lib.hid (by rw [hXR]; exact heap_alloc_old _ _ cn4.wd.lt)
            have hzr : w8.heap.size + 1 ≤ XR.heap.size := by rw [hXR]; simp
            have hltX : w.heap.size + 3 < XR.heap.size := PBR.out.lt
            have HXE := Lib.hid hXR
            rw [← hXR]
            refine hK _ _ (HSB.out XR hbR) ?_
            clear hK K hXR hbX hbR cn4 HS4
            refine wpAnyE_one (i := 12) (by kernel_rfl) rfl (fun K hK => ?_)
            have hlen : s.m.length ≤ 100000 := by have h1 := HRS.out.len; omega
            refine step_append_sd XR (by rfl) (some 80) (by rfl) (.tmp 69) (.tmp 79) itT (by rfl) (w.heap.size + 4) A2 c2 s.m rfl PBR.out.oi (w8.heap.size + 1) (some ⟨w8.heap.size, 0, none⟩) 1 1 [⟨v1, v2, v3, v4⟩] rfl rfl HRR.out (by simp only [List.length_cons, List.length_nil]; omega) (by unfold maxLen; simp only [List.length_cons, List.length_nil]; omega) (by omega) ?_
            intro A' c' LL w9 hLL hoL hgL hatL
            have low9 : ∀ k, k < w.heap.size + 4 → w9.heap[k]? = XR.heap[k]? := fun k hk => hgL.block k (by omega) (fun e => by have := (PBR.out.oi.blk_ge k e.symm).1; omega)
            have hb9 := (low9 _ (by omega)).trans PBR.out.box
            have n9 : w9.cell? ⟨w.heap.size + 2, 6, none⟩ = some (.slice A2 s.m.length c2) := (cell_of_row w9 (w.heap.size + 2) 6 _ _ (0, 0) hb9).trans rfl
            have f9 := frozen_of_row w9 (w.heap.size + 2) 6 _ _ hb9
            obtain ⟨Y, hY⟩ : ∃ Y, Y = w9.setCell ⟨w.heap.size + 2, 6, none⟩ (.slice A' LL.length c') := ⟨_, rfl⟩
            have PBY : Hid (PB w { s with m := s.m ++ [⟨v1, v2, v3, v4⟩] } A c A' c' Y) := Lib.hid (by rw [hY, hLL]; rw [hLL] at hoL; exact PBR.out.item hoL hgL)
            have hR9 : Rnd w XR w9 := Rnd.row (.inr rfl) PBR.out.oi hgL
            have HRN : Hid (Rnd w W Y) := Lib.hid (by rw [hY]; exact ((Rnd.of_below HBR.out).trans hR9).trans (Rnd.set _ _ _ _))
            have yq : Y.cell? ⟨g, 1, none⟩ = some (.bool am4) := by
              obtain ⟨Aw, hw1, _⟩ := C4.out.wd.box
              have h1 := hR9.keep g _ (HWR.out.trans hw1) hne (fun cs T fr e => by injection e with _ e _; subst e; exact ⟨by decide, by decide⟩)
              have h2 : Y.heap[g]? = w9.heap[g]? := by rw [hY]; exact Below.heap_setCell _ _ _ _ hne
              rw [cell_of_row Y g 1 _ _ (0, 0) (h2.trans h1)]
              rfl
            refine hK _ _ n9 ?_
            clear hK K hLL hoL hgL hatL low9 hb9 hR9
            refine wpAnyE_one (i := 13) (by kernel_rfl) rfl (fun K hK => ?_)
            go_simp
            refine hK _ _ n9 ?_
            clear hK K
            refine wpAnyE_last (by kernel_rfl) (by kernel_rfl) rfl (fun K hK => ?_)
            go_simp
            refine hK _ _ ?_
            clear hK K
            rw [← hY]
            clear hY n9 f9
            obtain ⟨y0, y1, y2, y3, y4, y5, y6, y7⟩ := PBY.out.zero2
            obtain ⟨z0, z1, z2, z3, z4, z5, z6, z7⟩ := PBY.out.fr2
            cases am4
            · gi_wp2_with fail
              exact end_ok _ HRN.out HPB0.out PBY.out (.step HRS.out (by rw [← HWS.out]; exact (lineW_du (fun e => Hst.out (HHD.out.trans e)) (fun e => Hop.out (HHD.out.trans e)) (fun e => Hcl.out (HHD.out.trans e)) (HHD.out.symm.trans Hdu.out)).2 ⟨v1, v2, v3, v4, C4.out.yes rfl, rfl⟩))
            · gi_wp2_with fail
              exact end_bad _ HRN.out HPB0.out PBY.out HRS.out HLO.out (fun ⟨s', hl⟩ => by
                rw [← HWS.out] at hl
                obtain ⟨a, b, c, d, hk, _⟩ := (lineW_du (fun e => Hst.out (HHD.out.trans e)) (fun e => Hop.out (HHD.out.trans e)) (fun e => Hcl.out (HHD.out.trans e)) (HHD.out.symm.trans Hdu.out)).1 hl
                have := C4.out.no ⟨_, hk⟩
                cases this)
          · have b3 : (h.toList == [100, 117, 101]) = false := by
              rw [beq_eq_false_iff_ne, ByteArray.toList_eq]
              intro hh
              exact hdu (ByteArray.ext (Array.toList_inj.1 hh))
            have Hdu := Lib.hid hdu
            clear hdu
            gi_wp2_with fail
            rw [← HW2.out, ← HG.out]
            have C0 : Hid (Chn g ws [] [] false W2 W2) := Lib.hid (Chn.nil HWD2.out)
            have HB4 := Lib.hid HB2.out
            have HPW4 := Lib.hid HPWg.out
            have hwt : ws.length ≤ 1000000 := by omega
            have HWT := Lib.hid HWZ.out
            clear hc0
            have C0d := Lib.hid C0.out.drew
            have HSB : Hid (∀ X, Below W.heap.size W X → X.cell? ⟨w.heap.size + 2, 5, none⟩ = some (.slice A s.l.length c)) := Lib.hid (fun X hX => (HPB0.out.on hX).cells.2.2.2.2.2.1)
            have HS0 := HSB.out W2.drew HB4.out.drew
            refine wpIn_region_E (S := fun X => X.cell? ⟨w.heap.size + 2, 5, none⟩ = some (.slice A s.l.length c)) 16 (fun _ _ h => h) (noDefer_spec (by kernel_rfl)) (by kernel_rfl) ?_
            refine wpAnyE_take (i := 0) (v := ?_) rfl (by kernel_rfl) (by kernel_rfl) (by kernel_rfl) (by kernel_rfl) (fun _ _ _ h => h) (Or.inl ⟨by rfl, ?_⟩) HS0 ?_
            rotate_left
            · (intro wy hSw; go_simp; try with_reducible rfl)
            try simp only [Act.put, List.setIfInBounds_toArray]
            refine wpAnyE_take (i := 1) (v := ?_) rfl (by kernel_rfl) (by kernel_rfl) (by kernel_rfl) (by kernel_rfl) (fun _ _ _ h => h) (Or.inl ⟨by rfl, ?_⟩) HS0 ?_
            rotate_left
            · (intro wy hSw; go_simp; try with_reducible rfl)
            try simp only [Act.put]
            refine wpAnyE_take (i := 2) (v := ?_) rfl (by kernel_rfl) (by kernel_rfl) (by kernel_rfl) (by kernel_rfl) (fun _ _ _ h => h) (Or.inl ⟨by rfl, ?_⟩) HS0 ?_
            rotate_left
            · (intro wy hSw; go_simp; try with_reducible rfl)
            try simp only [Act.put]
            refine wpAnyE_take (i := 4) (v := ?_) rfl (by kernel_rfl) (by kernel_rfl) (by kernel_rfl) (by kernel_rfl) (fun _ _ _ h => h) (Or.inl ⟨by rfl, ?_⟩) HS0 ?_
            rotate_left
            · (intro wy hSw; go_simp; try with_reducible rfl)
            try simp only [Act.put]
            refine wpAnyE_take (i := 6) (v := ?_) rfl (by kernel_rfl) (by kernel_rfl) (by kernel_rfl) (by kernel_rfl) (fun _ _ _ h => h) (Or.inl ⟨by rfl, ?_⟩) HS0 ?_
            rotate_left
            · (intro wy hSw; go_simp; try with_reducible rfl)
            try simp only [Act.put]
            refine wpAnyE_take (i := 8) (v := ?_) rfl (by kernel_rfl) (by kernel_rfl) (by kernel_rfl) (by kernel_rfl) (fun _ _ _ h => h) (Or.inl ⟨by rfl, ?_⟩) HS0 ?_
            rotate_left
            · (intro wy hSw; go_simp; try with_reducible rfl)
            try simp only [Act.put]
            refine wpAnyE_take (i := 10) (v := ?_) rfl (by kernel_rfl) (by kernel_rfl) (by kernel_rfl) (by kernel_rfl) (fun _ _ _ h => h) (Or.inl ⟨by rfl, ?_⟩) HS0 ?_
            rotate_left
            · (intro wy hSw; go_simp; try with_reducible rfl)
            try simp only [Act.put]
            refine wpAnyE_one (i := 3) (by kernel_rfl) rfl (fun K hK => ?_)
            go_simp
            refine (day_c C0d.out hwt HWT.out HPW4.out).mono ?_
            rintro e w5 ⟨v1, am1, rfl, cn1⟩
            have HS1 := HSB.out w5 (HB4.out.trans (cn1.below.mono hgl))
            have C1 := Lib.hid cn1
            refine hK _ _ HS1 ?_
            clear hK K HS0 cn1
            refine wpAnyE_one (i := 5) (by kernel_rfl) rfl (fun K hK => ?_)
            go_simp
            refine (line_c C1.out hwt).mono ?_
            rintro e w6 ⟨v2, am2, rfl, cn2⟩
            have HS2 := HSB.out w6 (HB4.out.trans (cn2.below.mono hgl))
            have C2 := Lib.hid cn2
            refine hK _ _ HS2 ?_
            clear hK K HS1 cn2
            refine wpAnyE_one (i := 7) (by kernel_rfl) rfl (fun K hK => ?_)
            go_simp
            refine (number_c C2.out hwt HWT.out HPW4.out).mono ?_
            rintro e w7 ⟨v3, am3, rfl, cn3⟩
            have HS3 := HSB.out w7 (HB4.out.trans (cn3.below.mono hgl))
            have C3 := Lib.hid cn3
            refine hK _ _ HS3 ?_
            clear hK K HS2 cn3
            refine wpAnyE_one (i := 9) (by kernel_rfl) rfl (fun K hK => ?_)
            go_simp
            refine (amount_c C3.out hwt HWT.out HPW4.out).mono ?_
            rintro e w8 ⟨v4, am4, rfl, cn4⟩
            have HS4 := HSB.out w8 (HB4.out.trans (cn4.below.mono hgl))
            have C4 := Lib.hid cn4
            refine hK _ _ HS4 ?_
            clear hK K HS3 cn4
            refine wpAnyE_one (i := 11) (by kernel_rfl) rfl (fun K hK => ?_)
            go_simp
            refine (amount_c C4.out hwt HWT.out HPW4.out).mono ?_
            rintro e w9 ⟨v5, am5, rfl, cn5⟩
            have HS5 := HSB.out w9 (HB4.out.trans (cn5.below.mono hgl))
            have C5 := Lib.hid cn5
            refine hK _ _ HS5 ?_
            clear hK K HS4
            have hbX : Below W.heap.size W w9 := HB4.out.trans (cn5.below.mono hgl)
            have PBX := Lib.hid (HPB0.out.on hbX)
            have HBX7 := Lib.hid hbX
            refine wpAnyE_one (i := 12) (by kernel_rfl) rfl (fun K hK => ?_)
            go_simp
            refine hK _ _ HS5 ?_
            clear hK K
            refine wpAnyE_one (i := 13) (by kernel_rfl) rfl (fun K hK => ?_)
            go_simp
            obtain ⟨XR, hXR⟩ : ∃ XR, XR = w9.alloc (.cells #[.int .i64 v1, .int .i64 v2, .int .i64 v3, .int .i64 v4, .int .i64 v5] 51) := ⟨_, rfl⟩
            have hbR : Below W.heap.size W XR := by rw [hXR]; exact hbX.alloc hbX.size _
            have PBR := Lib.hid (HPB0.out.on hbR)
            have HBR := Lib.hid hbR
            have HRR := Lib.hid (show RdS Ln.cells 5 XR (w9.heap.size + 1) (some ⟨w9.heap.size, 0, none⟩) [⟨v1, v2, v3, v4, v5⟩] by rw [hXR]; exact ln_new w9 ⟨v1, v2, v3, v4, v5⟩)
            have HWR : Hid (XR.heap[g]? = w9.heap[g]?) := Lib.hid (by rw [hXR]; exact heap_alloc_old _ _ cn5.wd.lt)
            have hzr : w9.heap.size + 1 ≤ XR.heap.size := by rw [hXR]; simp
            have hltX : w.heap.size + 3 < XR.heap.size := PBR.out.lt
            have HXE := Lib.hid hXR
            rw [← hXR]
            refine hK _ _ (HSB.out XR hbR) ?_
            clear hK K hXR hbX hbR cn5 HS5
            refine wpAnyE_one (i := 14) (by kernel_rfl) rfl (fun K hK => ?_)
            have hlen : s.l.length ≤ 100000 := by have h1 := HRS.out.len; omega
            refine step_append_sd XR (by rfl) (some 37) (by rfl) (.tmp 24) (.tmp 36) lnT (by rfl) (w.heap.size + 4) A c s.l rfl PBR.out.ol (w9.heap.size + 1) (some ⟨w9.heap.size, 0, none⟩) 1 1 [⟨v1, v2, v3, v4, v5⟩] rfl rfl HRR.out (by simp only [List.length_cons, List.length_nil]; omega) (by unfold maxLen; simp only [List.length_cons, List.length_nil]; omega) (by omega) ?_
            intro A' c' LL w9 hLL hoL hgL hatL
            have low9 : ∀ k, k < w.heap.size + 4 → w9.heap[k]? = XR.heap[k]? := fun k hk => hgL.block k (by omega) (fun e => by have := (PBR.out.ol.blk_ge k e.symm).1; omega)
            have hb9 := (low9 _ (by omega)).trans PBR.out.box
            have n9 : w9.cell? ⟨w.heap.size + 2, 5, none⟩ = some (.slice A s.l.length c) := (cell_of_row w9 (w.heap.size + 2) 5 _ _ (0, 0) hb9).trans rfl
            have f9 := frozen_of_row w9 (w.heap.size + 2) 5 _ _ hb9
            obtain ⟨Y, hY⟩ : ∃ Y, Y = w9.setCell ⟨w.heap.size + 2, 5, none⟩ (.slice A' LL.length c') := ⟨_, rfl⟩
            have PBY : Hid (PB w { s with l := s.l ++ [⟨v1, v2, v3, v4, v5⟩] } A' c' A2 c2 Y) := Lib.hid (by rw [hY, hLL]; rw [hLL] at hoL; exact PBR.out.line hoL hgL)
            have hR9 : Rnd w XR w9 := Rnd.row (.inl rfl) PBR.out.ol hgL
            have HRN : Hid (Rnd w W Y) := Lib.hid (by rw [hY]; exact ((Rnd.of_below HBR.out).trans hR9).trans (Rnd.set _ _ _ _))
            have yq : Y.cell? ⟨g, 1, none⟩ = some (.bool am5) := by
              obtain ⟨Aw, hw1, _⟩ := C5.out.wd.box
              have h1 := hR9.keep g _ (HWR.out.trans hw1) hne (fun cs T fr e => by injection e with _ e _; subst e; exact ⟨by decide, by decide⟩)
              have h2 : Y.heap[g]? = w9.heap[g]? := by rw [hY]; exact Below.heap_setCell _ _ _ _ hne
              rw [cell_of_row Y g 1 _ _ (0, 0) (h2.trans h1)]
              rfl
            refine hK _ _ n9 ?_
            clear hK K hLL hoL hgL hatL low9 hb9 hR9
            refine wpAnyE_one (i := 15) (by kernel_rfl) rfl (fun K hK => ?_)
            go_simp
            refine hK _ _ n9 ?_
            clear hK K
            refine wpAnyE_last (by kernel_rfl) (by kernel_rfl) rfl (fun K hK => ?_)
            go_simp
            refine hK _ _ ?_
            clear hK K
            rw [← hY]
            clear hY n9 f9
            obtain ⟨y0, y1, y2, y3, y4, y5, y6, y7⟩ := PBY.out.zero2
            obtain ⟨z0, z1, z2, z3, z4, z5, z6, z7⟩ := PBY.out.fr2
            cases am5
            · gi_wp2_with fail
              exact end_ok _ HRN.out HPB0.out PBY.out (.step HRS.out (by rw [← HWS.out]; exact (lineW_ln (fun e => Hst.out (HHD.out.trans e)) (fun e => Hop.out (HHD.out.trans e)) (fun e => Hcl.out (HHD.out.trans e)) (fun e => Hdu.out (HHD.out.trans e))).2 ⟨v1, v2, v3, v4, v5, C5.out.yes rfl, rfl⟩))
            · gi_wp2_with fail
              exact end_bad _ HRN.out HPB0.out PBY.out HRS.out HLO.out (fun ⟨s', hl⟩ => by
                rw [← HWS.out] at hl
                obtain ⟨a, b, c, d, e, hk, _⟩ := (lineW_ln (fun e => Hst.out (HHD.out.trans e)) (fun e => Hop.out (HHD.out.trans e)) (fun e => Hcl.out (HHD.out.trans e)) (fun e => Hdu.out (HHD.out.trans e))).1 hl
                have := C5.out.no ⟨_, hk⟩
                cases this)
  case done =>
    rintro D xs W hD hxs hi hk
    obtain ⟨s, A, c, A2, c2, hrs, hpb⟩ := hi
    obtain ⟨m0, m1, m2, m3, m4, m5, m6⟩ := hpb.cells
    obtain ⟨S, E, hV, hE⟩ := printS_form f s
    have hxl := hxs.size.1
    have hsl := hrs.len
    have hDz : D < W.heap.size := (Array.getElem?_eq_some_iff.1 hk).1
    have KP : Hid (Calls Tryz.prog 7 #[.agg #[.int .i64 s.id, .int .i64 s.fr, .int .i64 s.to_, .int .i64 s.owed, .int .i64 s.credit, .slice A s.l.length c, .slice A2 s.m.length c2]] W fun e w' => e = .returned (.tuple #[.string S, .int .i64 E]) ∧ Below W.heap.size W w') := Lib.hid (by
      have h := print_any f HF.out s.id s.fr s.to_ s.owed s.credit A A2 c c2 s.l s.m W hpb.ol.rd hpb.oi.rd (by omega) (by omega) (HP.out.below hpb.below).tab
      rw [show printV f s.id s.fr s.to_ s.owed s.credit s.l s.m = .tuple #[.string S, .int .i64 E] from hV] at h
      exact h)
    have HPB := Lib.hid hpb
    have HRS := Lib.hid hrs
    have HXS := Lib.hid hxs
    have HV := Lib.hid hV
    have HK := Lib.hid hk
    clear hpb hrs hxs hV hk hxl hsl
    gi_wp2_with fail
    refine ⟨trivial, (callsIn_wide.2 KP.out).mono ?_⟩
    rintro e w1 ⟨rfl, hb1⟩
    have PB1 := Lib.hid (HPB.out.on hb1)
    have HK1 : Hid (w1.heap[D]? = some (.deferred (some []))) := Lib.hid ((hb1.block D hDz).trans HK.out)
    obtain ⟨n0, n1, n2, n3, n4, n5, n6⟩ := PB1.out.cells
    obtain ⟨y0, y1, y2, y3, y4, y5, y6, y7⟩ := PB1.out.zero2
    obtain ⟨z0, z1, z2, z3, z4, z5, z6, z7⟩ := PB1.out.fr2
    have hD4 : w.heap.size + 4 ≤ D := by have := HZL.out; omega
    clear hb1 KP m0 m1 m2 m3 m4 m5 m6
    rcases hE with rfl | rfl
    · by_cases hS : S = t
      · have b1 : (S.toList == t.toList) = true := by rw [hS]; exact beq_self_eq_true _
        have b2 : (S.toList != t.toList) = false := by unfold bne; rw [b1]; rfl
        have HS := Lib.hid hS
        clear hS
        gi_wp2_with fail
        refine leaves_p (w := w) (cs := smtC s A c A2 c2) (E := 0) (A := sst w s A c A2 c2 w1) rfl rfl rfl (sst_boxes PB1.out).1 rfl (sst_boxes PB1.out).2 hD4 ((sst_heap _ _ _ _ _ _ _ _ (by omega) (by omega)).trans HK1.out) (fun W' hb hsh => ?_)
        have kp : ∀ {α : Type} {g : α → List Value} {k : Nat} {T : TypeId} {B : Option Addr} {d : Nat} {ll : List α}, OwnS g k w1 (w.heap.size + 4) T B d ll → RdS g k W' W'.heap.size B ll := fun {α g k T B d ll} ho => by
          have h1 : OwnS g k (sst w s A c A2 c2 w1) (w.heap.size + 4) T B d ll := ho.keep (fun q hq => sst_heap _ _ _ _ _ _ _ _ (by have := (ho.blk_ge q hq).1; omega) (by have := (ho.blk_ge q hq).1; omega))
          exact OwnS.rd (show OwnS g k W' (w.heap.size + 4) T B d ll from hsh.row h1)
        exact ⟨PB1.out.below.trans ((sst_below w w1 s A c A2 c2).trans (hb.mono (by omega))), .inl ⟨xs, s, A, c, A2, c2, HXS.out, HRS.out, by rw [HV.out, HS.out], rfl, kp PB1.out.ol, kp PB1.out.oi⟩⟩
      · have b1 : (S.toList == t.toList) = false := by
          rw [beq_eq_false_iff_ne]
          intro hh
          rw [ByteArray.toList_eq, ByteArray.toList_eq] at hh
          exact hS (ByteArray.ext (Array.toList_inj.1 hh))
        have b2 : (S.toList != t.toList) = true := by unfold bne; rw [b1]; rfl
        have HS := Lib.hid hS
        clear hS
        gi_wp2_with fail
        refine leaves_p (w := w) (cs := zS) (E := 3) (A := zst w w1) rfl rfl rfl (zst_boxes PB1.out).1 rfl (zst_boxes PB1.out).2 hD4 ((zst_heap _ _ _ (by omega) (by omega)).trans HK1.out) (fun W' hb _ => ?_)
        exact ⟨PB1.out.below.trans ((zst_below w w1).trans (hb.mono (by omega))), .inr ⟨rfl, .inr ⟨xs, s, HXS.out, HRS.out, fun e => HS.out (by rw [HV.out] at e; injection e with e; injection e with e; injection e with e _; injection e with e)⟩⟩⟩
    · gi_wp2_with fail
      refine leaves_p (w := w) (cs := zS) (E := 3) (A := zst w w1) rfl rfl rfl (zst_boxes PB1.out).1 rfl (zst_boxes PB1.out).2 hD4 ((zst_heap _ _ _ (by omega) (by omega)).trans HK1.out) (fun W' hb _ => ?_)
      exact ⟨PB1.out.below.trans ((zst_below w w1).trans (hb.mono (by omega))), .inr ⟨rfl, .inr ⟨xs, s, HXS.out, HRS.out, fun e => by rw [HV.out] at e; injection e with e; injection e with e; injection e with _ e; injection e with e; injection e with _ e; cases e⟩⟩⟩
end Go.Proofs.YtlmejpkngnilcaaGreatDoor
