/- append of parts; the contract of the program's Parts. -/
import Derived.Test.YtnlmiicbdhomaaaDoorParB
import Derived.Test.YtnlmiicbdhomaaaDoorKeyC
namespace Go.Proofs.YtnlmiicbdhomaaaDoor
open Go.RowKit

def OwnP (w : World) (base : Nat) (A : Option Addr) (c : Nat) (l : List Pt) : Prop := w.ownsRow base 41 3 (.slice A l.length c) l.length (pv l)
section
variable {w w' : World} {base : Nat} {A : Option Addr} {c : Nat} {l : List Pt}
theorem OwnP.rd (h : OwnP w base A c l) : RdP w w.heap.size A l := Reads.of_own h
theorem OwnP.alloc (h : OwnP w base A c l) (o : Obj) : OwnP (w.alloc o) base A c l := World.ownsRow.alloc h o
theorem OwnP.below (h : OwnP w base A c l) (hb : Below w.heap.size w w') : OwnP w' base A c l :=
  World.ownsRow.kept (row := none) h ⟨hb.os, hb.tape, hb.output, hb.size, fun k hk _ => hb.block k hk⟩ (by cases A <;> simp [Value.ownBlock])
theorem OwnP.blk_ge (h : OwnP w base A c l) : ∀ g, blk A = some g → base ≤ g ∧ g < w.heap.size := by
  intro g hg
  refine World.ownsRow.lt h g ?_
  cases A with
  | none => simp [blk] at hg
  | some a => simpa [Value.ownBlock, blk] using hg
theorem OwnP.nil (w : World) (base : Nat) : OwnP w base none 0 [] := World.ownsRow_nil _ _ _ _
end
theorem pv_one (l : List Pt) : ∀ u ∈ pv l, u.oneCell' = true := by
  intro u hu
  simp only [pv, List.mem_flatMap] at hu
  obtain ⟨p, _, hu⟩ := hu
  simp only [Pt.cells, List.mem_cons, List.not_mem_nil, or_false] at hu
  rcases hu with rfl | rfl | rfl <;> rfl
theorem part_info : (Tryd.prog.info? 41).map (fun i => (i.zero, i.size, i.bytes)) = some (some (.agg #[.bool false, .int .u64 0, .string ⟨#[]⟩]), 3, 32) := by kernel_rfl
theorem wpList_append_p (w : World) {ops : Array Oper} {rest : List Oper} {o : Oper} {a : Act} {Q : Exit → Act → World → Prop} (hgd : o.guard = none) (s x : Operand)
    (ho : o.op = .call { callee := .builtin .append, args := #[s, x], argTypes := #[22, 22] })
    (base : Nat) (A : Option Addr) (c : Nat) (l : List Pt) (hs : a.eval s = .slice A l.length c) (hown : OwnP w base A c l)
    (B : Nat) (A2 : Option Addr) (m c2 : Nat) (l2 : List Pt) (hx : a.eval x = .slice A2 m c2) (hm : m = l2.length) (hr : RdP w B A2 l2) (hlen : (l.length + l2.length) * 32 ≤ 140737488355328) (hbase : base ≤ w.heap.size)
    (h : ∀ A' c' L w', L = l ++ l2 → OwnP w' base A' c' L → w.grownBy w' (blk A) → (blk A' = blk A ∨ blk A' = some w.heap.size) → wpList Tryd.prog ops Q rest (a.put o.dst (.slice A' L.length c')) w') : wpList Tryd.prog ops Q (o :: rest) a w :=
  wpList_plain hgd fun K hK => by
    subst hm
    obtain ⟨i, hi, hz0, hz1, hz2⟩ := info_parts part_info
    obtain ⟨v', w', hrun, h2, h3, h4⟩ := run_append_any (P := Tryd.prog) w base 22 o.type 41 i _ 3 32 Tryd.underlying22 hi hz0 hz1 hz2 rfl (by omega) (.slice A l.length c) l.length (pv l) hown B A2 l2.length c2 (pv l2) hr (pv_one l2)
      (by unfold maxLen; omega) hlen hbase
    rw [ownBlock_slice] at h3 h4
    have hv : ∃ A' c', v' = .slice A' (l ++ l2).length c' := by
      rw [List.length_append]
      rcases h2.2 with ⟨hv, hn⟩ | ⟨g, cap, cur, hv, _⟩
      · exact ⟨none, 0, by rw [hv, hn]⟩
      · exact ⟨_, _, hv⟩
    obtain ⟨A', c', rfl⟩ := hv
    rw [ownBlock_slice] at h4
    have h5 : OwnP w' base A' c' (l ++ l2) := by
      unfold OwnP
      rw [pv_append]
      rw [List.length_append] at h2 ⊢
      exact h2
    unfold Oper.wp execOp
    simp only [ho, resolve, invoke, builtin, Sem.run_bind, Sem.run_pure, Result.andThen_ok, List.map_toArray, List.map_cons, List.map_nil, hs, hx, hrun]
    exact hK _ _ (h A' c' _ w' rfl h5 h3 h4)
theorem rdP_one (w : World) (p : Pt) (H : Nat) (hH : w.heap.size = H) : RdP (w.alloc (.cells #[.bool p.t, .int .u64 (p.n : Int), .string p.s] 41)) (w.alloc (.cells #[.bool p.t, .int .u64 (p.n : Int), .string p.s] 41)).heap.size (some ⟨H, 0, none⟩) [p] := by
  subst hH
  refine ⟨by rfl, fun _ => ⟨_, rfl, by simp, fun j u hu => ?_⟩⟩
  have hadd : (⟨w.heap.size, 0, none⟩ : Addr).add j = ⟨w.heap.size, j, none⟩ := by unfold Addr.add; split <;> simp_all
  rw [hadd, cell_of_row _ w.heap.size j _ _ (0, 0) (heap_alloc_new w _)]
  show (pv [p]).toArray[j]? = some u
  simpa using hu
/-- What Parts hands back. -/
def Parted (w : World) (b : List UInt8) (e : Ending) (w' : World) : Prop :=
  Below w.heap.size w w' ∧ ((∃ l, Cod.AllN l ∧ Cod.key l = b ∧ ∃ A c, e = .returned (.tuple #[.slice A l.length c, .int .i64 0]) ∧ RdP w' w'.heap.size A l) ∨
    ((∀ l, Cod.AllN l → Cod.key l ≠ b) ∧ e = .returned (.tuple #[.slice none 0 0, .int .i64 3])))
theorem takenP_out {w w' : World} {B : Nat} {v : Option (Pt × List UInt8)} {e : Ending} (h : TakenP w B v e w') : Below w.heap.size w w' ∧ ((v = none ∧ e = .returned (.tuple #[PtV ⟨false, 0, .empty⟩, .slice none 0 0, .int .i64 3])) ∨
    ∃ p y, v = some (p, y) ∧ ∃ A c, e = .returned (.tuple #[PtV p, .slice A y.length c, .int .i64 0]) ∧ y.length ≤ c ∧ c ≤ 9223372036854775807 ∧ RdB w' B A y) := by
  obtain ⟨hb, h⟩ := h
  cases v with
  | none => exact ⟨hb, .inl ⟨rfl, h⟩⟩
  | some v => exact ⟨hb, .inr ⟨v.1, v.2, rfl, h⟩⟩
end Go.Proofs.YtnlmiicbdhomaaaDoor
