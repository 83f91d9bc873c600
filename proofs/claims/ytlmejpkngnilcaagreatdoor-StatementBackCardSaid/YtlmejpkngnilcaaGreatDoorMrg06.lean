/- Parts of the proof, one behind the other: Arguments opened: a struct of one-cell fields, a slice of such structs; for any type. -/
import Derived.Test.YtlmejpkngnilcaaGreatDoorChecked
import Derived.Test.YtlmejpkngnilcaaGreatDoorMrg02
import Derived.WalkKit
import Derived.ProofKit
import Derived.OpenShut
import Derived.ShutString
import Derived.ChangeOld
import Derived.Below
import Derived.ChangeSame
import Derived.Lib.SmallJoins
import Derived.Deep.DeepHandedRow
import Derived.Deep.Slices
import Derived.Deep.Fields
namespace Go.Proofs.YtlmejpkngnilcaaGreatDoor
open Go.ChangeShapes Go.WideShapes Go.ChangeAt Go.RowKit

section
open Go.Deep
variable {H : Type} {enc : TypeId × Value → H} {P : Program} {w : World} {base : Nat} {spare : Nat → Bool} {held : Bool}
theorem rdS_of_cells {α : Type} {f : α → List Value} {n : Nat} (hf : ∀ a, (f a).length = n) (hn : 0 < n) {l : List α} {ad : Addr} (hc : ∀ i (h : i < l.length) j u, (f l[i])[j]? = some u → w.cell? (ad.add (i * n + j)) = some u) : RdS f n w w.heap.size (some ad) l := by
  refine ⟨fm_len hf l, fun hl => ⟨ad, rfl, ?_, fun t u hu => ?_⟩⟩
  · have hu : (f l[0])[0]? = some ((f l[0])[0]'(by rw [hf]; exact hn)) := List.getElem?_eq_getElem _
    have h0 := hc 0 hl 0 _ hu
    have hb := World.block_lt_of_cell? w _ h0
    rwa [block_of_add] at hb
  · have ht : t < l.length * n := by
      rcases Nat.lt_or_ge t (l.length * n) with h | h
      · exact h
      · rw [List.getElem?_eq_none (by rw [fm_len hf]; exact h)] at hu; cases hu
    have hq : t / n < l.length := Nat.div_lt_of_lt_mul (by rw [Nat.mul_comm]; exact ht)
    have hr : t % n < n := Nat.mod_lt _ hn
    have e : t / n * n + t % n = t := by rw [Nat.mul_comm]; exact Nat.div_add_mod t n
    have h1 := fm_get hf l (t / n) hq (t % n) hr
    rw [e] at h1
    have := hc (t / n) hq (t % n) u (by rw [← h1]; exact hu)
    rw [e] at this
    exact this
theorem open_struct {r : Reach} {b0 : Nat} {t : TypeId} {fs : Array Field} {v : Value} {d : DataW H} {p : List MemPlace} (hs : P.underlying t = some (.struct fs)) (hone : oneCellFields P fs = true) (hC : P.cellsOf t = fs.size)
    (hv : Value.okWide P w r b0 t v) (h : DataW.Trod enc P w base spare held t v d p) :
    ∃ (cs : Array Value) (n : Nat), v = .agg cs ∧ cs.size = fs.size ∧ ∀ (j : Nat) (f : Field), fs[j]? = some f → ∃ u y, cs[j]? = some u ∧ DataW.trod enc P w base spare held n f.type [u] = some y := by
  obtain ⟨cs, rfl, hsz⟩ := okWide_struct hs hv
  obtain ⟨fuel, hf⟩ := h
  obtain ⟨xs, n, _, hx, _, hlen, hg⟩ := DataW.trod_struct hs hf
  refine ⟨cs, n, rfl, hsz.trans hC, fun j f hj => ?_⟩
  obtain ⟨o, k⟩ := hone_of hone j f hj
  have hjl : j < fs.size := (Array.getElem?_eq_some_iff.1 hj).1
  have hjc : j < cs.size := by rw [hsz.trans hC]; exact hjl
  refine ⟨cs[j], ?_⟩
  have h1 := hg j f hj
  rw [o, k] at h1
  have e1 : (((Value.agg cs).cells.toList.drop j).take 1) = [cs[j]] := by
    show ((cs.toList.drop j).take 1) = _
    rw [List.drop_eq_getElem_cons (by simpa using hjc)]
    simp
  rw [e1] at h1
  have hys : xs[j]? = some (xs[j]'(by omega)) := List.getElem?_eq_getElem (by omega)
  exact ⟨_, by simp [hjc], h1.trans hys⟩
theorem rows_of {α : Type} {f : α → List Value} {n : Nat} (hf : ∀ a, (f a).length = n) (hn : 0 < n) (a0 : α) (Q : α → Prop) {t e : TypeId} {fs : Array Field} {fuel : Nat} {v : Value} {y : DataW H × List MemPlace} (ht : P.underlying t = some (.slice e)) (he : P.underlying e = some (.struct fs))
    (hone : oneCellFields P fs = true) (hC : P.cellsOf e = fs.size) (hsz : fs.size = n)
    (hel : ∀ (c : Nat → Value) (m : Nat), (∀ (j : Nat) (fd : Field), fs[j]? = some fd → ∃ y, DataW.trod enc P w base spare held m fd.type [c j] = some y) → ∃ a : α, Q a ∧ ∀ j u, (f a)[j]? = some u → u = c j)
    (h : DataW.trod enc P w base spare held fuel t [v] = some y) :
    ∃ (A : Option Addr) (l : List α) (c : Nat), v = .slice A l.length c ∧ RdS f n w w.heap.size A l ∧ l.length ≤ c ∧ c ≤ maxLen ∧ ∀ a ∈ l, Q a := by
  rcases open_slice ht h with ⟨hcs, _⟩ | ⟨ad, len, cap, m, n', D, Pl, hcs, hb, hl, hm, hmm, hx, hi⟩
  · simp at hcs
    subst hcs
    exact ⟨none, [], 0, rfl, Reads.none_, Nat.le_refl _, by unfold maxLen; omega, by simp⟩
  · simp at hcs
    subst hcs
    have hlm : len ≤ m := by rw [hmm]; split <;> omega
    have hpt : ∀ i, i < len → ∃ a : α, Q a ∧ ∀ j u, (f a)[j]? = some u → w.cell? (ad.add (i * n + j)) = some u := by
      intro i hil
      obtain ⟨cs', hc, ht'⟩ := hi i (by omega)
      rw [hC] at hc
      obtain ⟨ys, n2, _, hy, hlen, hyl, hfd⟩ := DataW.trod_struct he ht'
      obtain ⟨_, hcl, hat⟩ := World.cells?_some hc
      obtain ⟨a, hQ, ha⟩ := hel (fun j => cs'.getD j undef) n2 (fun j fd hj => by
        obtain ⟨o, k⟩ := hone_of hone j fd hj
        have hjl : j < fs.size := (Array.getElem?_eq_some_iff.1 hj).1
        have h1 := hfd j fd hj
        rw [o, k] at h1
        have e1 : (cs'.drop j).take 1 = [cs'[j]'(by omega)] := by rw [List.drop_eq_getElem_cons (by omega)]; rfl
        rw [e1] at h1
        have hys : ys[j]? = some (ys[j]'(by omega)) := List.getElem?_eq_getElem (by omega)
        refine ⟨ys[j]'(by omega), ?_⟩
        show DataW.trod enc P w base spare held n2 fd.type [cs'.getD j undef] = _
        rw [List.getD_eq_getElem?_getD, List.getElem?_eq_getElem (by omega)]
        exact h1.trans hys)
      refine ⟨a, hQ, fun j u hju => ?_⟩
      have hjn : j < n := by
        rcases Nat.lt_or_ge j n with h | h
        · exact h
        · rw [List.getElem?_eq_none (by rw [hf]; exact h)] at hju; cases hju
      have hcell := hat j (by omega)
      rw [hsz] at hcell
      rw [← Go.Deep.add_add, hcell, List.getElem?_eq_getElem (by omega)]
      have := ha j u hju
      rw [List.getD_eq_getElem?_getD, List.getElem?_eq_getElem (by omega)] at this
      exact congrArg some this.symm
    let g : Nat → α := fun i => if hil : i < len then Classical.choose (hpt i hil) else a0
    have hg : ∀ i, i < len → Q (g i) ∧ ∀ j u, (f (g i))[j]? = some u → w.cell? (ad.add (i * n + j)) = some u := by
      intro i hil
      have e : g i = Classical.choose (hpt i hil) := by simp only [g]; rw [dif_pos hil]
      rw [e]
      exact Classical.choose_spec (hpt i hil)
    have hll : ((List.range len).map g).length = len := by simp
    refine ⟨some ad, (List.range len).map g, cap, by rw [hll], rdS_of_cells hf hn (fun i hil j u hu => ?_), by rw [hll]; exact hl, hm, ?_⟩
    · rw [hll] at hil
      simp only [List.getElem_map, List.getElem_range] at hu
      exact (hg i hil).2 j u hu
    · intro a ha
      simp only [List.mem_map, List.mem_range] at ha
      obtain ⟨i, hil, rfl⟩ := ha
      exact (hg i hil).1
end
end Go.Proofs.YtlmejpkngnilcaaGreatDoor
