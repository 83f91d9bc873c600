/- Parts of the proof, one behind the other: Arguments opened: slices of bools, of bytes, of steps, of files.; Arguments opened: slices of bytes.; Arguments opened: bytes.; Arguments opened: an edit. -/
import Derived.Test.YtgmnhdkdicgkcaaGreatDoorCards
import Derived.Test.YtgmnhdkdicgkcaaGreatDoorTie
import Derived.Test.YtgmnhdkdicgkcaaGreatDoorOrg09
import Derived.Test.YtgmnhdkdicgkcaaGreatDoorOrg10
import Derived.Test.YtgmnhdkdicgkcaaGreatDoorOrg24
namespace Go.Proofs.YtgmnhdkdicgkcaaGreatDoor
open Go.ChangeShapes Go.WideShapes Go.ChangeAt Go.RowKit
section
open Go.Deep
variable {H : Type} {enc : TypeId × Value → H} {P : Program} {w : World} {base : Nat} {spare : Nat → Bool} {held : Bool}
theorem rows1_of {α : Type} {f : α → Value} (a0 : α) (Q : α → Prop) {t e : TypeId} {fuel : Nat} {v : Value} {y : DataW H × List MemPlace} (ht : P.underlying t = some (.slice e)) (hC : P.cellsOf e = 1)
   (hel : ∀ (c : Value) (m : Nat) (y : DataW H × List MemPlace), DataW.trod enc P w base spare held m e [c] = some y → ∃ a : α, Q a ∧ f a = c)
   (h : DataW.trod enc P w base spare held fuel t [v] = some y) :
   ∃ (A : Option Addr) (l : List α) (c : Nat), v = .slice A l.length c ∧ RdS (fun a => [f a]) 1 w w.heap.size A l ∧ l.length ≤ c ∧ c ≤ maxLen ∧ ∀ a ∈ l, Q a := by
 rcases open_slice ht h with ⟨hcs, _⟩ | ⟨ad, len, cap, m, n', D, Pl, hcs, hb, hl, hm, hmm, hx, hi⟩
 · simp at hcs
   subst hcs
   exact ⟨none, [], 0, rfl, Reads.none_, Nat.le_refl _, by unfold maxLen; omega, by simp⟩
 · simp at hcs
   subst hcs
   have hlm : len ≤ m := by rw [hmm]; split <;> omega
   have hpt : ∀ i, i < len → ∃ a : α, Q a ∧ w.cell? (ad.add i) = some (f a) := by
     intro i hil
     obtain ⟨cs', hc, ht'⟩ := hi i (by omega)
     rw [hC] at hc
     obtain ⟨_, hcl, hat⟩ := World.cells?_some hc
     match cs', hcl with
     | [c], _ =>
       obtain ⟨a, hQ, ha⟩ := hel c n' _ ht'
       have hcell := hat 0 (by omega)
       have e1 : (ad.add (i * 1)).add 0 = ad.add i := by rw [Nat.mul_one]; rfl
       rw [e1] at hcell
       exact ⟨a, hQ, by rw [hcell, ha]; rfl⟩
   let g : Nat → α := fun i => if hil : i < len then Classical.choose (hpt i hil) else a0
   have hg : ∀ i, i < len → Q (g i) ∧ w.cell? (ad.add i) = some (f (g i)) := by
     intro i hil
     have e : g i = Classical.choose (hpt i hil) := by simp only [g]; rw [dif_pos hil]
     rw [e]
     exact Classical.choose_spec (hpt i hil)
   have hll : ((List.range len).map g).length = len := by simp
   refine ⟨some ad, (List.range len).map g, cap, by rw [hll], rdS_of_cells (n := 1) (fun _ => rfl) (by omega) (fun i hil j u hu => ?_), by rw [hll]; exact hl, hm, ?_⟩
   · rw [hll] at hil
     simp only [List.getElem_map, List.getElem_range] at hu
     have hj : j = 0 := by
       rcases Nat.lt_or_ge j 1 with h1 | h1
       · omega
       · rw [List.getElem?_eq_none (by simpa using h1)] at hu; cases hu
     subst hj
     injection hu with hu
     rw [Nat.mul_one, Nat.add_zero, (hg i hil).2, hu]
   · intro a ha
     simp only [List.mem_map, List.mem_range] at ha
     obtain ⟨i, hil, rfl⟩ := ha
     exact (hg i hil).1
end
section
variable {H : Type} {enc : TypeId × Value → H} {W : World} {hd : Bool}
end
section
variable {H : Type} {enc : TypeId × Value → H} {W : World} {hd : Bool}
theorem byts_of {v : Value} {fuel : Nat} {y : DataW H × List MemPlace} (hf : DataW.trod enc Tryz.prog W 0 (fun _ => true) hd fuel 37 [v] = some y) :
   ∃ (A : Option Addr) (l : List UInt8) (c : Nat), v = .slice A l.length c ∧ l.length ≤ c ∧ c ≤ 9223372036854775807 ∧ RdB W W.heap.size A l := by
 have hr : ∃ A len cap zs, v = .slice A len cap ∧ IsRow .u8 W A len cap zs := by
   rcases open_ints Tryz.underlying37 Tryz.underlying5 (by kernel_rfl) hf with ⟨hcs, _⟩ | ⟨x, l, c, zs, hcs, _, hl, hm, hz, _, hcell, hwz⟩
   · simp at hcs
     exact ⟨none, 0, 0, [], hcs, .inl ⟨rfl, rfl, rfl, rfl⟩⟩
   · simp at hcs
     exact ⟨_, _, _, zs, hcs, .inr ⟨_, rfl, hl, hm, by simpa using hz, hcell, hwz⟩⟩
 obtain ⟨A, len, cap, zs, rfl, hr⟩ := hr
 obtain ⟨l, e, h1, h2, h3⟩ := hr.bytes
 subst e
 exact ⟨A, l, cap, rfl, h1, h2, h3⟩
end
section
variable {H : Type} {enc : TypeId × Value → H} {W : World} {hd : Bool}
theorem vfs_of {v : Value} {fuel : Nat} {y : DataW H × List MemPlace} (h : DataW.trod enc Tryz.prog W 0 (fun _ => true) hd fuel 22 [v] = some y) :
   ∃ (A : Option Addr) (l : List Vf) (c : Nat), v = .slice A l.length c ∧ RdV W W.heap.size A l ∧ l.length ≤ 9223372036854775807 ∧ (∀ x ∈ l, x.first.length ≤ 9223372036854775807 ∧ x.last.length ≤ 9223372036854775807) := by
 obtain ⟨A, l, c, hv, hr, h1, h2, hQ⟩ := rows_of (f := Vf.cells) (n := 6) (fun _ => rfl) (by omega) ⟨0, 0, none, 0, [], none, 0, [], 0, 0⟩ (fun x => VfOk W W.heap.size x ∧ x.first.length ≤ 9223372036854775807 ∧ x.last.length ≤ 9223372036854775807) Tryz.underlying22 Tryz.underlying43 (by kernel_rfl) (by kernel_rfl) rfl (fun c m hc => by
   obtain ⟨y0, t0⟩ := hc 0 _ rfl
   obtain ⟨y1, t1⟩ := hc 1 _ rfl
   obtain ⟨y2, t2⟩ := hc 2 _ rfl
   obtain ⟨y3, t3⟩ := hc 3 _ rfl
   obtain ⟨y4, t4⟩ := hc 4 _ rfl
   obtain ⟨y5, t5⟩ := hc 5 _ rfl
   obtain ⟨b0, e0, _, _⟩ := DataW.trod_int Tryz.underlying3 t0
   obtain ⟨b1, e1, _, _⟩ := DataW.trod_int Tryz.underlying3 t1
   obtain ⟨A2, l2, c2, e2, p2, q2, g2⟩ := byts_of t2
   obtain ⟨A3, l3, c3, e3, p3, q3, g3⟩ := byts_of t3
   obtain ⟨b4, e4, _, _⟩ := DataW.trod_int Tryz.underlying3 t4
   obtain ⟨b5, e5, _, _⟩ := DataW.trod_int Tryz.underlying3 t5
   simp at e0 e1 e2 e3 e4 e5
   refine ⟨⟨b0, b1, A2, c2, l2, A3, c3, l3, b4, b5⟩, ⟨⟨g2, g3, p2, p3⟩, Nat.le_trans p2 q2, Nat.le_trans p3 q3⟩, fun j u hu => ?_⟩
   match j, hu with
   | 0, hu => simp [Vf.cells] at hu; rw [← hu, e0]
   | 1, hu => simp [Vf.cells] at hu; rw [← hu, e1]
   | 2, hu => simp [Vf.cells] at hu; rw [← hu, e2]
   | 3, hu => simp [Vf.cells] at hu; rw [← hu, e3]
   | 4, hu => simp [Vf.cells] at hu; rw [← hu, e4]
   | 5, hu => simp [Vf.cells] at hu; rw [← hu, e5]
   | j + 6, hu => simp [Vf.cells] at hu) h
 exact ⟨A, l, c, hv, ⟨hr, fun x hx => (hQ x hx).1⟩, by unfold maxLen at h2; omega, fun x hx => (hQ x hx).2⟩
end
end Go.Proofs.YtgmnhdkdicgkcaaGreatDoor
