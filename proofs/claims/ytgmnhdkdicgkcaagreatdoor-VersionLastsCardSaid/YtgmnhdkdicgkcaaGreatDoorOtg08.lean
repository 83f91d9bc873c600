/- Parts of the proof, one behind the other: The contract of the reference's Take.; Frames in a row, in memory; the plain law of Scan. -/
import Derived.Test.YtgmnhdkdicgkcaaGreatDoorOtg06
import Derived.Test.YtgmnhdkdicgkcaaGreatDoorOrg07
import Derived.Deep.RegionHeld
namespace Go.Proofs.YtgmnhdkdicgkcaaGreatDoor
open Go.RowKit
namespace Frm
def flat (l : List (UInt8 × List UInt8)) : List UInt8 := l.flatMap (fun p => put p.1 p.2)
theorem flat_snoc (l : List (UInt8 × List UInt8)) (k : UInt8) (t : List UInt8) : flat (l ++ [(k, t)]) = flat l ++ put k t := by simp [flat]
theorem put_pos (k : UInt8) (t : List UInt8) : 0 < (put k t).length := by unfold put head; simp
theorem flat_len (l : List (UInt8 × List UInt8)) : l.length ≤ (flat l).length := by
 induction l with
 | nil => simp
 | cons p l ih =>
   have := put_pos p.1 p.2
   have e : flat (p :: l) = put p.1 p.2 ++ flat l := by simp [flat]
   rw [e, List.length_append, List.length_cons]; omega
structure Scans (b : List UInt8) (l : List (UInt8 × List UInt8)) (r : List UInt8) : Prop where
 eq : b = flat l ++ r
 fit : ∀ p ∈ l, p.2.length ≤ 65536
theorem Scans.nil (b : List UInt8) : Scans b [] b := ⟨rfl, fun p hp => by cases hp⟩
theorem Scans.step {b r r' t : List UInt8} {k : UInt8} {l : List (UInt8 × List UInt8)} (h : Scans b l r) (ht : take r = some (k, t, r')) : Scans b (l ++ [(k, t)]) r' := by
 obtain ⟨e, hf⟩ := of_take ht
 refine ⟨by rw [h.eq, e, flat_snoc, List.append_assoc], fun p hp => ?_⟩
 simp only [List.mem_append, List.mem_singleton] at hp
 rcases hp with hp | hp
 · exact h.fit p hp
 · rw [hp]; exact hf
theorem Scans.len {b r : List UInt8} {l : List (UInt8 × List UInt8)} (h : Scans b l r) : l.length ≤ b.length ∧ r.length ≤ b.length := by
 have := flat_len l
 rw [h.eq, List.length_append]; omega
end Frm
structure Fv where
 k : UInt8
 A : Option Addr
 c : Nat
 b : List UInt8
def Fv.cells (f : Fv) : List Value := [.int .u8 (f.k.toNat : Int), .slice f.A f.b.length f.c]
def Fv.pr (f : Fv) : UInt8 × List UInt8 := (f.k, f.b)
theorem frT : RT Tryz.prog 164 168 Fv.cells 2 32 (.agg #[.int .u8 0, .slice none 0 0]) :=
 ⟨Tryz.underlying164, by kernel_rfl, fun _ => rfl, fun _ u hu => by simp [Fv.cells] at hu; rcases hu with h | h <;> (subst h; rfl), by omega, rfl⟩
structure RdFv (w : World) (B : Nat) (A : Option Addr) (l : List Fv) : Prop where
 row : RdS Fv.cells 2 w B A l
 ok : ∀ f ∈ l, RdB w B f.A f.b ∧ f.b.length ≤ f.c ∧ f.c ≤ 9223372036854775807
theorem RdFv.below {w w' : World} {B D : Nat} {A : Option Addr} {l : List Fv} (h : RdFv w B A l) (hb : Below D w w') (hD : B ≤ D) : RdFv w' B A l := ⟨h.row.below hb hD, fun f hf => ⟨(h.ok f hf).1.below hb hD, (h.ok f hf).2⟩⟩
theorem RdFv.more {w : World} {B B' : Nat} {A : Option Addr} {l : List Fv} (h : RdFv w B A l) (hB : B ≤ B') : RdFv w B' A l := ⟨h.row.more hB, fun f hf => ⟨(h.ok f hf).1.more hB, (h.ok f hf).2⟩⟩
theorem RdFv.row2 {w : World} {B : Nat} {A : Option Addr} {l : List Fv} (h : RdFv w B A l) (hl : 0 < l.length) : ∃ b off, A = some ⟨b, off, none⟩ ∧ b < B ∧ ∀ k (hk : k < l.length), w.cell? ⟨b, off + k * 2, none⟩ = some (.int .u8 (l[k].k.toNat : Int)) ∧
   w.cell? ⟨b, off + k * 2 + 1, none⟩ = some (.slice l[k].A l[k].b.length l[k].c) := by
 obtain ⟨b, off, hA, hb, hc⟩ := RdS.row (f := Fv.cells) (n := 2) (fun _ => rfl) (by omega) h.row hl
 exact ⟨b, off, hA, hb, fun k hk => ⟨hc k hk 0 _ rfl, hc k hk 1 _ rfl⟩⟩
structure OwnFv (T : TypeId) (w : World) (base : Nat) (A : Option Addr) (c : Nat) (l : List Fv) : Prop where
 row : OwnS Fv.cells 2 w base T A c l
 own : ∀ f ∈ l, Own w base 5 f.A f.c f.b ∧ Off [blk A] (blk f.A)
section
variable {T : TypeId} {w w' : World} {base c c' : Nat} {A A' : Option Addr} {l : List Fv} {f : Fv}
theorem OwnFv.nil : OwnFv T w base none 0 [] := ⟨OwnS.nil _ _ _, fun f hf => by cases hf⟩
theorem OwnFv.call (h : OwnFv T w base A c l) (hb : Below w.heap.size w w') : OwnFv T w' base A c l := ⟨h.row.below hb, fun f hf => ⟨(h.own f hf).1.below hb, (h.own f hf).2⟩⟩
theorem OwnFv.app (h : OwnFv T w base A c l) (hf : Own w base 5 f.A f.c f.b) (hof : Off [blk A] (blk f.A)) (ho : OwnS Fv.cells 2 w' base T A' c' (l ++ [f])) (hg : w.grownBy w' (blk A)) (hat : blk A' = blk A ∨ blk A' = some w.heap.size) : OwnFv T w' base A' c' (l ++ [f]) := by
 have hR : ∀ r ∈ ([blk A'] : List (Option Nat)), r ∈ ([blk A] : List (Option Nat)) ∨ r = some w.heap.size := fun r hr => by
   simp only [List.mem_singleton] at hr ⊢
   rcases hat with h1 | h1
   · exact .inl (hr.trans h1)
   · exact .inr (hr.trans h1)
 refine ⟨ho, fun q hq => ?_⟩
 simp only [List.mem_append, List.mem_singleton] at hq
 rcases hq with hq | hq
 · obtain ⟨h1, h2⟩ := h.own q hq
   exact ⟨h1.kept hg (h2.ne (by simp)), h2.new (fun g hg => (h1.blk_ge g hg).2) hR⟩
 · rw [hq]
   exact ⟨hf.kept hg (hof.ne (by simp)), hof.new (fun g hg => (hf.blk_ge g hg).2) hR⟩
theorem OwnFv.rd (h : OwnFv T w base A c l) : RdFv w w.heap.size A l := ⟨h.row.rd, fun f hf => ⟨(h.own f hf).1.rd, (h.own f hf).1.cap, (h.own f hf).1.cap_le⟩⟩
end
theorem rd_frame_new (T : TypeId) (w : World) (f : Fv) : RdS Fv.cells 2 (w.alloc (.cells #[.int .u8 (f.k.toNat : Int), .slice f.A f.b.length f.c] T)) (w.heap.size + 1) (some ⟨w.heap.size, 0, none⟩) [f] := by
 refine RdS.of (f := Fv.cells) (n := 2) (l := [f]) (fun _ => rfl) _ 0 (by omega) (fun k hk j u hj => ?_)
 obtain rfl : k = 0 := by simp at hk; exact hk
 have hj' : f.cells[j]? = some u := hj
 rw [cell_of_row _ w.heap.size _ _ _ (0, 0) (heap_alloc_new w _)]
 simpa [Fv.cells] using hj'
end Go.Proofs.YtgmnhdkdicgkcaaGreatDoor
