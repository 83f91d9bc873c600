/- Parts of the proof, one behind the other: Contract: the book's State.; Contracts: Open, of a store that holds no state. The law's awake.; The law VersionCodes, walked. -/
import Derived.Test.YtgmnhdkdicgkcaaGreatDoorOrg37
namespace Go.Proofs.YtgmnhdkdicgkcaaGreatDoor
open Go.RowKit Go.Maps
open Lib (hid)
namespace Ver
theorem state_size : (Tryz.prog.info? 24).map (fun x => x.size) = some 3 := by kernel_rfl
set_option maxHeartbeats 1000000 in
set_option maxRecDepth 100000 in
theorem state_any (w : World) (bs g gk : Nat) (list : Sto.Str) (A : Option Addr) (c : Nat) (l : List Vf) (log next : Int) (br : Bool) (hk : w.heap[gk]? = some (bkObj g list A l c log next br)) (hov : OwV w bs A c l) (hll : l.length ≤ 1000000) (hb : ∀ v ∈ l, v.first.length ≤ 1000000 ∧ v.last.length ≤ 1000000) :
   Calls Tryz.prog 35 #[.pointer (some ⟨gk, 0, none⟩)] w fun e w' => ∃ (A' : Option Addr) (c' : Nat) (l' : List Vf), e = .returned (.agg #[.slice A' l'.length c', .int .i64 log, .int .i64 next]) ∧ l'.map Vf.fi = l.map Vf.fi ∧ OwV w' w.heap.size A' c' l' ∧ Below w.heap.size w w' := by
 obtain ⟨w2, hw2⟩ : ∃ w2, w2 = (w.alloc (.cells #[.slice none 0 0, .int .i64 0, .int .i64 0] 24)).alloc (.cells #[.slice A l.length c, .int .i64 log, .int .i64 next] 24) := ⟨_, rfl⟩
 have hb2 : Below w.heap.size w w2 := by rw [hw2]; exact ((Below.refl _ _).alloc (Nat.le_refl _) _).alloc (by simp) _
 have KC := hid (vcopied_any l A c w2 (hov.below hb2).rd hll hb)
 have hkX : ∀ X, Below w.heap.size w X → X.cell? ⟨gk, 2, none⟩ = some (.slice A l.length c) ∧ X.cell? ⟨gk, 3, none⟩ = some (.int .i64 log) ∧ X.cell? ⟨gk, 4, none⟩ = some (.int .i64 next) := fun X hX => by
   have hk := (hX.block _ (Array.getElem?_eq_some_iff.1 hk).1).trans hk
   exact ⟨by rw [cell_of_row X _ 2 _ _ (0, 0) hk]; rfl, by rw [cell_of_row X _ 3 _ _ (0, 0) hk]; rfl, by rw [cell_of_row X _ 4 _ _ (0, 0) hk]; rfl⟩
 obtain ⟨k1, k2, k3⟩ := hkX (w.alloc (.cells #[.slice none 0 0, .int .i64 0, .int .i64 0] 24)) ((Below.refl _ _).alloc (Nat.le_refl _) _)
 have HB2 := hid hb2
 have HW2 := hid hw2
 rw [hw2] at KC
 clear hk hov hw2 hb2 hkX hb
 go_enter Tryz.func35, Tryz.ntmps35
 go_wp2_with fail
 refine KC.out.mono ?_
 rintro e w3 ⟨A', c', l', rfl, hf, ho, hb3⟩
 have hz2 : w2.heap.size = w.heap.size + 1 + 1 := by rw [HW2.out]; simp
 rw [← HW2.out] at ho hb3
 have x0 : w3.heap[w.heap.size]? = some (.cells #[.slice none 0 0, .int .i64 0, .int .i64 0] 24) := by
   refine (hb3.block _ (by omega)).trans ?_
   rw [HW2.out, Below.heap_alloc _ _ _ (by simp)]
   exact heap_alloc_new w _
 have x1 : w3.heap[w.heap.size + 1]? = some (.cells #[.slice A l.length c, .int .i64 log, .int .i64 next] 24) := by
   refine (hb3.block _ (by omega)).trans ?_
   rw [HW2.out]
   have := heap_alloc_new (w.alloc (.cells #[.slice none 0 0, .int .i64 0, .int .i64 0] 24)) (.cells #[.slice A l.length c, .int .i64 log, .int .i64 next] 24)
   simpa using this
 obtain ⟨p0, p1, p2⟩ : w3.cell? ⟨w.heap.size, 0, none⟩ = some (.slice none 0 0) ∧ w3.cell? ⟨w.heap.size, 1, none⟩ = some (.int .i64 0) ∧ w3.cell? ⟨w.heap.size, 2, none⟩ = some (.int .i64 0) := ⟨by rw [cell_of_row _ _ 0 _ _ (0, 0) x0]; rfl, by rw [cell_of_row _ _ 1 _ _ (0, 0) x0]; rfl, by rw [cell_of_row _ _ 2 _ _ (0, 0) x0]; rfl⟩
 obtain ⟨q0, q1, q2⟩ : w3.cell? ⟨w.heap.size + 1, 0, none⟩ = some (.slice A l.length c) ∧ w3.cell? ⟨w.heap.size + 1, 1, none⟩ = some (.int .i64 log) ∧ w3.cell? ⟨w.heap.size + 1, 2, none⟩ = some (.int .i64 next) := ⟨by rw [cell_of_row _ _ 0 _ _ (0, 0) x1]; rfl, by rw [cell_of_row _ _ 1 _ _ (0, 0) x1]; rfl, by rw [cell_of_row _ _ 2 _ _ (0, 0) x1]; rfl⟩
 have f0 := frozen_of_row w3 _ 0 _ _ x0
 have f1 := frozen_of_row w3 _ 1 _ _ x0
 have f2 := frozen_of_row w3 _ 2 _ _ x0
 have f3 := frozen_of_row w3 _ 0 _ _ x1
 have HX0 := hid x0
 have HX1 := hid x1
 have HB3 := hid (HB2.out.trans (hb3.mono HB2.out.size))
 have HO := hid ho
 have HZ2 := hid hz2
 have HZ := hid hb3.size
 have HF := hid hf
 clear hz2 x0 x1 hb3 ho hf KC HW2
 go_wp2_with fail
 clear p0 p1 p2 q0 q1 q2 f0 f1 f2 f3 k1 k2 k3
 have hne : w.heap.size ≠ w.heap.size + 1 := by omega
 have hbf : Below w.heap.size w ((((w3.setCell ⟨w.heap.size + 1, 0, none⟩ (.slice A' l'.length c')).setCell ⟨w.heap.size, 0, none⟩ (.slice A' l'.length c')).setCell ⟨w.heap.size, 1, none⟩ (.int .i64 log)).setCell ⟨w.heap.size, 2, none⟩ (.int .i64 next)) := ((((HB3.out.setCell (Nat.le_succ _) _).setCell (Nat.le_refl _) _).setCell (Nat.le_refl _) _).setCell (Nat.le_refl _) _)
 have hx : ((((w3.setCell ⟨w.heap.size + 1, 0, none⟩ (.slice A' l'.length c')).setCell ⟨w.heap.size, 0, none⟩ (.slice A' l'.length c')).setCell ⟨w.heap.size, 1, none⟩ (.int .i64 log)).setCell ⟨w.heap.size, 2, none⟩ (.int .i64 next)).heap[w.heap.size]? = some (.cells #[.slice A' l'.length c', .int .i64 log, .int .i64 next] 24) := by
   have h0 := (Below.heap_setCell w3 ⟨w.heap.size + 1, 0, none⟩ (.slice A' l'.length c') w.heap.size hne).trans HX0.out
   have h1 := heap_setCell_same _ w.heap.size 0 _ 24 (.slice A' l'.length c') h0
   have h2 := heap_setCell_same _ w.heap.size 1 _ 24 (.int .i64 log) h1
   have h3 := heap_setCell_same _ w.heap.size 2 _ 24 (.int .i64 next) h2
   simpa using h3
 have hz3 : w2.heap.size ≤ w3.heap.size := HZ.out
 have hoF := HO.out.keep (w' := ((((w3.setCell ⟨w.heap.size + 1, 0, none⟩ (.slice A' l'.length c')).setCell ⟨w.heap.size, 0, none⟩ (.slice A' l'.length c')).setCell ⟨w.heap.size, 1, none⟩ (.int .i64 log)).setCell ⟨w.heap.size, 2, none⟩ (.int .i64 next))) (by simp [World.setCell]) (fun q e => by
   have hq := (owV_lt HO.out e).1
   have n1 : q ≠ w.heap.size + 1 := by have := HZ2.out; omega
   have n2 : q ≠ w.heap.size := by have := HZ2.out; omega
   rw [Below.heap_setCell _ _ _ _ n2, Below.heap_setCell _ _ _ _ n2, Below.heap_setCell _ _ _ _ n2, Below.heap_setCell _ _ _ _ n1])
 refine bodyPost_ret (results_cell_row rfl _ _ w.heap.size 24 #[.slice A' l'.length c', .int .i64 log, .int .i64 next] (0, 0) _ rfl hx Tryz.underlying24 rfl state_size) rfl ?_
 exact ⟨A', c', l', rfl, HF.out, hoF.mono (by have := HZ2.out; omega), hbf⟩
end Ver
namespace Ver
theorem AftB.new {w w1 w' : World} {g gk : Nat} {m m' : Sto.Mem} (hb : Below w.heap.size w w1) (hg : w.heap.size ≤ gk) (h : AftB w1 w' g gk m m') : Sto.Aft w w' g m m' :=
 ⟨h.os.trans hb.os, h.tape.trans hb.tape, h.output.trans hb.output, Nat.le_trans hb.size h.size, fun k hk hn => (h.block k (Nat.lt_of_lt_of_le hk hb.size) hn (by omega)).trans (hb.block k hk), fun k hk hm => h.turn k (Nat.lt_of_lt_of_le hk hb.size) hm, fun k hk hm => h.pa k (Nat.lt_of_lt_of_le hk hb.size) hm⟩
end Ver
namespace Ver
theorem dec_ok {b : List UInt8} {e : Ed} (h : dec b = some e) : okE e = true := by
 unfold dec at h
 split at h
 · cases h
 · split at h
   · rename_i h1
     injection h with h
     rw [← h]; exact h1.2
   · cases h
def zeroE : Ev := ⟨none, 0, [], none, 0, [], 0, 0⟩
theorem says_dec {w w' : World} {b : List UInt8} {r : Ending} (h : SaysDec w (dec b) r w') : ∃ ev : Ev, r = .returned (.tuple #[ev.val, .int .i64 (if (dec b).isSome then 0 else 3)]) ∧ ev.ed = (dec b).getD zeroE.ed ∧ EvOk w' w'.heap.size ev ∧ ev.add.length ≤ 50 ∧ ev.drop.length ≤ 50 ∧ Below w.heap.size w w' := by
 obtain ⟨hb, hr⟩ := h
 cases hd : dec b with
 | none =>
   rw [hd] at hr
   exact ⟨zeroE, by rw [hr]; rfl, rfl, ⟨RdV.nil, RdS.nil⟩, by decide, by decide, hb⟩
 | some e =>
   rw [hd] at hr
   obtain ⟨ev, rfl, he, h1, h2⟩ := hr
   have hok := okE_bd (dec_ok hd)
   refine ⟨ev, rfl, he, ⟨h1.rd, h2.rd⟩, ?_, ?_, hb⟩
   · have h3 := hok.1.1
     rw [← he] at h3
     simpa [Ev.ed] using h3
   · have h3 := hok.1.2.1
     rw [← he] at h3
     exact h3
end Ver
end Go.Proofs.YtgmnhdkdicgkcaaGreatDoor
