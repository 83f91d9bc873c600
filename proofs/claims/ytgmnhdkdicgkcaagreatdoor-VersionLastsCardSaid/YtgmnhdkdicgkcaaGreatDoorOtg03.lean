/- Parts of the proof, one behind the other: Arguments opened: the steps of the version's laws. -/
import Derived.Test.YtgmnhdkdicgkcaaGreatDoorOrg25
import Derived.Test.YtgmnhdkdicgkcaaGreatDoorOtg02
namespace Go.Proofs.YtgmnhdkdicgkcaaGreatDoor
open Go.ChangeShapes Go.WideShapes Go.ChangeAt Go.RowKit
section
open Go.Deep
variable {H : Type} {enc : TypeId × Value → H} {P : Program} {w : World} {base : Nat} {spare : Nat → Bool} {held : Bool}
theorem rows_ofN {α : Type} {f : α → List Value} {n : Nat} (hf : ∀ a, (f a).length = n) (hn : 0 < n) (a0 : α) (Q : α → Prop) {t e : TypeId} {fs : Array Field} {fuel : Nat} {v : Value} {y : DataW H × List MemPlace} (ht : P.underlying t = some (.slice e)) (he : P.underlying e = some (.struct fs))
   (hC : P.cellsOf e = n)
   (hel : ∀ (c : List Value) (m : Nat), c.length = n → (∀ (j : Nat) (fd : Field), fs[j]? = some fd → ∃ y, DataW.trod enc P w base spare held m fd.type ((c.drop fd.offset).take (P.cellsOf fd.type)) = some y) → ∃ a : α, Q a ∧ f a = c)
   (h : DataW.trod enc P w base spare held fuel t [v] = some y) :
   ∃ (A : Option Addr) (l : List α) (c : Nat), v = .slice A l.length c ∧ RdS f n w w.heap.size A l ∧ l.length ≤ c ∧ c ≤ maxLen ∧ ∀ a ∈ l, Q a := by
 rcases open_slice ht h with ⟨hcs, _⟩ | ⟨ad, len, cap, m, n', D, Pl, hcs, hb, hl, hm, hmm, hx, hi⟩
 · simp at hcs
   subst hcs
   exact ⟨none, [], 0, rfl, Reads.none_, Nat.le_refl _, by unfold maxLen; omega, by simp⟩
 · simp at hcs
   subst hcs
   have hlm : len ≤ m := by rw [hmm]; split <;> omega
   have hpt : ∀ i, i < len → ∃ a : α, Q a ∧ ∀ j u, (f a)[j]? = some u → w.cell? (ad.add (i * n + j)) = some u := by
     intro i hil
     obtain ⟨cs', hc, ht'⟩ := hi i (by omega)
     rw [hC] at hc
     obtain ⟨ys, n2, _, hy, hlen, hyl, hfd⟩ := DataW.trod_struct he ht'
     obtain ⟨_, hcl, hat⟩ := World.cells?_some hc
     rw [hC] at hlen
     obtain ⟨a, hQ, ha⟩ := hel cs' n2 hlen (fun j fd hj => by
       have h1 := hfd j fd hj
       have hjl : j < fs.size := (Array.getElem?_eq_some_iff.1 hj).1
       have hys : ys[j]? = some (ys[j]'(by omega)) := List.getElem?_eq_getElem (by omega)
       exact ⟨_, h1.trans hys⟩)
     refine ⟨a, hQ, fun j u hju => ?_⟩
     rw [ha] at hju
     have hjn : j < n := by rw [← hlen]; exact (List.getElem?_eq_some_iff.1 hju).1
     have hcell := hat j (by omega)
     rw [← Go.Deep.add_add, hcell, ← hju]
   obtain ⟨g, hg⟩ : ∃ g : Nat → α, ∀ i, i < len → Q (g i) ∧ ∀ j u, (f (g i))[j]? = some u → w.cell? (ad.add (i * n + j)) = some u := ⟨fun i => if h : i < len then (hpt i h).choose else a0, fun i hi => by simp only [hi, dif_pos]; exact (hpt i hi).choose_spec⟩
   refine ⟨some ad, (List.range len).map g, cap, by simp, rdS_of_cells hf hn (fun i hi j u hu => ?_), by simp; omega, by omega, fun a ha => ?_⟩
   · simp only [List.length_map, List.length_range] at hi
     exact (hg i hi).2 j u (by simpa using hu)
   · obtain ⟨i, hi, rfl⟩ := List.mem_map.1 ha
     exact (hg i (List.mem_range.1 hi)).1
end
section
open Ver
variable {H : Type} {enc : TypeId × Value → H} {W : World} {hd : Bool}
theorem nums13_of {v : Value} {fuel : Nat} {y : DataW H × List MemPlace} (hf : DataW.trod enc Tryz.prog W 0 (fun _ => true) hd fuel 25 [v] = some y) :
   ∃ (A : Option Addr) (l : List Int) (c : Nat), v = .slice A l.length c ∧ l.length ≤ 9223372036854775807 ∧ RdS Sto.I1 1 W W.heap.size A l := by
 obtain ⟨A, l, c, hv, hr, h1, h2, _⟩ := rows1_of (f := fun n : Int => Value.int .i64 n) 0 (fun _ => True) Tryz.underlying25 (by kernel_rfl) (fun c m y hc => by
   obtain ⟨b, e, _, _⟩ := DataW.trod_int Tryz.underlying3 hc
   simp at e
   exact ⟨b, trivial, e.symm⟩) hf
 unfold maxLen at h2
 exact ⟨A, l, c, hv, by omega, hr⟩
theorem ev_of {x1 x2 x3 x4 : Value} {fuel : Nat} {y : DataW H × List MemPlace} (h : DataW.trod enc Tryz.prog W 0 (fun _ => true) hd fuel 27 [x1, x2, x3, x4] = some y) :
   ∃ e : Ev, [x1, x2, x3, x4] = [.slice e.A e.add.length e.c, .slice e.DA e.drop.length e.dc, .int .i64 e.log, .int .i64 e.next] ∧ EvOk W W.heap.size e ∧ e.add.length ≤ 9223372036854775807 ∧ e.drop.length ≤ 9223372036854775807 ∧ (∀ x ∈ e.add, x.first.length ≤ 9223372036854775807 ∧ x.last.length ≤ 9223372036854775807) := by
 obtain ⟨xs, n, _, _, _, hl, hg⟩ := DataW.trod_struct Tryz.underlying27 h
 have e22 : Tryz.prog.cellsOf 22 = 1 := by kernel_rfl
 have e25 : Tryz.prog.cellsOf 25 = 1 := by kernel_rfl
 have e3 : Tryz.prog.cellsOf 3 = 1 := by kernel_rfl
 have hl4 : xs.length = 4 := hl
 match xs, hl4, hg with
 | [y0, y1, y2, y3], _, hg =>
   have t0 : DataW.trod enc Tryz.prog W 0 (fun _ => true) hd n 22 [x1] = some y0 := by have := hg 0 _ rfl; simpa [e22] using this
   have t1 : DataW.trod enc Tryz.prog W 0 (fun _ => true) hd n 25 [x2] = some y1 := by have := hg 1 _ rfl; simpa [e25] using this
   have t2 : DataW.trod enc Tryz.prog W 0 (fun _ => true) hd n 3 [x3] = some y2 := by have := hg 2 _ rfl; simpa [e3] using this
   have t3 : DataW.trod enc Tryz.prog W 0 (fun _ => true) hd n 3 [x4] = some y3 := by have := hg 3 _ rfl; simpa [e3] using this
   obtain ⟨A, l, c, rfl, hr, h1, h2⟩ := vfs_of t0
   obtain ⟨A2, m, cc, rfl, h3, hr2⟩ := nums13_of t1
   obtain ⟨b2, e2', _, _⟩ := DataW.trod_int Tryz.underlying3 t2
   obtain ⟨b3, e3', _, _⟩ := DataW.trod_int Tryz.underlying3 t3
   simp at e2' e3'
   subst e2' e3'
   exact ⟨⟨A, c, l, A2, cc, m, b2, b3⟩, rfl, ⟨hr, hr2⟩, h1, h3, h2⟩
set_option maxRecDepth 100000 in
theorem steps13_of {a : Option Addr} {len cap : Nat} {d : DataW H} {p : List MemPlace} (h : DataW.Trod enc Tryz.prog W 0 (fun _ => true) hd 47 (.slice a len cap) d p) :
   ∃ l : List Tp, len = l.length ∧ RdTp W W.heap.size a l ∧ l.length ≤ 9223372036854775807 := by
 obtain ⟨fuel, hf⟩ := h
 obtain ⟨A, l, c, hv, hr, h1, h2, hQ⟩ := rows_ofN (f := Tp.cells) (n := 8) (fun _ => rfl) (by omega) ⟨0, ⟨none, 0, [], none, 0, [], 0, 0⟩, 0, none, 0, [], none, 0, []⟩ (TpOk W W.heap.size) Tryz.underlying47 Tryz.underlying61 (by kernel_rfl) (fun c m hlen hc => by
   have e27 : Tryz.prog.cellsOf 27 = 4 := by kernel_rfl
   have e37 : Tryz.prog.cellsOf 37 = 1 := by kernel_rfl
   have e25 : Tryz.prog.cellsOf 25 = 1 := by kernel_rfl
   have e3 : Tryz.prog.cellsOf 3 = 1 := by kernel_rfl
   match c, hlen, hc with
   | [x0, x1, x2, x3, x4, x5, x6, x7], _, hc =>
     obtain ⟨y0, t0'⟩ := hc 0 _ rfl
     obtain ⟨y1, t1'⟩ := hc 1 _ rfl
     obtain ⟨y2, t2'⟩ := hc 2 _ rfl
     obtain ⟨y3, t3'⟩ := hc 3 _ rfl
     obtain ⟨y4, t4'⟩ := hc 4 _ rfl
     have t0 : DataW.trod enc Tryz.prog W 0 (fun _ => true) hd m 3 [x0] = some y0 := by simpa [e3] using t0'
     have t1 : DataW.trod enc Tryz.prog W 0 (fun _ => true) hd m 27 [x1, x2, x3, x4] = some y1 := by simpa [e27] using t1'
     have t2 : DataW.trod enc Tryz.prog W 0 (fun _ => true) hd m 3 [x5] = some y2 := by simpa [e3] using t2'
     have t3 : DataW.trod enc Tryz.prog W 0 (fun _ => true) hd m 37 [x6] = some y3 := by simpa [e37] using t3'
     have t4 : DataW.trod enc Tryz.prog W 0 (fun _ => true) hd m 25 [x7] = some y4 := by simpa [e25] using t4'
     obtain ⟨b0, e0, _, _⟩ := DataW.trod_int Tryz.underlying3 t0
     obtain ⟨ev, hev, ho, ha, hdl, hfl⟩ := ev_of t1
     obtain ⟨b2, e2, _, _⟩ := DataW.trod_int Tryz.underlying3 t2
     obtain ⟨A3, l3, c3, e3', p3, q3, g3⟩ := byts_of t3
     obtain ⟨A4, l4, c4, e4, h4, g4⟩ := nums13_of t4
     simp at e0 e2 hev
     obtain ⟨v1, v2, v3, v4⟩ := hev
     subst e0 e2 e3' e4 v1 v2 v3 v4
     exact ⟨⟨b0, ev, b2, A3, c3, l3, A4, c4, l4⟩, ⟨ho, g3, g4, ha, hdl, hfl, Nat.le_trans p3 q3, h4⟩, rfl⟩) hf
 injection hv with h3 h4 h5
 subst h3 h4 h5
 exact ⟨l, rfl, ⟨hr, hQ⟩, by unfold maxLen at h2; omega⟩
end
end Go.Proofs.YtgmnhdkdicgkcaaGreatDoor
