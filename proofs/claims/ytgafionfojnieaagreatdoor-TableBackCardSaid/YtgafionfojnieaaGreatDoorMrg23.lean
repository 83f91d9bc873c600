/- Parts of the proof, one behind the other: Records that came in, opened.; A pair of ints by value, opened. -/
import Derived.Test.YtgafionfojnieaaGreatDoorCards
import Derived.Test.YtgafionfojnieaaGreatDoorTie
import Derived.Test.YtgafionfojnieaaGreatDoorMrg06
import Derived.Test.YtgafionfojnieaaGreatDoorMrg07
import Derived.Test.YtgafionfojnieaaGreatDoorMrg22
namespace Go.Proofs.YtgafionfojnieaaGreatDoor
open Go.ChangeShapes Go.WideShapes Go.ChangeAt Go.RowKit
section
variable {H : Type} {enc : TypeId × Value → H} {W : World} {hd : Bool}
theorem byts_of {v : Value} {fuel : Nat} {y : DataW H × List MemPlace} (hf : DataW.trod enc Tryz.prog W 0 (fun _ => true) hd fuel 22 [v] = some y) :
   ∃ (A : Option Addr) (l : List UInt8) (c : Nat), v = .slice A l.length c ∧ l.length ≤ c ∧ c ≤ 9223372036854775807 ∧ RdB W W.heap.size A l := by
 have hr : ∃ A len cap zs, v = .slice A len cap ∧ IsRow .u8 W A len cap zs := by
   rcases open_ints Tryz.underlying22 Tryz.underlying5 (by kernel_rfl) hf with ⟨hcs, _⟩ | ⟨x, l, c, zs, hcs, _, hl, hm, hz, _, hcell, hwz⟩
   · simp at hcs
     exact ⟨none, 0, 0, [], hcs, .inl ⟨rfl, rfl, rfl, rfl⟩⟩
   · simp at hcs
     exact ⟨_, _, _, zs, hcs, .inr ⟨_, rfl, hl, hm, by simpa using hz, hcell, hwz⟩⟩
 obtain ⟨A, len, cap, zs, rfl, hr⟩ := hr
 obtain ⟨l, e, h1, h2, h3⟩ := hr.bytes
 subst e
 exact ⟨A, l, cap, rfl, h1, h2, h3⟩
theorem recs_of {a : Option Addr} {len cap : Nat} {d : DataW H} {p : List MemPlace}
   (h : DataW.Trod enc Tryz.prog W 0 (fun _ => true) hd 23 (.slice a len cap) d p) :
   ∃ l : List Rv, len = l.length ∧ RdRv W W.heap.size a l := by
 obtain ⟨fuel, hf⟩ := h
 obtain ⟨A, l, c, hv, hr, _, _, hQ⟩ := rows_of (f := Rv.cells) (n := 4) (fun _ => rfl) (by omega) ⟨none, 0, [], 0, false, none, 0, []⟩ (Rv.Ok W W.heap.size) Tryz.underlying23 Tryz.underlying35 (by kernel_rfl) (by kernel_rfl) rfl (fun c m hc => by
   obtain ⟨y0, t0⟩ := hc 0 _ rfl
   obtain ⟨y1, t1⟩ := hc 1 _ rfl
   obtain ⟨y2, t2⟩ := hc 2 _ rfl
   obtain ⟨y3, t3⟩ := hc 3 _ rfl
   obtain ⟨A0, l0, c0, e0, h0, _, g0⟩ := byts_of t0
   obtain ⟨b1, e1, _, _⟩ := DataW.trod_int Tryz.underlying3 t1
   obtain ⟨b2, e2, _⟩ := DataW.trod_bool Tryz.underlying4 t2
   obtain ⟨A3, l3, c3, e3, h3, _, g3⟩ := byts_of t3
   simp at e1 e2
   refine ⟨⟨A0, c0, l0, b1, b2, A3, c3, l3⟩, ⟨g0, g3, h0, h3⟩, fun j u hu => ?_⟩
   match j, hu with
   | 0, hu => simp [Rv.cells] at hu; rw [← hu, e0]
   | 1, hu => simp [Rv.cells] at hu; rw [← hu, e1]
   | 2, hu => simp [Rv.cells] at hu; rw [← hu, e2]
   | 3, hu => simp [Rv.cells] at hu; rw [← hu, e3]
   | j + 4, hu => simp [Rv.cells] at hu) hf
 injection hv with h1 h2 h3
 subst h1 h2
 exact ⟨l, rfl, hr, hQ⟩
end
set_option maxRecDepth 100000 in
theorem pair_of {H : Type} {enc : TypeId × Value → H} {W : World} {r : Reach} {b0 : Nat} {sp : Nat → Bool} {hd : Bool} {v : Value} {d : DataW H} {p : List MemPlace}
   (hv : Value.okWide Tryz.prog W r b0 43 v) (h : DataW.Trod enc Tryz.prog W 0 sp hd 43 v d p) :
   ∃ a b : Int, v = .agg #[.int .i64 a, .int .i64 b] := by
 obtain ⟨cs, rfl, hsz, _⟩ : ∃ cs, v = .agg cs ∧ cs.size = Tryz.prog.cellsOf 43 ∧ Row.okWide Tryz.prog W r b0 43 cs := by
   simpa [Value.okWide, Tryz.underlying43] using hv
 have h2 : Tryz.prog.cellsOf 43 = 2 := by kernel_rfl
 have h1 : Tryz.prog.cellsOf 3 = 1 := by kernel_rfl
 rw [h2] at hsz
 obtain ⟨l⟩ := cs
 match l, hsz with
 | [c0, c1], _ =>
   obtain ⟨fuel, hf⟩ := h
   obtain ⟨xs, m, _, _, _, hl, hel⟩ := DataW.trod_array Tryz.underlying43 hf
   have t0 := hel 0 (by omega)
   have t1 := hel 1 (by omega)
   rw [h1] at t0 t1
   rw [List.getElem?_eq_getElem (by omega)] at t0 t1
   have t0' : DataW.trod enc Tryz.prog W 0 sp hd m 3 [c0] = some xs[0] := t0
   have t1' : DataW.trod enc Tryz.prog W 0 sp hd m 3 [c1] = some xs[1] := t1
   obtain ⟨b0, e0, _, _⟩ := DataW.trod_int Tryz.underlying3 t0'
   obtain ⟨b1, e1, _, _⟩ := DataW.trod_int Tryz.underlying3 t1'
   simp at e0 e1
   subst e0 e1
   exact ⟨b0, b1, rfl⟩
end Go.Proofs.YtgafionfojnieaaGreatDoor
