/- Parts of the proof, one behind the other: Arguments opened: slices of bytes.; Arguments opened: bytes.; Arguments opened: steps. -/
import Derived.Test.YtaiokogbhfliiaaGreatDoorMrg41
import Derived.Test.YtaiokogbhfliiaaGreatDoorSrg01
namespace Go.Proofs.YtaiokogbhfliiaaGreatDoor
open Go.ChangeShapes Go.WideShapes Go.ChangeAt Go.RowKit

section
variable {H : Type} {enc : TypeId × Value → H} {W : World} {hd : Bool}
theorem byts_of {v : Value} {fuel : Nat} {y : DataW H × List MemPlace} (hf : DataW.trod enc Tryz.prog W 0 (fun _ => true) hd fuel 23 [v] = some y) :
    ∃ (A : Option Addr) (l : List UInt8) (c : Nat), v = .slice A l.length c ∧ l.length ≤ c ∧ c ≤ 9223372036854775807 ∧ RdB W W.heap.size A l := by
  have hr : ∃ A len cap zs, v = .slice A len cap ∧ IsRow .u8 W A len cap zs := by
    rcases open_ints Tryz.underlying23 Tryz.underlying5 (by kernel_rfl) hf with ⟨hcs, _⟩ | ⟨x, l, c, zs, hcs, _, hl, hm, hz, _, hcell, hwz⟩
    · simp at hcs
      exact ⟨none, 0, 0, [], hcs, .inl ⟨rfl, rfl, rfl, rfl⟩⟩
    · simp at hcs
      exact ⟨_, _, _, zs, hcs, .inr ⟨_, rfl, hl, hm, by simpa using hz, hcell, hwz⟩⟩
  obtain ⟨A, len, cap, zs, rfl, hr⟩ := hr
  obtain ⟨l, e, h1, h2, h3⟩ := hr.bytes
  subst e
  exact ⟨A, l, cap, rfl, h1, h2, h3⟩
end
end Go.Proofs.YtaiokogbhfliiaaGreatDoor

namespace Go.Proofs.YtaiokogbhfliiaaGreatDoor
open Go.ChangeShapes Go.WideShapes Go.ChangeAt Go.RowKit

end Go.Proofs.YtaiokogbhfliiaaGreatDoor

namespace Go.Proofs.YtaiokogbhfliiaaGreatDoor
open Go.ChangeShapes Go.WideShapes Go.ChangeAt Go.RowKit

section
variable {H : Type} {enc : TypeId × Value → H} {W : World} {hd : Bool}
theorem nums_of {v : Value} {fuel : Nat} {y : DataW H × List MemPlace} (hf : DataW.trod enc Tryz.prog W 0 (fun _ => true) hd fuel 58 [v] = some y) :
    ∃ (A : Option Addr) (l : List Int) (c : Nat), v = .slice A l.length c ∧ l.length ≤ 9223372036854775807 ∧ RdS Sto.I1 1 W W.heap.size A l := by
  obtain ⟨A, l, c, hv, hr, h1, h2, _⟩ := rows1_of (f := fun n : Int => Value.int .i64 n) 0 (fun _ => True) Tryz.underlying58 (by kernel_rfl) (fun c m y hc => by
    obtain ⟨b, e, _, _⟩ := DataW.trod_int Tryz.underlying3 hc
    simp at e
    exact ⟨b, trivial, e.symm⟩) hf
  unfold maxLen at h2
  exact ⟨A, l, c, hv, by omega, hr⟩
theorem steps_of {a : Option Addr} {len cap : Nat} {d : DataW H} {p : List MemPlace} (h : DataW.Trod enc Tryz.prog W 0 (fun _ => true) hd 57 (.slice a len cap) d p) :
    ∃ l : List Sv, len = l.length ∧ RdT W a l := by
  obtain ⟨fuel, hf⟩ := h
  obtain ⟨A, l, c, hv, hr, _, _, hQ⟩ := rows_of (f := Sv.cells) (n := 4) (fun _ => rfl) (by omega) ⟨0, 0, none, 0, [], none, 0, []⟩ (Sok W) Tryz.underlying57 Tryz.underlying60 (by kernel_rfl) (by kernel_rfl) rfl (fun c m hc => by
    obtain ⟨y0, t0⟩ := hc 0 _ rfl
    obtain ⟨y1, t1⟩ := hc 1 _ rfl
    obtain ⟨y2, t2⟩ := hc 2 _ rfl
    obtain ⟨y3, t3⟩ := hc 3 _ rfl
    obtain ⟨b0, e0, _, _⟩ := DataW.trod_int Tryz.underlying3 t0
    obtain ⟨b1, e1, _, _⟩ := DataW.trod_int Tryz.underlying3 t1
    obtain ⟨A2, l2, c2, e2, _, _, g2⟩ := byts_of t2
    obtain ⟨A3, l3, c3, e3, h3, g3⟩ := nums_of t3
    simp at e0 e1
    refine ⟨⟨b0, b1, A2, c2, l2, A3, c3, l3⟩, ⟨g2, g3, h3⟩, fun j u hu => ?_⟩
    match j, hu with
    | 0, hu => simp [Sv.cells] at hu; rw [← hu, e0]
    | 1, hu => simp [Sv.cells] at hu; rw [← hu, e1]
    | 2, hu => simp [Sv.cells] at hu; rw [← hu, e2]
    | 3, hu => simp [Sv.cells] at hu; rw [← hu, e3]
    | j + 4, hu => simp [Sv.cells] at hu) hf
  injection hv with h1 h2 h3
  subst h1 h2
  exact ⟨l, rfl, ⟨hr, hQ⟩⟩
end
end Go.Proofs.YtaiokogbhfliiaaGreatDoor
