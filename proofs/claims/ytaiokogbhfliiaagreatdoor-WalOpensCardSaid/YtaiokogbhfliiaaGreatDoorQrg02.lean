/- Parts of the proof, one behind the other: Arguments opened: slices of bytes.; Arguments opened: bytes. -/
import Derived.Test.YtaiokogbhfliiaaGreatDoorMrg41
import Derived.Test.YtaiokogbhfliiaaGreatDoorQrg01
namespace Go.Proofs.YtaiokogbhfliiaaGreatDoor
open Go.ChangeShapes Go.WideShapes Go.ChangeAt Go.RowKit

section
variable {H : Type} {enc : TypeId × Value → H} {W : World} {hd : Bool}
theorem byts_of {v : Value} {fuel : Nat} {y : DataW H × List MemPlace} (hf : DataW.trod enc Tryz.prog W 0 (fun _ => true) hd fuel 23 [v] = some y) :
    ∃ (A : Option Addr) (l : List UInt8) (c : Nat), v = .slice A l.length c ∧ l.length ≤ c ∧ c ≤ 9223372036854775807 ∧ RdB W W.heap.size A l := by
  have hr : ∃ A len cap zs, v = .slice A len cap ∧ IsRow .u8 W A len cap zs := by
    rcases open_ints Tryz.underlying23 Tryz.underlying5 (by kernel_rfl) hf with ⟨hcs, _⟩ | ⟨x, l, c, zs, hcs, _, hl, hm, hz, _, hcell, hwz⟩
    · simp at hcs
      exact ⟨none, 0, 0, [], hcs, .inl ⟨rfl, rfl, rfl, rfl⟩⟩
    · simp at hcs
      exact ⟨_, _, _, zs, hcs, .inr ⟨_, rfl, hl, hm, by simpa using hz, hcell, hwz⟩⟩
  obtain ⟨A, len, cap, zs, rfl, hr⟩ := hr
  obtain ⟨l, e, h1, h2, h3⟩ := hr.bytes
  subst e
  exact ⟨A, l, cap, rfl, h1, h2, h3⟩
theorem bytss_of {a : Option Addr} {len cap : Nat} {d : DataW H} {p : List MemPlace} (h : DataW.Trod enc Tryz.prog W 0 (fun _ => true) hd 32 (.slice a len cap) d p) :
    ∃ l : List Yv, len = l.length ∧ (RdY W a l ∧ l.length ≤ cap ∧ cap ≤ 9223372036854775807) := by
  obtain ⟨fuel, hf⟩ := h
  obtain ⟨A, l, c, hv, hr, h1, h2, h3⟩ := rows1_of (f := fun v : Yv => Value.slice v.A v.b.length v.c) ⟨none, 0, []⟩ (fun v => RdB W W.heap.size v.A v.b) Tryz.underlying32 (by kernel_rfl) (fun c m y hc => by
    obtain ⟨A, l, k, e, _, _, hb⟩ := byts_of hc
    exact ⟨⟨A, k, l⟩, hb, e.symm⟩) hf
  injection hv with q1 q2 q3
  subst q1 q2 q3
  unfold maxLen at h2
  exact ⟨l, rfl, ⟨hr, h3⟩, h1, h2⟩
end
end Go.Proofs.YtaiokogbhfliiaaGreatDoor

namespace Go.Proofs.YtaiokogbhfliiaaGreatDoor
open Go.ChangeShapes Go.WideShapes Go.ChangeAt Go.RowKit

/-- What a law is told of a slice of bytes that came in. -/
theorem bytes_of {H : Type} {enc : TypeId × Value → H} {W : World} {hd : Bool} {a : Option Addr} {len cap : Nat} {d : DataW H} {p : List MemPlace}
    (h : DataW.Trod enc Tryz.prog W 0 (fun _ => true) hd 23 (.slice a len cap) d p) :
    ∃ l : List UInt8, len = l.length ∧ l.length ≤ cap ∧ cap ≤ 9223372036854775807 ∧ RdB W W.heap.size a l := by
  obtain ⟨fuel, hf⟩ := h
  obtain ⟨A, l, c, hv, h1, h2, h3⟩ := byts_of hf
  injection hv with q1 q2 q3
  subst q1 q2 q3
  exact ⟨l, rfl, h1, h2, h3⟩
end Go.Proofs.YtaiokogbhfliiaaGreatDoor
