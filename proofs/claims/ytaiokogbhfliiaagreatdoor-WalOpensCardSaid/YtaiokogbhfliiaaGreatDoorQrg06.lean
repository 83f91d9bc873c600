/- Parts of the proof, one behind the other: Arguments opened: files. -/
import Derived.Test.YtaiokogbhfliiaaGreatDoorQrg02
import Derived.Test.YtaiokogbhfliiaaGreatDoorQrg04
namespace Go.Proofs.YtaiokogbhfliiaaGreatDoor
open Go.ChangeShapes Go.WideShapes Go.ChangeAt Go.RowKit

section
variable {H : Type} {enc : TypeId × Value → H} {W : World} {hd : Bool}
theorem files_of {a : Option Addr} {len cap : Nat} {d : DataW H} {p : List MemPlace} (h : DataW.Trod enc Tryz.prog W 0 (fun _ => true) hd 22 (.slice a len cap) d p) :
    ∃ l : List Fl, len = l.length ∧ RdF W a l := by
  obtain ⟨fuel, hf⟩ := h
  obtain ⟨A, l, c, hv, hr, _, _, hQ⟩ := rows_of (f := Fl.cells) (n := 2) (fun _ => rfl) (by omega) ⟨[], none, 0, []⟩ (FlOk W) Tryz.underlying22 Tryz.underlying70 (by kernel_rfl) (by kernel_rfl) rfl (fun c m hc => by
    obtain ⟨y0, t0⟩ := hc 0 _ rfl
    obtain ⟨y1, t1⟩ := hc 1 _ rfl
    obtain ⟨b0, e0, _, _⟩ := DataW.trod_string Tryz.underlying9 t0
    obtain ⟨A1, l1, c1, e1, _, _, g1⟩ := byts_of t1
    simp at e0 e1
    refine ⟨⟨b0.data.toList, A1, c1, l1⟩, ⟨g1⟩, fun j u hu => ?_⟩
    match j, hu with
    | 0, hu => simp [Fl.cells, Sto.str] at hu; rw [← hu, e0]
    | 1, hu => simp [Fl.cells] at hu; rw [← hu, e1]
    | j + 2, hu => simp [Fl.cells] at hu) hf
  injection hv with h1 h2 h3
  subst h1 h2
  exact ⟨l, rfl, ⟨hr, hQ⟩⟩
end
end Go.Proofs.YtaiokogbhfliiaaGreatDoor
