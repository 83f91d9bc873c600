/- Parts of the proof, one behind the other: A statement that came in, opened. -/
import Derived.Test.YtlmejpkngnilcaaGreatDoorMrg06
import Derived.Test.YtlmejpkngnilcaaGreatDoorMrg07
import Derived.Test.YtlmejpkngnilcaaGreatDoorMrg02
namespace Go.Proofs.YtlmejpkngnilcaaGreatDoor
open Go.ChangeShapes Go.WideShapes Go.ChangeAt Go.RowKit

section
variable {H : Type} {enc : TypeId × Value → H} {W : World} {sp : Nat → Bool} {hd : Bool}
theorem lns_of {v : Value} {fuel : Nat} {y : DataW H × List MemPlace} (h : DataW.trod enc Tryz.prog W 0 sp hd fuel 22 [v] = some y) :
    ∃ (A : Option Addr) (l : List Ln) (c : Nat), v = .slice A l.length c ∧ RdL W W.heap.size A l := by
  obtain ⟨A, l, c, hv, hr, _, _, _⟩ := rows_of (f := Ln.cells) (n := 5) (fun _ => rfl) (by omega) ⟨0, 0, 0, 0, 0⟩ (fun _ => True) Tryz.underlying22 Tryz.underlying51 (by kernel_rfl) (by kernel_rfl) rfl (fun c m hc => by
    obtain ⟨y0, t0⟩ := hc 0 _ rfl
    obtain ⟨y1, t1⟩ := hc 1 _ rfl
    obtain ⟨y2, t2⟩ := hc 2 _ rfl
    obtain ⟨y3, t3⟩ := hc 3 _ rfl
    obtain ⟨y4, t4⟩ := hc 4 _ rfl
    obtain ⟨b0, e0, _, _⟩ := DataW.trod_int Tryz.underlying3 t0
    obtain ⟨b1, e1, _, _⟩ := DataW.trod_int Tryz.underlying3 t1
    obtain ⟨b2, e2, _, _⟩ := DataW.trod_int Tryz.underlying3 t2
    obtain ⟨b3, e3, _, _⟩ := DataW.trod_int Tryz.underlying2 t3
    obtain ⟨b4, e4, _, _⟩ := DataW.trod_int Tryz.underlying2 t4
    simp at e0 e1 e2 e3 e4
    refine ⟨⟨b0, b1, b2, b3, b4⟩, trivial, fun j u hu => ?_⟩
    match j, hu with
    | 0, hu => simp [Ln.cells] at hu; rw [← hu, e0]
    | 1, hu => simp [Ln.cells] at hu; rw [← hu, e1]
    | 2, hu => simp [Ln.cells] at hu; rw [← hu, e2]
    | 3, hu => simp [Ln.cells] at hu; rw [← hu, e3]
    | 4, hu => simp [Ln.cells] at hu; rw [← hu, e4]
    | j + 5, hu => simp [Ln.cells] at hu) h
  exact ⟨A, l, c, hv, hr⟩
theorem its_of {v : Value} {fuel : Nat} {y : DataW H × List MemPlace} (h : DataW.trod enc Tryz.prog W 0 sp hd fuel 23 [v] = some y) :
    ∃ (A : Option Addr) (l : List It) (c : Nat), v = .slice A l.length c ∧ RdT W W.heap.size A l := by
  obtain ⟨A, l, c, hv, hr, _, _, _⟩ := rows_of (f := It.cells) (n := 4) (fun _ => rfl) (by omega) ⟨0, 0, 0, 0⟩ (fun _ => True) Tryz.underlying23 Tryz.underlying53 (by kernel_rfl) (by kernel_rfl) rfl (fun c m hc => by
    obtain ⟨y0, t0⟩ := hc 0 _ rfl
    obtain ⟨y1, t1⟩ := hc 1 _ rfl
    obtain ⟨y2, t2⟩ := hc 2 _ rfl
    obtain ⟨y3, t3⟩ := hc 3 _ rfl
    obtain ⟨b0, e0, _, _⟩ := DataW.trod_int Tryz.underlying3 t0
    obtain ⟨b1, e1, _, _⟩ := DataW.trod_int Tryz.underlying3 t1
    obtain ⟨b2, e2, _, _⟩ := DataW.trod_int Tryz.underlying3 t2
    obtain ⟨b3, e3, _, _⟩ := DataW.trod_int Tryz.underlying2 t3
    simp at e0 e1 e2 e3
    refine ⟨⟨b0, b1, b2, b3⟩, trivial, fun j u hu => ?_⟩
    match j, hu with
    | 0, hu => simp [It.cells] at hu; rw [← hu, e0]
    | 1, hu => simp [It.cells] at hu; rw [← hu, e1]
    | 2, hu => simp [It.cells] at hu; rw [← hu, e2]
    | 3, hu => simp [It.cells] at hu; rw [← hu, e3]
    | j + 4, hu => simp [It.cells] at hu) h
  exact ⟨A, l, c, hv, hr⟩
set_option maxRecDepth 100000 in
theorem stmt_of {r : Reach} {b0 : Nat} {v : Value} {d : DataW H} {p : List MemPlace} (hv : Value.okWide Tryz.prog W r b0 25 v) (h : DataW.Trod enc Tryz.prog W 0 sp hd 25 v d p) :
    ∃ (id fr to_ owed credit : Int) (A : Option Addr) (l : List Ln) (c : Nat) (A2 : Option Addr) (m : List It) (c2 : Nat), v = .agg #[.int .i64 id, .int .i64 fr, .int .i64 to_, .int .i64 owed, .int .i64 credit, .slice A l.length c, .slice A2 m.length c2] ∧
      RdL W W.heap.size A l ∧ RdT W W.heap.size A2 m := by
  obtain ⟨cs, n, rfl, hsz, hg⟩ := open_struct Tryz.underlying25 (by kernel_rfl) (by kernel_rfl) hv h
  obtain ⟨u0, y0, c0, t0⟩ := hg 0 _ rfl
  obtain ⟨u1, y1, c1, t1⟩ := hg 1 _ rfl
  obtain ⟨u2, y2, c2, t2⟩ := hg 2 _ rfl
  obtain ⟨u3, y3, c3, t3⟩ := hg 3 _ rfl
  obtain ⟨u4, y4, c4, t4⟩ := hg 4 _ rfl
  obtain ⟨u5, y5, c5, t5⟩ := hg 5 _ rfl
  obtain ⟨u6, y6, c6, t6⟩ := hg 6 _ rfl
  obtain ⟨b0, e0, _, _⟩ := DataW.trod_int Tryz.underlying3 t0
  obtain ⟨b1, e1, _, _⟩ := DataW.trod_int Tryz.underlying3 t1
  obtain ⟨b2, e2, _, _⟩ := DataW.trod_int Tryz.underlying3 t2
  obtain ⟨b3, e3, _, _⟩ := DataW.trod_int Tryz.underlying2 t3
  obtain ⟨b4, e4, _, _⟩ := DataW.trod_int Tryz.underlying2 t4
  obtain ⟨A, l, c, rfl, hr⟩ := lns_of t5
  obtain ⟨A2, m, cc, rfl, hr2⟩ := its_of t6
  simp at e0 e1 e2 e3 e4
  subst e0 e1 e2 e3 e4
  refine ⟨b0, b1, b2, b3, b4, A, l, c, A2, m, cc, ?_, hr, hr2⟩
  congr 1
  obtain ⟨l⟩ := cs
  match l, hsz, c0, c1, c2, c3, c4, c5, c6 with
  | [v0, v1, v2, v3, v4, v5, v6], _, c0, c1, c2, c3, c4, c5, c6 => simp at c0 c1 c2 c3 c4 c5 c6; subst c0 c1 c2 c3 c4 c5 c6; rfl
end
end Go.Proofs.YtlmejpkngnilcaaGreatDoor
