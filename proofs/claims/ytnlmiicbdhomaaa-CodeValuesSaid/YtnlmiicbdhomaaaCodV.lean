/- The walk of the law CodeValues. -/
import Derived.Test.YtnlmiicbdhomaaaCodC
import Derived.RegionTactic
import Derived.RegionCalls
import Derived.Deep.RegionHeld
namespace Go.Proofs.Ytnlmiicbdhomaaa
open Go.RowKit

theorem int_z (x : Int) (h0 : -9223372036854775808 ≤ x) (h1 : x ≤ 9223372036854775807) (w : World) :
    Calls Try.prog 5 #[.int .i64 x] w (GivesB w (Cod.number (Cod.zig x))) := by
  by_cases h : 0 ≤ x
  · exact int_pos x h h1 w
  · exact int_neg x (by omega) h0 w
theorem rint_z (x : Int) (h0 : -9223372036854775808 ≤ x) (h1 : x ≤ 9223372036854775807) (w : World) :
    Calls Try.prog 8 #[.int .i64 x] w (GivesB w (Cod.number (Cod.zig x))) := by
  by_cases h : 0 ≤ x
  · exact rint_pos x h h1 w
  · exact rint_neg x (by omega) h0 w
/-- string(b) of these bytes. -/
def Str (w : World) (A : Option Addr) (n c : Nat) (l : List UInt8) : Prop := (convert 23 9 (.slice A n c)).run Try.prog w = .ok (.string ⟨l.toArray⟩) w

theorem below_next {a b c : World} (h : Below a.heap.size a b) (k : Below b.heap.size b c) : Below a.heap.size a c := h.trans (k.mono h.size)
theorem vs_of {w3 w' : World} {A1 A2 A3 A : Option Addr} {n1 n2 n3 l : List UInt8} {c1 c2 c3 : Nat} (r1 : RdB w3 w3.heap.size A1 n1) (r2 : RdB w3 w3.heap.size A2 n2) (r3 : RdB w3 w3.heap.size A3 n3) (rl : RdB w3 w3.heap.size A l)
    (hb : Below w3.heap.size w3 w') : Str w' A1 n1.length c1 n1 ∧ Str w' A2 n2.length c2 n2 ∧ Str w' A3 n3.length c3 n3 ∧ RdB w' w'.heap.size A l ∧ Below w3.heap.size w3 w' :=
  ⟨run_string_b w' bt Try.underlying9 _ A1 _ c1 _ rfl (r1.below hb (Nat.le_refl _)), run_string_b w' bt Try.underlying9 _ A2 _ c2 _ rfl (r2.below hb (Nat.le_refl _)),
    run_string_b w' bt Try.underlying9 _ A3 _ c3 _ rfl (r3.below hb (Nat.le_refl _)), RdB.more (rl.below hb (Nat.le_refl _)) hb.size, hb⟩
set_option maxHeartbeats 1000000 in
theorem values_walk (n x : Int) (A : Option Addr) (c : Nat) (l : List UInt8) (hn0 : 0 ≤ n) (hn1 : n < 18446744073709551616) (hx0 : -9223372036854775808 ≤ x) (hx1 : x ≤ 9223372036854775807)
    (w : World) (h : RdB w w.heap.size A l) (hc : l.length ≤ 9223372036854775807) :
    Calls Try.prog 3 #[.int .u64 n, .int .i64 x, .slice A l.length c] w fun e w' => e = .returned (.bool true) ∧ Below w.heap.size w w' := by
  by_cases hl : 100000 < (l.length : Int)
  · go_enter Try.func3, Try.ntmps3
    go_wp2_with fail
    go_ret
    exact ⟨rfl, Below.refl _ _⟩
  · go_enter Try.func3, Try.ntmps3
    go_wp2_with fail
    refine (number_z n n.toNat (by omega) hn1 _).mono ?_
    rintro e w1 ⟨A1, c1, rfl, ho1, hb1⟩
    go_wp2_with fail
    refine (int_z x hx0 hx1 _).mono ?_
    rintro e w2 ⟨A2, c2, rfl, ho2, hb2⟩
    have hbb2 := hb1.trans (hb2.mono hb1.size)
    go_wp2_with fail
    refine (text_any A c l _ (RdB.more (h.below hbb2 (Nat.le_refl _)) hbb2.size) (by omega)).mono ?_
    rintro e w3 ⟨A3, c3, rfl, ho3, hb3⟩
    have hbb3 := hbb2.trans (hb3.mono hbb2.size)
    have r1 : RdB w3 w3.heap.size A1 (Cod.number n.toNat) := RdB.more (ho1.rd.below (hb2.trans (hb3.mono hb2.size)) (Nat.le_refl _)) (Nat.le_trans hb2.size hb3.size)
    have r2 : RdB w3 w3.heap.size A2 (Cod.number (Cod.zig x)) := RdB.more (ho2.rd.below hb3 (Nat.le_refl _)) hb3.size
    have r3 := ho3.rd
    have rl : RdB w3 w3.heap.size A l := RdB.more (h.below hbb3 (Nat.le_refl _)) hbb3.size
    have hz : Below w.heap.size w w3 := hbb3
    clear hbb2 hbb3 hb1 hb2 hb3 ho1 ho2 ho3 h
    go_wp2_with fail
    go_region_held (fun w' => (convert 23 9 (.slice A1 (Cod.number n.toNat).length c1)).run Try.prog w' = .ok (.string ⟨(Cod.number n.toNat).toArray⟩) w' ∧
        (convert 23 9 (.slice A2 (Cod.number (Cod.zig x)).length c2)).run Try.prog w' = .ok (.string ⟨(Cod.number (Cod.zig x)).toArray⟩) w' ∧
        (convert 23 9 (.slice A3 (Cod.text l).length c3)).run Try.prog w' = .ok (.string ⟨(Cod.text l).toArray⟩) w' ∧ RdB w' w'.heap.size A l ∧ Below w3.heap.size w3 w')
      (first | exact vs_of r1 r2 r3 rl ((Below.refl _ _).drew) | exact vs_of r1 r2 r3 rl B4 | exact vs_of r1 r2 r3 rl B5 | exact vs_of r1 r2 r3 rl B6)
      (first
        | (go_at_call 7; refine (rnumber_z _ n.toNat (by omega) hn1 _).mono ?_; rintro e w4 ⟨A4, c4, rfl, ho4, hb4⟩; have q4 := run_string_b (P := Try.prog) w4 bt Try.underlying9 _ A4 _ c4 _ rfl ho4.rd; have B4 := below_next (a := w3) (by go_split_ands; assumption) hb4)
        | (go_at_call 8; refine (rint_z x hx0 hx1 _).mono ?_; rintro e w5 ⟨A5, c5, rfl, ho5, hb5⟩; have q5 := run_string_b (P := Try.prog) w5 bt Try.underlying9 _ A5 _ c5 _ rfl ho5.rd; have B5 := below_next (a := w3) (by go_split_ands; assumption) hb5)
        | (go_at_call 9; refine (rtext_any A c l _ (by go_split_ands; assumption) (by omega)).mono ?_; rintro e w6 ⟨A6, c6, rfl, ho6, hb6⟩; have q6 := run_string_b (P := Try.prog) w6 bt Try.underlying9 _ A6 _ c6 _ rfl ho6.rd; have B6 := below_next (a := w3) (by go_split_ands; assumption) hb6))
    go_wp2_with fail
    go_ret
    exact ⟨rfl, hz.trans (B6.mono hz.size)⟩

theorem codeValues_walk (n x : Int) (A : Option Addr) (len c : Nat) (z : List Int) (w : World) (w0 : (Lit.int .u64 n).wf = true) (w1 : (Lit.int .i64 x).wf = true) (w2 : IsRow .u8 w A len c z) :
    Calls Try.prog 3 #[.int .u64 n, .int .i64 x, .slice A len c] w fun e w' => e = .returned (.bool true) ∧ Below w.heap.size w w' := by
  obtain ⟨l, rfl, h1, h2, h3⟩ := w2.bytes
  have hn : 0 ≤ n ∧ n < 18446744073709551616 := by
    have := Go.bounds_u64 w0; omega
  have hx : -9223372036854775808 ≤ x ∧ x ≤ 9223372036854775807 := by
    have := Go.bounds_i64 w1; omega
  exact values_walk n x A c l hn.1 hn.2 hx.1 hx.2 w h3 (by omega)
end Go.Proofs.Ytnlmiicbdhomaaa
