/- The walk of the law CodeAgain. -/
import Derived.Test.YtnlmiicbdhomaaaDoorTakA
import Derived.Test.YtnlmiicbdhomaaaDoorKeyC
namespace Go.Proofs.YtnlmiicbdhomaaaDoor
open Go.RowKit

theorem taken_none {w w' : World} {e : Ending} (h : Taken w none e w') : Below w.heap.size w w' ∧ e = .returned (.tuple #[.int .u64 0, .slice none 0 0, .int .i64 3]) := h
theorem taken_some {w w' : World} {e : Ending} {n : Nat} {r : List UInt8} (h : Taken w (some (n, r)) e w') : Below w.heap.size w w' ∧ ∃ A c, e = .returned (.tuple #[.int .u64 (n : Int), .slice A r.length c, .int .i64 0]) ∧ r.length ≤ c ∧ c ≤ 9223372036854775807 ∧ RdB w' w'.heap.size A r := h
theorem strB_eq {w : World} {B : Nat} {A : Option Addr} {n c : Nat} {l m : List UInt8} (h : RdB w B A l) (hl : l = m) (hn : n = l.length) : (convert 25 9 (.slice A n c)).run Tryd.prog w = .ok (.string ⟨m.toArray⟩) w := by
  subst hl hn; exact strB_of h

set_option maxHeartbeats 1000000 in
theorem codeAgain_walk (A : Option Addr) (c : Nat) (b : List UInt8) (w : World) (h : RdB w w.heap.size A b) (hc : b.length ≤ c) (hcc : c ≤ 9223372036854775807) :
    Calls Tryd.prog 5 #[.slice A b.length c] w fun e w' => e = .returned (.bool true) ∧ Below w.heap.size w w' := by
  by_cases h1 : 10000 < (b.length : Int)
  · go_enter Tryd.func5, Tryd.ntmps5
    go_wp2_with fail
    refine (awake_any _).mono ?_
    rintro e w1 ⟨rfl, hb⟩
    go_wp2_with fail
    go_ret
    exact ⟨rfl, hb⟩
  · have hT : ∀ w : World, RdB w w.heap.size A b → Calls Tryd.prog 14 #[.slice A b.length c] w (Taken w (Cod.take b)) := fun w h => take_any A c b w h (by omega) hc hcc
    cases ht : Cod.take b with
    | none =>
      rw [ht] at hT
      have HT := Lib.hid hT; clear hT ht
      go_enter Tryd.func5, Tryd.ntmps5
      go_wp2_with fail
      refine (awake_any _).mono ?_
      rintro e w1 ⟨rfl, hb⟩
      have h2 : RdB w1 w1.heap.size A b := (h.below hb (Nat.le_refl _)).more hb.size
      go_wp2_with fail
      refine (HT.out _ h2).mono ?_
      intro e w2 hh
      obtain ⟨hb2, rfl⟩ := taken_none hh
      clear hh
      have hbb : Below w.heap.size w w2 := hb.trans (hb2.mono hb.size)
      clear hb hb2
      go_wp2_with fail
      go_ret
      exact ⟨rfl, hbb⟩
    | some v =>
      obtain ⟨n, r⟩ := v
      rw [ht] at hT
      have HT := Lib.hid hT; clear hT
      have hbd := Cod.take_bound ht
      have hbr := Cod.take_number ht
      have hn := hbd.1
      have hrl := hbd.2
      have hnl := Cod.number_len hn
      have HBR := Lib.hid hbr
      clear ht hbd hbr
      go_enter Tryd.func5, Tryd.ntmps5
      go_wp2_with fail
      refine (awake_any _).mono ?_
      rintro e w1 ⟨rfl, hb⟩
      have h2 : RdB w1 w1.heap.size A b := (h.below hb (Nat.le_refl _)).more hb.size
      go_wp2_with fail
      refine (HT.out _ h2).mono ?_
      intro e w2 hh
      obtain ⟨hb2, A2, c2, rfl, hc2, hcc2, r2⟩ := taken_some hh
      clear hh
      have hbb : Below w.heap.size w w2 := hb.trans (hb2.mono hb.size)
      have h3 : RdB w2 w2.heap.size A b := (h2.below hb2 (Nat.le_refl _)).more hb2.size
      clear hb hb2 h2
      go_wp2_with (first
        | (go_at_call 15; refine (number_any n hn _).mono ?_; rintro e w3 ⟨A3, c3, rfl, ho3, hb3⟩)
        | (at_builtin; refine wpList_append_b _ rfl (.tmp 35) (.tmp 37) bt rfl w2.heap.size (some ⟨w2.heap.size, 0, none⟩) 0 [] rfl ((own_empty w2).below hb3) _ A3 _ c3 (Cod.number n) rfl rfl ho3.rd (by simp; omega) (Nat.le_trans (by simp) hb3.size) ?_; intro A4 c4 L4 w4 hL4 ho4 hg4 hat4; have HL4 := Lib.hid hL4; clear hL4; have hb4 : Below w2.heap.size w2 w4 := below_grow (((Below.refl _ _).alloc (Nat.le_refl _) _).trans (hb3.mono (by simp))) hg4 (fun g hg => by simp [blk] at hg; omega) (Nat.le_trans (by simp) hb3.size); have r4 := (r2.below hb4 (Nat.le_refl _)).more hb4.size)
        | (at_builtin; refine wpList_append_b _ rfl (.tmp 38) (.tmp 39) bt rfl w2.heap.size A4 c4 L4 rfl ho4 _ A2 _ c2 r rfl rfl r4 (by rw [HL4.out]; simp; omega) hb4.size ?_; intro A5 c5 L5 w5 hL5 ho5 hg5 hat5; have hb5 : Below w2.heap.size w2 w5 := below_grow hb4 hg5 (fun g hg => (ho4.blk_ge g hg).1) hb4.size; have q1 := strB_eq (m := b) (c := c5) ho5.rd (by rw [hL5, HL4.out]; exact HBR.out.symm) rfl; have q2 := strB_of (c := c) (h3.below hb5 (Nat.le_refl _)); unfold StrB at q2; have HL5 := Lib.hid hL5; clear hL5))
      go_ret
      exact ⟨by first | rfl | simp, hbb.trans (hb5.mono hbb.size)⟩
end Go.Proofs.YtnlmiicbdhomaaaDoor
