/- The walk of the law CodeParts. -/
import Derived.Test.YtnlmiicbdhomaaaDoorParD
import Derived.Test.YtnlmiicbdhomaaaDoorParG
namespace Go.Proofs.YtnlmiicbdhomaaaDoor
open Go.RowKit

theorem parted_out {w w' : World} {b : List UInt8} {e : Ending} (h : Parted w b e w') : Below w.heap.size w w' ∧ ((∃ l, Cod.AllN l ∧ Cod.key l = b ∧ ∃ A c, e = .returned (.tuple #[.slice A l.length c, .int .i64 0]) ∧ RdP w' w'.heap.size A l) ∨
    ((∀ l, Cod.AllN l → Cod.key l ≠ b) ∧ e = .returned (.tuple #[.slice none 0 0, .int .i64 3]))) := h
theorem key_length_le (l : List Pt) : l.length ≤ (Cod.key l).length := by
  induction l with
  | nil => simp [Cod.key]
  | cons p l ih =>
    rw [Cod.key_cons, List.length_append, List.length_cons]
    have : 0 < (Cod.partKey p).length := List.length_pos_iff.2 (Cod.partKey_ne p)
    omega

set_option maxHeartbeats 1000000 in
set_option maxRecDepth 100000 in
theorem codeParts_walk (A : Option Addr) (c : Nat) (b : List UInt8) (w : World) (h : RdB w w.heap.size A b) (hc : b.length ≤ c) (hcc : c ≤ 9223372036854775807) :
    Calls Tryd.prog 7 #[.slice A b.length c] w fun e w' => e = .returned (.bool true) ∧ Below w.heap.size w w' := by
  by_cases h1 : 20000 < (b.length : Int)
  · go_enter Tryd.func7, Tryd.ntmps7
    go_wp2_with fail
    refine (awake_any _).mono ?_
    rintro e w1 ⟨rfl, hb⟩
    go_wp2_with fail
    go_ret
    exact ⟨rfl, hb⟩
  · go_enter Tryd.func7, Tryd.ntmps7
    go_wp2_with fail
    refine (awake_any _).mono ?_
    rintro e w1 ⟨rfl, hb⟩
    have h2 : RdB w1 w1.heap.size A b := (h.below hb (Nat.le_refl _)).more hb.size
    go_wp2_with fail
    refine (parts_any A c b _ h2 (by omega) hc hcc).mono ?_
    intro e w2 hh
    obtain ⟨hb2, hr2⟩ := parted_out hh
    clear hh
    have h3 : RdB w2 w2.heap.size A b := (h2.below hb2 (Nat.le_refl _)).more hb2.size
    replace hb := hb.trans (hb2.mono hb.size)
    clear h2
    rcases hr2 with ⟨l, hA, hk, A2, c2, rfl, hl⟩ | ⟨hno, rfl⟩
    · have hll : l.length ≤ 20000 := by have := key_length_le l; rw [hk] at this; omega
      have HA := Lib.hid hA; have HK := Lib.hid hk
      clear hA hk
      go_wp2_with fail
      refine (rparts_any A c b _ h3 (by omega)).mono ?_
      intro e w3 hh
      obtain ⟨hb3, hr3⟩ := parted_out hh
      clear hh
      replace hl := (hl.below hb3 (Nat.le_refl _)).more hb3.size
      replace hb := hb.trans (hb3.mono hb.size)
      clear h3 hb2
      rcases hr3 with ⟨m, hA3, hk3, A3, c3, rfl, hm⟩ | ⟨hno, rfl⟩
      · obtain rfl : l = m := Cod.key_inj HA.out hA3 (by rw [HK.out, hk3])
        clear hA3 hk3 hb3 h
        go_wp2_with fail
        go_loopw [8] (fun i wr => ∃ k : Nat, k ≤ l.length ∧ i = .int .i64 (k : Int) ∧ Below w3.heap.size w3 wr) (fun i _ => l.length - (intOf i).toNat)
        case atStart => exact ⟨0, by omega, rfl, Below.refl _ _⟩
        case round =>
          obtain ⟨k, hk, rfl, hbr⟩ := hrel
          by_cases hlt : k < l.length
          · obtain ⟨g, off, rfl, hg, q0, q1, q2⟩ := hl.at_ hlt
            obtain ⟨g', off', rfl, hg', r0, r1, r2⟩ := hm.at_ hlt
            obtain ⟨b0, hb0⟩ : ∃ b0, b0 = l[k].t := ⟨_, rfl⟩
            obtain ⟨b1, hb1⟩ : ∃ b1, b1 = l[k].n := ⟨_, rfl⟩
            obtain ⟨b2, hb2⟩ : ∃ b2, b2 = l[k].s := ⟨_, rfl⟩
            rw [← hb0] at q0 r0
            rw [← hb1] at q1 r1
            rw [← hb2] at q2 r2
            clear hb0 hb1 hb2
            have p0 := (hbr.cell (p := ⟨g, _, none⟩) hg).trans q0
            have p1 := (hbr.cell (p := ⟨g, _, none⟩) hg).trans q1
            have p2 := (hbr.cell (p := ⟨g, _, none⟩) hg).trans q2
            have s0 := (hbr.cell (p := ⟨g', _, none⟩) hg').trans r0
            have s1 := (hbr.cell (p := ⟨g', _, none⟩) hg').trans r1
            have s2 := (hbr.cell (p := ⟨g', _, none⟩) hg').trans r2
            clear q0 q1 q2 r0 r1 r2 hl hm
            go_wp2_with fail
            go_quiet (fail)
            go_wp2_with fail
            go_roundw
            case rel => exact ⟨k + 1, by omega, by go_num, ⟨hbr.os, hbr.tape, hbr.output, hbr.size, hbr.block⟩⟩
            case measure => simp [intOf]; omega
          · go_wp2_with fail
            go_ret
            exact ⟨rfl, hb.trans (hbr.mono hb.size)⟩
      · exact absurd HK.out (hno l HA.out)
    · have HNO := Lib.hid hno
      clear hno
      go_wp2_with fail
      refine (rparts_any A c b _ h3 (by omega)).mono ?_
      intro e w3 hh
      obtain ⟨hb3, hr3⟩ := parted_out hh
      clear hh
      replace hb := hb.trans (hb3.mono hb.size)
      clear h3 hb2
      rcases hr3 with ⟨m, hA3, hk3, A3, c3, rfl, hm⟩ | ⟨hno, rfl⟩
      · exact absurd hk3 (HNO.out m hA3)
      · clear hno
        go_wp2_with fail
        go_loopw [8] (fun i wr => i = .int .i64 0 ∧ wr = w3) (fun _ _ => 0)
        case atStart => exact ⟨rfl, rfl⟩
        case round =>
          obtain ⟨rfl, rfl⟩ := hrel
          go_wp2_with fail
          go_ret
          exact ⟨rfl, hb⟩
end Go.Proofs.YtnlmiicbdhomaaaDoor
