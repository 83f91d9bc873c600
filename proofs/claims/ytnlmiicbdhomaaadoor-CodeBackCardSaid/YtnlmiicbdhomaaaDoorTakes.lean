/- The contract of TakeText; the walk of the law CodeTakes. -/
import Derived.Test.YtnlmiicbdhomaaaDoorTakD
import Derived.Test.YtnlmiicbdhomaaaDoorKeyC
namespace Go.Proofs.YtnlmiicbdhomaaaDoor
open Go.RowKit

theorem cutT_none : cutT none = none := rfl

set_option maxHeartbeats 400000 in
set_option maxRecDepth 100000 in
theorem thenText_any (A : Option Addr) (c : Nat) (b : List UInt8) (w : World) (h : RdB w w.heap.size A b) (hl : b.length ≤ 140737488355328) (hc : b.length ≤ c) (hcc : c ≤ 9223372036854775807) :
    Calls Tryd.prog 32 #[.slice A b.length c, .func (.func 14) #[] #[], .func (.func 33) #[] #[]] w (TakenT w (cutT (Cod.take b))) := by
  have C := take_any A c b w h hl hc hcc
  cases hk : Cod.take b with
  | none =>
    rw [hk] at C
    have HC := Lib.hid C; clear C hk
    go_enter Tryd.func32, Tryd.ntmps32
    go_wp2_with fail
    refine HC.out.mono ?_
    intro e w1 hh
    obtain ⟨hb, rfl⟩ := taken_none hh
    clear hh
    go_wp2_with fail
    refine bodyPost_ret (results_tmp3 rfl _ _ _) rfl ?_
    exact ⟨hb, rfl⟩
  | some v =>
    obtain ⟨n, r⟩ := v
    obtain ⟨hn, hrb⟩ := Cod.take_bound hk
    rw [hk] at C
    have HC := Lib.hid C; clear C hk
    cases hx : cutT (some (n, r)) with
    | none =>
      have HX := Lib.hid hx; clear hx
      go_enter Tryd.func32, Tryd.ntmps32
      go_wp2_with fail
      refine HC.out.mono ?_
      intro e w1 hh
      obtain ⟨hb, A1, c1, rfl, hc1, hcc1, r1⟩ := taken_some hh
      clear hh
      go_wp2_with fail
      refine (text_part A1 c1 n r _ hn r1 (by omega) hc1 hcc1).mono ?_
      rw [HX.out]
      intro e w2 hh
      obtain ⟨hb2, rfl⟩ := takenT_none hh
      clear hh
      go_wp2_with fail
      refine bodyPost_ret (results_tmp3 rfl _ _ _) rfl ?_
      exact ⟨hb.trans (hb2.mono hb.size), rfl⟩
    | some v =>
      obtain ⟨t, u⟩ := v
      have HX := Lib.hid hx; clear hx
      go_enter Tryd.func32, Tryd.ntmps32
      go_wp2_with fail
      refine HC.out.mono ?_
      intro e w1 hh
      obtain ⟨hb, A1, c1, rfl, hc1, hcc1, r1⟩ := taken_some hh
      clear hh
      go_wp2_with fail
      refine (text_part A1 c1 n r _ hn r1 (by omega) hc1 hcc1).mono ?_
      rw [HX.out]
      intro e w2 hh
      obtain ⟨hb2, A2, c2, A3, c3, rfl, t2, u2⟩ := takenT_some hh
      clear hh
      go_wp2_with fail
      refine bodyPost_ret (results_tmp3 rfl _ _ _) rfl ?_
      exact ⟨hb.trans (hb2.mono hb.size), A2, c2, A3, c3, rfl, t2, u2⟩

set_option maxRecDepth 100000 in
theorem takeText_any (A : Option Addr) (c : Nat) (b : List UInt8) (w : World) (h : RdB w w.heap.size A b) (hl : b.length ≤ 140737488355328) (hc : b.length ≤ c) (hcc : c ≤ 9223372036854775807) :
    Calls Tryd.prog 19 #[.slice A b.length c] w (TakenT w (cutT (Cod.take b))) := by
  have C := thenText_any A c b w h hl hc hcc
  cases hx : cutT (Cod.take b) with
  | none =>
    rw [hx] at C
    have HC := Lib.hid C; clear C hx
    go_enter Tryd.func19, Tryd.ntmps19
    go_wp2_with fail
    refine HC.out.mono ?_
    intro e w1 hh
    obtain ⟨hb, rfl⟩ := takenT_none hh
    clear hh
    go_wp2_with fail
    refine bodyPost_ret (results_tmp3 rfl _ _ _) rfl ?_
    exact ⟨hb, rfl⟩
  | some v =>
    obtain ⟨t, u⟩ := v
    rw [hx] at C
    have HC := Lib.hid C; clear C hx
    go_enter Tryd.func19, Tryd.ntmps19
    go_wp2_with fail
    refine HC.out.mono ?_
    intro e w1 hh
    obtain ⟨hb, A2, c2, A3, c3, rfl, t2, u2⟩ := takenT_some hh
    clear hh
    go_wp2_with fail
    refine bodyPost_ret (results_tmp3 rfl _ _ _) rfl ?_
    exact ⟨hb, A2, c2, A3, c3, rfl, t2, u2⟩

theorem rdB_on {w w' : World} {A : Option Addr} {l : List UInt8} (h : RdB w w.heap.size A l) (hb : Below w.heap.size w w') : RdB w' w'.heap.size A l := (h.below hb (Nat.le_refl _)).more hb.size

set_option maxHeartbeats 2000000 in
set_option maxRecDepth 100000 in
theorem codeTakes_walk (A : Option Addr) (c : Nat) (b : List UInt8) (w : World) (h : RdB w w.heap.size A b) (hc : b.length ≤ c) (hcc : c ≤ 9223372036854775807) :
    Calls Tryd.prog 6 #[.slice A b.length c] w fun e w' => e = .returned (.bool true) ∧ Below w.heap.size w w' := by
  by_cases h1 : 100000 < (b.length : Int)
  · go_enter Tryd.func6, Tryd.ntmps6
    go_wp2_with fail
    refine (awake_any _).mono ?_
    rintro e w1 ⟨rfl, hb⟩
    go_wp2_with fail
    go_ret
    exact ⟨rfl, hb⟩
  · have C0 : ∀ w : World, RdB w w.heap.size A b → Calls Tryd.prog 14 #[.slice A b.length c] w (Taken w (Cod.take b)) := fun w h => take_any A c b w h (by omega) hc hcc
    have C1 : ∀ w : World, RdB w w.heap.size A b → Calls Tryd.prog 16 #[.slice A b.length c] w (Taken w (Cod.take b)) := fun w h => rtake_any A c b w h (by omega) hc hcc
    have C2 : ∀ w : World, RdB w w.heap.size A b → Calls Tryd.prog 17 #[.slice A b.length c] w (TakenI w (Cod.take b)) := fun w h => takeInt_any A c b w h (by omega) hc hcc
    have C3 : ∀ w : World, RdB w w.heap.size A b → Calls Tryd.prog 18 #[.slice A b.length c] w (TakenI w (Cod.take b)) := fun w h => rtakeInt_any A c b w h (by omega) hc hcc
    have C4 : ∀ w : World, RdB w w.heap.size A b → Calls Tryd.prog 19 #[.slice A b.length c] w (TakenT w (cutT (Cod.take b))) := fun w h => takeText_any A c b w h (by omega) hc hcc
    have C5 : ∀ w : World, RdB w w.heap.size A b → Calls Tryd.prog 20 #[.slice A b.length c] w (TakenT w (cutT (Cod.take b))) := fun w h => rtakeText_any A c b w h (by omega) hc hcc
    cases hk : Cod.take b with
    | none =>
      rw [hk] at C0 C1 C2 C3 C4 C5
      rw [cutT_none] at C4 C5
      clear hk
      have H0 := Lib.hid C0; clear C0
      have H1 := Lib.hid C1; clear C1
      have H2 := Lib.hid C2; clear C2
      have H3 := Lib.hid C3; clear C3
      have H4 := Lib.hid C4; clear C4
      have H5 := Lib.hid C5; clear C5
      go_enter Tryd.func6, Tryd.ntmps6
      go_wp2_with fail
      refine (awake_any _).mono ?_
      rintro e w0 ⟨rfl, hb⟩
      have h0 : RdB w0 w0.heap.size A b := rdB_on h hb
      go_wp2_with fail
      refine (H0.out _ h0).mono ?_
      intro e v0 hh
      obtain ⟨hb0, rfl⟩ := taken_none hh
      clear hh
      replace h0 := rdB_on h0 hb0
      replace hb := hb.trans (hb0.mono hb.size); clear hb0
      go_wp2_with fail
      refine (H1.out _ h0).mono ?_
      intro e v1 hh
      obtain ⟨hb1, rfl⟩ := taken_none hh
      clear hh
      replace h0 := rdB_on h0 hb1
      replace hb := hb.trans (hb1.mono hb.size); clear hb1
      go_wp2_with fail
      refine (H2.out _ h0).mono ?_
      intro e v2 hh
      obtain ⟨hb2, rfl⟩ := takenI_none hh
      clear hh
      replace h0 := rdB_on h0 hb2
      replace hb := hb.trans (hb2.mono hb.size); clear hb2
      go_wp2_with fail
      refine (H3.out _ h0).mono ?_
      intro e v3 hh
      obtain ⟨hb3, rfl⟩ := takenI_none hh
      clear hh
      replace h0 := rdB_on h0 hb3
      replace hb := hb.trans (hb3.mono hb.size); clear hb3
      go_wp2_with fail
      refine (H4.out _ h0).mono ?_
      intro e v4 hh
      obtain ⟨hb4, rfl⟩ := takenT_none hh
      clear hh
      replace h0 := rdB_on h0 hb4
      replace hb := hb.trans (hb4.mono hb.size); clear hb4
      go_wp2_with fail
      refine (H5.out _ h0).mono ?_
      intro e v5 hh
      obtain ⟨hb5, rfl⟩ := takenT_none hh
      clear hh
      replace h0 := rdB_on h0 hb5
      replace hb := hb.trans (hb5.mono hb.size); clear hb5
      have sn : (convert 25 9 (.slice none 0 0)).run Tryd.prog v5 = .ok (.string ⟨#[]⟩) v5 := strB_of (B := 0) (A := none) (c := 0) (l := []) RdB.nil
      clear h0
      go_wp2_with fail
      go_ret
      exact ⟨by first | rfl | simp, hb⟩
    | some v =>
      obtain ⟨n, r⟩ := v
      rw [hk] at C0 C1 C2 C3 C4 C5
      clear hk
      cases hx : cutT (some (n, r)) with
      | none =>
        rw [hx] at C4 C5
        clear hx
        have H0 := Lib.hid C0; clear C0
        have H1 := Lib.hid C1; clear C1
        have H2 := Lib.hid C2; clear C2
        have H3 := Lib.hid C3; clear C3
        have H4 := Lib.hid C4; clear C4
        have H5 := Lib.hid C5; clear C5
        go_enter Tryd.func6, Tryd.ntmps6
        go_wp2_with fail
        refine (awake_any _).mono ?_
        rintro e w0 ⟨rfl, hb⟩
        have h0 : RdB w0 w0.heap.size A b := rdB_on h hb
        go_wp2_with fail
        refine (H0.out _ h0).mono ?_
        intro e v0 hh
        obtain ⟨hb0, A0, c0, rfl, _, _, r0⟩ := taken_some hh
        clear hh
        replace h0 := rdB_on h0 hb0
        replace hb := hb.trans (hb0.mono hb.size); clear hb0
        go_wp2_with fail
        refine (H1.out _ h0).mono ?_
        intro e v1 hh
        obtain ⟨hb1, A1, c1, rfl, _, _, r1⟩ := taken_some hh
        clear hh
        replace h0 := rdB_on h0 hb1
        replace r0 := rdB_on r0 hb1
        replace hb := hb.trans (hb1.mono hb.size); clear hb1
        go_wp2_with fail
        refine (H2.out _ h0).mono ?_
        intro e v2 hh
        obtain ⟨hb2, A2, c2, rfl, _, _, r2⟩ := takenI_some hh
        clear hh
        replace h0 := rdB_on h0 hb2
        replace r0 := rdB_on r0 hb2
        replace r1 := rdB_on r1 hb2
        replace hb := hb.trans (hb2.mono hb.size); clear hb2
        go_wp2_with fail
        refine (H3.out _ h0).mono ?_
        intro e v3 hh
        obtain ⟨hb3, A3, c3, rfl, _, _, r3⟩ := takenI_some hh
        clear hh
        replace h0 := rdB_on h0 hb3
        replace r0 := rdB_on r0 hb3
        replace r1 := rdB_on r1 hb3
        replace r2 := rdB_on r2 hb3
        replace hb := hb.trans (hb3.mono hb.size); clear hb3
        go_wp2_with fail
        refine (H4.out _ h0).mono ?_
        intro e v4 hh
        obtain ⟨hb4, rfl⟩ := takenT_none hh
        clear hh
        replace h0 := rdB_on h0 hb4
        replace r0 := rdB_on r0 hb4
        replace r1 := rdB_on r1 hb4
        replace r2 := rdB_on r2 hb4
        replace r3 := rdB_on r3 hb4
        replace hb := hb.trans (hb4.mono hb.size); clear hb4
        go_wp2_with fail
        refine (H5.out _ h0).mono ?_
        intro e v5 hh
        obtain ⟨hb5, rfl⟩ := takenT_none hh
        clear hh
        replace h0 := rdB_on h0 hb5
        replace r0 := rdB_on r0 hb5
        replace r1 := rdB_on r1 hb5
        replace r2 := rdB_on r2 hb5
        replace r3 := rdB_on r3 hb5
        replace hb := hb.trans (hb5.mono hb.size); clear hb5
        have sr0 := strB_of (c := c0) r0; unfold StrB at sr0
        have sr1 := strB_of (c := c1) r1; unfold StrB at sr1
        have sr2 := strB_of (c := c2) r2; unfold StrB at sr2
        have sr3 := strB_of (c := c3) r3; unfold StrB at sr3
        have sn : (convert 25 9 (.slice none 0 0)).run Tryd.prog v5 = .ok (.string ⟨#[]⟩) v5 := strB_of (B := 0) (A := none) (c := 0) (l := []) RdB.nil
        clear r0
        clear r1
        clear r2
        clear r3
        clear h0
        go_wp2_with fail
        go_ret
        exact ⟨by first | rfl | simp, hb⟩
      | some v =>
        obtain ⟨t, u⟩ := v
        rw [hx] at C4 C5
        clear hx
        have H0 := Lib.hid C0; clear C0
        have H1 := Lib.hid C1; clear C1
        have H2 := Lib.hid C2; clear C2
        have H3 := Lib.hid C3; clear C3
        have H4 := Lib.hid C4; clear C4
        have H5 := Lib.hid C5; clear C5
        go_enter Tryd.func6, Tryd.ntmps6
        go_wp2_with fail
        refine (awake_any _).mono ?_
        rintro e w0 ⟨rfl, hb⟩
        have h0 : RdB w0 w0.heap.size A b := rdB_on h hb
        go_wp2_with fail
        refine (H0.out _ h0).mono ?_
        intro e v0 hh
        obtain ⟨hb0, A0, c0, rfl, _, _, r0⟩ := taken_some hh
        clear hh
        replace h0 := rdB_on h0 hb0
        replace hb := hb.trans (hb0.mono hb.size); clear hb0
        go_wp2_with fail
        refine (H1.out _ h0).mono ?_
        intro e v1 hh
        obtain ⟨hb1, A1, c1, rfl, _, _, r1⟩ := taken_some hh
        clear hh
        replace h0 := rdB_on h0 hb1
        replace r0 := rdB_on r0 hb1
        replace hb := hb.trans (hb1.mono hb.size); clear hb1
        go_wp2_with fail
        refine (H2.out _ h0).mono ?_
        intro e v2 hh
        obtain ⟨hb2, A2, c2, rfl, _, _, r2⟩ := takenI_some hh
        clear hh
        replace h0 := rdB_on h0 hb2
        replace r0 := rdB_on r0 hb2
        replace r1 := rdB_on r1 hb2
        replace hb := hb.trans (hb2.mono hb.size); clear hb2
        go_wp2_with fail
        refine (H3.out _ h0).mono ?_
        intro e v3 hh
        obtain ⟨hb3, A3, c3, rfl, _, _, r3⟩ := takenI_some hh
        clear hh
        replace h0 := rdB_on h0 hb3
        replace r0 := rdB_on r0 hb3
        replace r1 := rdB_on r1 hb3
        replace r2 := rdB_on r2 hb3
        replace hb := hb.trans (hb3.mono hb.size); clear hb3
        go_wp2_with fail
        refine (H4.out _ h0).mono ?_
        intro e v4 hh
        obtain ⟨hb4, A4, c4, B4, d4, rfl, t4, u4⟩ := takenT_some hh
        clear hh
        replace h0 := rdB_on h0 hb4
        replace r0 := rdB_on r0 hb4
        replace r1 := rdB_on r1 hb4
        replace r2 := rdB_on r2 hb4
        replace r3 := rdB_on r3 hb4
        replace hb := hb.trans (hb4.mono hb.size); clear hb4
        go_wp2_with fail
        refine (H5.out _ h0).mono ?_
        intro e v5 hh
        obtain ⟨hb5, A5, c5, B5, d5, rfl, t5, u5⟩ := takenT_some hh
        clear hh
        replace h0 := rdB_on h0 hb5
        replace r0 := rdB_on r0 hb5
        replace r1 := rdB_on r1 hb5
        replace r2 := rdB_on r2 hb5
        replace r3 := rdB_on r3 hb5
        replace t4 := rdB_on t4 hb5
        replace u4 := rdB_on u4 hb5
        replace hb := hb.trans (hb5.mono hb.size); clear hb5
        have sr0 := strB_of (c := c0) r0; unfold StrB at sr0
        have sr1 := strB_of (c := c1) r1; unfold StrB at sr1
        have sr2 := strB_of (c := c2) r2; unfold StrB at sr2
        have sr3 := strB_of (c := c3) r3; unfold StrB at sr3
        have st4 := strB_of (c := c4) t4; unfold StrB at st4
        have su4 := strB_of (c := d4) u4; unfold StrB at su4
        have st5 := strB_of (c := c5) t5; unfold StrB at st5
        have su5 := strB_of (c := d5) u5; unfold StrB at su5
        clear r0
        clear r1
        clear r2
        clear r3
        clear t4
        clear u4
        clear t5
        clear u5
        clear h0
        go_wp2_with fail
        go_ret
        exact ⟨by first | rfl | simp, hb⟩
end Go.Proofs.YtnlmiicbdhomaaaDoor
