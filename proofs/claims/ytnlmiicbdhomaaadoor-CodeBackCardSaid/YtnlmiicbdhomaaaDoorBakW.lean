/- The walk of the law CodeBack. -/
import Derived.Test.YtnlmiicbdhomaaaDoorBak
import Derived.Test.YtnlmiicbdhomaaaDoorPartsW
import Derived.Test.YtnlmiicbdhomaaaDoorOrdB
import Derived.Test.YtnlmiicbdhomaaaDoorTakes
import Derived.Test.YtnlmiicbdhomaaaDoorCodC
import Derived.OpenShut
namespace Go.Proofs.YtnlmiicbdhomaaaDoor
open Go.RowKit

theorem same_any (A : Option Addr) (c : Nat) (l : List Pt) (B : Option Addr) (d : Nat) (m : List Pt) (w : World) (h : RdP w w.heap.size A l) (hll : l.length ≤ 9223372036854775807) (h' : RdP w w.heap.size B m) (hmm : m.length ≤ 9223372036854775807)
    (h1 : Cod.less l m = false) (h2 : Cod.less m l = false) :
    Calls Tryd.prog 23 #[.slice A l.length c, .slice B m.length d] w fun e w' => e = .returned (.bool true) ∧ Below w.heap.size w w' := by
  have H1 := Lib.hid h1; clear h1
  have H2 := Lib.hid h2; clear h2
  go_enter Tryd.func23, Tryd.ntmps23
  go_wp2_with fail
  refine (less_any A c l B d m _ h hll h' hmm).mono ?_
  rintro e w1 ⟨rfl, hb1⟩
  rw [H1.out]
  go_wp2_with fail
  refine (less_any B d m A c l _ ((h'.below hb1 (Nat.le_refl _)).more hb1.size) hmm ((h.below hb1 (Nat.le_refl _)).more hb1.size) hll).mono ?_
  rintro e w2 ⟨rfl, hb2⟩
  rw [H2.out]
  go_wp2_with fail
  go_ret
  exact ⟨rfl, hb1.trans (hb2.mono hb1.size)⟩
theorem unzig_zig (x : Int) : unzig (Cod.zig x) = x := by
  unfold unzig Cod.zig
  by_cases h : 0 ≤ x
  · rw [if_pos h, if_pos (by omega)]; omega
  · rw [if_neg h, if_neg (by omega)]; omega
theorem zig_lt {x : Int} (h0 : -9223372036854775808 ≤ x) (h1 : x ≤ 9223372036854775807) : Cod.zig x < 18446744073709551616 := by
  unfold Cod.zig; split <;> omega
theorem int_any (x : Int) (h0 : -9223372036854775808 ≤ x) (h1 : x ≤ 9223372036854775807) (w : World) :
    Calls Tryd.prog 24 #[.int .i64 x] w (GivesB w (Cod.number (Cod.zig x))) := by
  by_cases h : 0 ≤ x
  · exact int_pos x h h1 w
  · exact int_neg x (by omega) h0 w
theorem own_cap_le {w : World} {base : Nat} {e : TypeId} {A : Option Addr} {c : Nat} {l : List UInt8} (h : Own w base e A c l) : c ≤ 9223372036854775807 := by
  rcases h.2 with ⟨hv, hn⟩ | ⟨g, cap, cur, hv, _, _, hc, hm, _⟩
  · injection hv with _ _ h3; omega
  · injection hv with _ _ h3; unfold maxLen at hm; omega
theorem rdB_two (w : World) (H : Nat) (hH : w.heap.size = H) : RdB (w.alloc (.cells #[.int .u8 200, .int .u8 200] 5)) (w.alloc (.cells #[.int .u8 200, .int .u8 200] 5)).heap.size (some ⟨H, 0, none⟩) [200, 200] := by
  subst hH
  refine ⟨by rfl, fun _ => ⟨_, rfl, by simp, fun j u hu => ?_⟩⟩
  have hadd : (⟨w.heap.size, 0, none⟩ : Addr).add j = ⟨w.heap.size, j, none⟩ := by unfold Addr.add; split <;> simp_all
  rw [hadd, cell_of_row _ w.heap.size j _ _ (0, 0) (heap_alloc_new w _)]
  show (bv [200, 200]).toArray[j]? = some u
  simpa using hu
def two : List UInt8 := [200, 200]
theorem take_all (x : Int) (b : List UInt8) (h0 : -9223372036854775808 ≤ x) (h1 : x ≤ 9223372036854775807) : Cod.take (Cod.number (Cod.zig x) ++ Cod.text b ++ two) = some (Cod.zig x, Cod.text b ++ two) := by
  rw [List.append_assoc]; exact Cod.take_of (zig_lt h0 h1) _
theorem cut_all (b : List UInt8) (h : b.length < 18446744073709551616) : cutT (Cod.take (Cod.text b ++ two)) = some (b, two) := by
  unfold Cod.text
  rw [List.append_assoc, Cod.take_of h]
  unfold cutT
  simp
theorem takenI_get {w w' : World} {v : Option (Nat × List UInt8)} {e : Ending} {n : Nat} {x : Int} {r : List UInt8} (h : TakenI w v e w') (hv : v = some (n, r)) (hn : unzig n = x) : Below w.heap.size w w' ∧ ∃ A c, e = .returned (.tuple #[.int .i64 x, .slice A r.length c, .int .i64 0]) ∧ r.length ≤ c ∧ c ≤ 9223372036854775807 ∧ RdB w' w'.heap.size A r := by
  subst hv hn; exact h
theorem takenT_get {w w' : World} {v : Option (List UInt8 × List UInt8)} {e : Ending} {t r : List UInt8} (h : TakenT w v e w') (hv : v = some (t, r)) : Below w.heap.size w w' ∧ ∃ A c B d, e = .returned (.tuple #[.slice A t.length c, .slice B r.length d, .int .i64 0]) ∧ RdB w' w'.heap.size A t ∧ RdB w' w'.heap.size B r := by
  subst hv; exact h

set_option maxHeartbeats 2000000 in
set_option maxRecDepth 100000 in
theorem codeBack_walk0 (A : Option Addr) (c : Nat) (l : List Pt) (x : Int) (B : Option Addr) (d : Nat) (b : List UInt8) (w : World) (h : RdP w w.heap.size A l) (hll : l.length ≤ 9223372036854775807) (hin : PartsIn l)
    (hx0 : -9223372036854775808 ≤ x) (hx1 : x ≤ 9223372036854775807) (hB : RdB w w.heap.size B b) (_hd : b.length ≤ d) (_hdd : d ≤ 9223372036854775807) :
    Calls Tryd.prog 8 #[.slice A l.length c, .int .i64 x, .slice B b.length d] w fun e w' => e = .returned (.bool true) ∧ Below w.heap.size w w' := by
  have HIN := Lib.hid hin; clear hin
  cases hf : fewB l with
  | false =>
    have HF := Lib.hid hf; clear hf
    go_enter Tryd.func8, Tryd.ntmps8
    go_wp2_with fail
    refine (awake_any _).mono ?_
    rintro e w1 ⟨rfl, hb⟩
    go_wp2_with fail
    refine (few_any A c l _ ((h.below hb (Nat.le_refl _)).more hb.size) hll (fun p hp => (HIN.out p hp).2)).mono ?_
    rintro e w2 ⟨rfl, rfl⟩
    rw [HF.out]
    go_wp2_with fail
    go_ret
    exact ⟨rfl, hb⟩
  | true =>
    obtain ⟨hok, hlen, _⟩ := few_ok hf (fun p hp => (HIN.out p hp).1)
    have HF := Lib.hid hf; clear hf
    have HOK := Lib.hid hok; clear hok
    by_cases h1 : 10000 < (b.length : Int)
    · go_enter Tryd.func8, Tryd.ntmps8
      go_wp2_with fail
      refine (awake_any _).mono ?_
      rintro e w1 ⟨rfl, hb⟩
      go_wp2_with fail
      refine (few_any A c l _ ((h.below hb (Nat.le_refl _)).more hb.size) hll (fun p hp => (HIN.out p hp).2)).mono ?_
      rintro e w2 ⟨rfl, rfl⟩
      rw [HF.out]
      go_wp2_with fail
      go_ret
      exact ⟨rfl, hb⟩
    · have hzl := Cod.number_len (zig_lt hx0 hx1)
      have htl : (Cod.text b).length ≤ 10010 := by
        have := Cod.number_len (n := b.length) (by omega)
        unfold Cod.text; rw [List.length_append]; omega
      go_enter Tryd.func8, Tryd.ntmps8
      go_wp2_with fail
      refine (awake_any _).mono ?_
      rintro e w1 ⟨rfl, hb⟩
      have h1p : RdP w1 w1.heap.size A l := (h.below hb (Nat.le_refl _)).more hb.size
      have h1b := rdB_on hB hb
      go_wp2_with fail
      refine (few_any A c l _ h1p hll (fun p hp => (HIN.out p hp).2)).mono ?_
      rintro e w2 ⟨rfl, rfl⟩
      rw [HF.out]
      go_wp2_with fail
      refine (key_any A c l _ h1p HOK.out hll (by omega)).mono ?_
      rintro e w2 ⟨A2, c2, rfl, ho2, hb2⟩
      have h2p : RdP w2 w2.heap.size A l := (h1p.below hb2 (Nat.le_refl _)).more hb2.size
      have h2b := rdB_on h1b hb2
      have hbb := hb.trans (hb2.mono hb.size)
      clear h1p h1b hb hb2 h hB
      go_wp2_with fail
      refine (parts_any A2 c2 (Cod.key l) _ ho2.rd hlen ho2.cap (own_cap_le ho2)).mono ?_
      intro e w3 hh
      obtain ⟨hb3, hr3⟩ := parted_out hh
      clear hh
      have h3p : RdP w3 w3.heap.size A l := (h2p.below hb3 (Nat.le_refl _)).more hb3.size
      have h3b := rdB_on h2b hb3
      replace hbb := hbb.trans (hb3.mono hbb.size)
      clear h2p h2b hb3 ho2
      rcases hr3 with ⟨m, hA, hk, A3, c3, rfl, hm⟩ | ⟨hno, rfl⟩
      · have hml : m.length ≤ 1000000 := by have := key_length_le m; rw [hk] at this; omega
        have hm1 : Cod.less m l = false := Cod.less_of_key (fun p hp => (hA p hp).1) (fun p hp => (HIN.out p hp).1) hk
        have hm2 : Cod.less l m = false := Cod.less_of_key (fun p hp => (HIN.out p hp).1) (fun p hp => (hA p hp).1) hk.symm
        have HM1 := Lib.hid hm1; clear hm1
        have HM2 := Lib.hid hm2; clear hm2
        clear hA hk
        go_wp2_with fail
        refine (same_any A3 c3 m A c l _ hm (by omega) h3p hll HM1.out HM2.out).mono ?_
        rintro e w4 ⟨rfl, hb4⟩
        have h4b := rdB_on h3b hb4
        replace hbb := hbb.trans (hb4.mono hbb.size)
        clear h3p h3b hb4 hm
        have HN0 : Hid (Cod.number (Cod.zig x) = Cod.number (Cod.zig x)) := Lib.hid rfl
        obtain ⟨NX, hNX⟩ : ∃ NX, NX = Cod.number (Cod.zig x) := ⟨_, rfl⟩
        obtain ⟨TB, hTB⟩ : ∃ TB, TB = Cod.text b := ⟨_, rfl⟩
        rw [← hNX] at hzl
        rw [← hTB] at htl
        have HNX := Lib.hid hNX; clear hNX
        have HTB := Lib.hid hTB; clear hTB
        clear HN0
        go_wp2_with (first
          | (go_at_call 24; refine (int_any x hx0 hx1 _).mono ?_; rw [← HNX.out]; rintro e w5 ⟨A5, c5, rfl, ho5, hb5⟩)
          | (at_builtin; refine wpList_append_b _ rfl (.tmp 42) (.tmp 44) bt rfl w4.heap.size (some ⟨w4.heap.size, 0, none⟩) 0 [] rfl ((own_empty w4).below hb5) _ A5 _ c5 NX rfl rfl ho5.rd (by simp; omega) (Nat.le_trans (by simp) hb5.size) ?_; intro A6 c6 L6 w6 hL6 ho6 hg6 hat6; have HL6 := Lib.hid hL6; clear hL6; have hb6 : Below w4.heap.size w4 w6 := below_grow (((Below.refl _ _).alloc (Nat.le_refl _) _).trans (hb5.mono (by simp))) hg6 (fun g hg => by simp [blk] at hg; omega) (Nat.le_trans (by simp) hb5.size); have h6b := rdB_on h4b hb6)
          | (go_at_call 25; refine (text_any B d b _ h6b (by omega)).mono ?_; rw [← HTB.out]; rintro e w7 ⟨A7, c7, rfl, ho7, hb7⟩)
          | (at_builtin; refine wpList_append_b _ rfl (.tmp 45) (.tmp 47) bt rfl w4.heap.size A6 c6 L6 rfl (ho6.below hb7) _ A7 _ c7 TB rfl rfl ho7.rd (by rw [HL6.out]; simp; omega) (Nat.le_trans hb6.size hb7.size) ?_; intro A8 c8 L8 w8 hL8 ho8 hg8 hat8; have HL8 := Lib.hid hL8; clear hL8; have hb8 : Below w4.heap.size w4 w8 := below_grow (hb6.trans (hb7.mono hb6.size)) hg8 (fun g hg => (ho6.blk_ge g hg).1) (Nat.le_trans hb6.size hb7.size))
          | (at_builtin; refine wpList_append_b _ rfl (.tmp 48) (.tmp 49) bt rfl w4.heap.size A8 c8 L8 rfl (ho8.alloc _) _ (some ⟨w8.heap.size, 0, none⟩) 2 2 [200, 200] rfl rfl (rdB_two w8 _ rfl) (by rw [HL8.out, HL6.out]; simp; omega) (Nat.le_trans hb8.size (by simp)) ?_; intro A9 c9 L9 w9 hL9 ho9 hg9 hat9; have HL9 := Lib.hid hL9; clear hL9; have hb9 : Below w4.heap.size w4 w9 := below_grow (hb8.alloc hb8.size _) hg9 (fun g hg => (ho8.blk_ge g hg).1) (Nat.le_trans hb8.size (by simp))))
        have h9b := rdB_on h4b hb9
        replace hbb := hbb.trans (hb9.mono hbb.size)
        have hL9 : L9 = NX ++ TB ++ two := by rw [HL9.out, HL8.out, HL6.out]; rfl
        have h9l : L9.length ≤ 20030 := by rw [hL9]; simp [two]; omega
        have HL := Lib.hid hL9; clear hL9
        clear h4b hb5 hb6 hb7 hb8 hb9 h6b
        obtain ⟨R, hR⟩ : ∃ R, R = TB ++ two := ⟨_, rfl⟩
        have hRl : R.length ≤ 20030 := by rw [hR]; simp [two]; omega
        have HR := Lib.hid hR; clear hR
        go_wp2_with fail
        refine (takeInt_any A9 c9 L9 _ ho9.rd (by omega) ho9.cap (own_cap_le ho9)).mono ?_
        intro e w10 hh
        obtain ⟨hb10, A10, c10, rfl, hc10, hcc10, r10⟩ := takenI_get (r := R) hh (by rw [HL.out, HR.out, HNX.out, HTB.out]; exact take_all x b hx0 hx1) (unzig_zig x)
        clear hh
        have h10b := rdB_on h9b hb10
        replace hbb := hbb.trans (hb10.mono hbb.size)
        clear h9b hb10 ho9
        go_wp2_with fail
        refine (takeText_any A10 c10 R _ r10 (by omega) hc10 hcc10).mono ?_
        intro e w11 hh
        obtain ⟨hb11, A11, c11, A12, c12, rfl, t11, u12⟩ := takenT_get hh (by rw [HR.out, HTB.out]; exact cut_all b (by omega))
        clear hh
        have h11b := rdB_on h10b hb11
        replace hbb := hbb.trans (hb11.mono hbb.size)
        have q1 := strB_of (c := c11) t11; unfold StrB at q1
        have q2 := strB_of (c := d) h11b; unfold StrB at q2
        have e2 : two.length = 2 := rfl
        clear h10b hb11 t11 u12 h11b r10
        go_wp2_with fail
        go_ret
        exact ⟨by first | rfl | simp, hbb⟩
      · exact absurd (Cod.key_norm l) (hno (l.map Cod.norm) (Cod.all_norm (fun p hp => (HIN.out p hp).1)))
theorem codeBack_walk (A : Option Addr) (c : Nat) (l : List Pt) (x : Int) (B : Option Addr) (d : Nat) (b : List UInt8) (w : World) (h : RdP w w.heap.size A l) (hll : l.length ≤ 9223372036854775807) (hin : PartsIn l)
    (hx : (Lit.int .i64 x).wf = true) (hB : RdB w w.heap.size B b) (hd : b.length ≤ d) (hdd : d ≤ 9223372036854775807) :
    Calls Tryd.prog 8 #[.slice A l.length c, .int .i64 x, .slice B b.length d] w fun e w' => e = .returned (.bool true) ∧ Below w.heap.size w w' :=
  codeBack_walk0 A c l x B d b w h hll hin (Go.bounds_i64 hx).1 (Go.bounds_i64 hx).2 hB hd hdd
end Go.Proofs.YtnlmiicbdhomaaaDoor
