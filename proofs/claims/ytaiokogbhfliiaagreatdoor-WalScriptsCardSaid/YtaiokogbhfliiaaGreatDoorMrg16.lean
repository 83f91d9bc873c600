/- Parts of the proof, one behind the other: The contract of the program's Key.; The contract of the reference's Key.; 'awake', 'few', and the walk of the law CodeKeys.; The contract of TakeText; the walk of the law CodeTakes.; TakeText, the program's and the reference's, with more told.; Plain: a frame taken of bytes; it undoes Put.; The contract of frame.Take. -/
import Derived.Test.YtaiokogbhfliiaaGreatDoorMrg14
import Derived.Test.YtaiokogbhfliiaaGreatDoorMrg13
import Derived.Test.YtaiokogbhfliiaaGreatDoorMrg15
import Derived.Deep.RegionHeld
import Derived.Test.YtaiokogbhfliiaaGreatDoorMrg11
import Derived.Test.YtaiokogbhfliiaaGreatDoorMrg05
import Derived.Outline
namespace Go.Proofs.YtaiokogbhfliiaaGreatDoor
open Go.RowKit

end Go.Proofs.YtaiokogbhfliiaaGreatDoor

namespace Go.Proofs.YtaiokogbhfliiaaGreatDoor
open Go.RowKit

end Go.Proofs.YtaiokogbhfliiaaGreatDoor

namespace Go.Proofs.YtaiokogbhfliiaaGreatDoor
open Go.RowKit

/-- string(b) of these bytes. -/
def StrB (w : World) (A : Option Addr) (n c : Nat) (l : List UInt8) : Prop := (convert 23 9 (.slice A n c)).run Tryz.prog w = .ok (.string ⟨l.toArray⟩) w
theorem strB_of {w : World} {B : Nat} {A : Option Addr} {c : Nat} {l : List UInt8} (h : RdB w B A l) : StrB w A l.length c l := run_string_b w bt Tryz.underlying9 B A _ c l rfl h

end Go.Proofs.YtaiokogbhfliiaaGreatDoor

namespace Go.Proofs.YtaiokogbhfliiaaGreatDoor
open Go.RowKit

set_option maxHeartbeats 400000 in
set_option maxRecDepth 100000 in
theorem thenText_any (A : Option Addr) (c : Nat) (b : List UInt8) (w : World) (h : RdB w w.heap.size A b) (hl : b.length ≤ 140737488355328) (hc : b.length ≤ c) (hcc : c ≤ 9223372036854775807) :
    Calls Tryz.prog 185 #[.slice A b.length c, .func (.func 106) #[] #[], .func (.func 186) #[] #[]] w (TakenT w (cutT (Cod.take b))) := by
  have C := take_any A c b w h hl hc hcc
  cases hk : Cod.take b with
  | none =>
    rw [hk] at C
    have HC := Lib.hid C; clear C hk
    go_enter Tryz.func185, Tryz.ntmps185
    go_wp2_with fail
    refine HC.out.mono ?_
    intro e w1 hh
    obtain ⟨hb, rfl⟩ := taken_none hh
    clear hh
    go_wp2_with fail
    refine bodyPost_ret (results_tmp3 rfl _ _ _) rfl ?_
    exact ⟨hb, rfl⟩
  | some v =>
    obtain ⟨n, r⟩ := v
    obtain ⟨hn, hrb⟩ := Cod.take_bound hk
    rw [hk] at C
    have HC := Lib.hid C; clear C hk
    cases hx : cutT (some (n, r)) with
    | none =>
      have HX := Lib.hid hx; clear hx
      go_enter Tryz.func185, Tryz.ntmps185
      go_wp2_with fail
      refine HC.out.mono ?_
      intro e w1 hh
      obtain ⟨hb, A1, c1, rfl, hc1, hcc1, r1⟩ := taken_some hh
      clear hh
      go_wp2_with fail
      refine (text_part A1 c1 n r _ hn r1 (by omega) hc1 hcc1).mono ?_
      rw [HX.out]
      intro e w2 hh
      obtain ⟨hb2, rfl⟩ := takenT_none hh
      clear hh
      go_wp2_with fail
      refine bodyPost_ret (results_tmp3 rfl _ _ _) rfl ?_
      exact ⟨hb.trans (hb2.mono hb.size), rfl⟩
    | some v =>
      obtain ⟨t, u⟩ := v
      have HX := Lib.hid hx; clear hx
      go_enter Tryz.func185, Tryz.ntmps185
      go_wp2_with fail
      refine HC.out.mono ?_
      intro e w1 hh
      obtain ⟨hb, A1, c1, rfl, hc1, hcc1, r1⟩ := taken_some hh
      clear hh
      go_wp2_with fail
      refine (text_part A1 c1 n r _ hn r1 (by omega) hc1 hcc1).mono ?_
      rw [HX.out]
      intro e w2 hh
      obtain ⟨hb2, A2, c2, A3, c3, rfl, t2, u2⟩ := takenT_some hh
      clear hh
      go_wp2_with fail
      refine bodyPost_ret (results_tmp3 rfl _ _ _) rfl ?_
      exact ⟨hb.trans (hb2.mono hb.size), A2, c2, A3, c3, rfl, t2, u2⟩

end Go.Proofs.YtaiokogbhfliiaaGreatDoor

namespace Go.Proofs.YtaiokogbhfliiaaGreatDoor
open Go.RowKit

def TakenS (w : World) (A0 : Option Addr) (v : Option (List UInt8 × List UInt8)) (e : Ending) (w' : World) : Prop :=
  Below w.heap.size w w' ∧ match v with
  | none => e = .returned (.tuple #[.slice none 0 0, .slice none 0 0, .int .i64 3])
  | some (t, r) => ∃ A c B d, e = .returned (.tuple #[.slice A t.length c, .slice B r.length d, .int .i64 0]) ∧ Own w' w.heap.size 5 A c t ∧ RdB w' w'.heap.size B r ∧ r.length ≤ d ∧ d ≤ 9223372036854775807 ∧ Frs w' w.heap.size A0 B
theorem takenS_none {w w' : World} {A0 : Option Addr} {e : Ending} (h : TakenS w A0 none e w') : Below w.heap.size w w' ∧ e = .returned (.tuple #[.slice none 0 0, .slice none 0 0, .int .i64 3]) := h
theorem takenS_some {w w' : World} {A0 : Option Addr} {e : Ending} {t r : List UInt8} (h : TakenS w A0 (some (t, r)) e w') : Below w.heap.size w w' ∧ ∃ A c B d, e = .returned (.tuple #[.slice A t.length c, .slice B r.length d, .int .i64 0]) ∧ Own w' w.heap.size 5 A c t ∧ RdB w' w'.heap.size B r ∧ r.length ≤ d ∧ d ≤ 9223372036854775807 ∧ Frs w' w.heap.size A0 B := h
set_option maxHeartbeats 1000000 in
set_option maxRecDepth 100000 in
theorem textS_part (A : Option Addr) (c n : Nat) (r : List UInt8) (w : World) (hn : n < 18446744073709551616) (h : RdB w w.heap.size A r) (hl : r.length ≤ 140737488355328) (hc : r.length ≤ c) (hcc : c ≤ 9223372036854775807) :
    Calls Tryz.prog 186 #[.int .u64 (n : Int), .slice A r.length c] w (TakenS w A (cutT (some (n, r)))) := by
  by_cases hnr : (r.length : Int) < (n : Int)
  · have e : cutT (some (n, r)) = none := by unfold cutT; simp only; rw [if_neg (by omega)]
    rw [e]
    go_enter Tryz.func186, Tryz.ntmps186
    go_wp2
    refine bodyPost_ret (results_tmp3 rfl _ _ _) rfl ?_
    exact ⟨Below.refl _ _, rfl⟩
  · have e : cutT (some (n, r)) = some (r.take n, r.drop n) := by unfold cutT; simp only; rw [if_pos (by omega)]
    rw [e]
    have ht : RdB w w.heap.size A (r.take n) := h.take (by omega)
    have htl : n = (r.take n).length := by rw [List.length_take]; omega
    have hdl : r.length - n = (r.drop n).length := by simp
    obtain ⟨t, htt⟩ : ∃ t, t = r.take n := ⟨_, rfl⟩
    rw [← htt] at ht htl ⊢
    have htl2 : t.length ≤ 140737488355328 := by omega
    have hn1 : n ≤ r.length := by omega
    have hn2 : n ≤ c := by omega
    have HL := Lib.hid htl2
    have HT := Lib.hid ht
    have HTL := Lib.hid htl
    have HDL := Lib.hid hdl
    have HH := Lib.hid h
    clear ht htl hdl htt e h htl2 hl
    cases A with
    | none =>
      have hr0 : r = [] := by
        cases r with
        | nil => rfl
        | cons b r => obtain ⟨ad, h, _⟩ := HH.out.2 (by simp); cases h
      subst hr0
      have hn0 : n = 0 := by simpa using hn1
      subst hn0
      by_cases hc0 : c = 0
      · subst hc0
        go_enter Tryz.func186, Tryz.ntmps186
        go_wp2
        go_region_held (fun w' => RdB w' w'.heap.size none t ∧ Below w.heap.size w w')
          (first | exact rdB_keep HT.out ((Below.refl _ _).drew) | exact rdB_keep HT.out B3)
          (first
            | (go_at_call 43; refine (clone_cut none 0 0 t _ HTL.out (by go_split_ands; assumption) HL.out).mono ?_; rintro e w3 ⟨A3, c3, rfl, ho3, hb3⟩; have B3 := Below.trans (b := _) (by go_split_ands; assumption : Below w.heap.size w _) (hb3.mono (by go_split_ands; exact Below.size (by assumption))); have O3 := Own.mono ho3 (by go_split_ands; exact Below.size (by assumption) : w.heap.size ≤ _)))
        go_wp2
        refine bodyPost_ret (results_tmp3 rfl _ _ _) rfl ?_
        exact ⟨B3, A3, c3, none, 0, rfl, O3, RdB.nil, by simp, by omega, Frs.nil _ _ _⟩
      · have hc1 : 0 < c := by omega
        go_enter Tryz.func186, Tryz.ntmps186
        go_wp2
        go_region_held (fun w' => RdB w' w'.heap.size none t ∧ Below w.heap.size w w')
          (first | exact rdB_keep HT.out ((Below.refl _ _).drew) | exact rdB_keep HT.out B3)
          (first
            | (go_at_call 43; refine (clone_cut none 0 c t _ HTL.out (by go_split_ands; assumption) HL.out).mono ?_; rintro e w3 ⟨A3, c3, rfl, ho3, hb3⟩; have B3 := Below.trans (b := _) (by go_split_ands; assumption : Below w.heap.size w _) (hb3.mono (by go_split_ands; exact Below.size (by assumption))); have O3 := Own.mono ho3 (by go_split_ands; exact Below.size (by assumption) : w.heap.size ≤ _)))
        go_wp2
        refine bodyPost_ret (results_tmp3 rfl _ _ _) rfl ?_
        exact ⟨B3, A3, c3, none, c, rfl, O3, RdB.nil, by simp, hcc, Frs.nil _ _ _⟩
    | some ad =>
      have q := HH.out.drop (k := n) (cap := c) hn1 hc
      by_cases hcn : c = n
      · subst hcn
        rw [if_pos rfl] at q
        have HQ := Lib.hid q; clear q
        go_enter Tryz.func186, Tryz.ntmps186
        go_wp2
        go_region_held (fun w' => RdB w' w'.heap.size (some ad) t ∧ Below w.heap.size w w')
          (first | exact rdB_keep HT.out ((Below.refl _ _).drew) | exact rdB_keep HT.out B3)
          (first
            | (go_at_call 43; refine (clone_cut (some ad) c c t _ HTL.out (by go_split_ands; assumption) HL.out).mono ?_; rintro e w3 ⟨A3, c3, rfl, ho3, hb3⟩; have B3 := Below.trans (b := _) (by go_split_ands; assumption : Below w.heap.size w _) (hb3.mono (by go_split_ands; exact Below.size (by assumption))); have O3 := Own.mono ho3 (by go_split_ands; exact Below.size (by assumption) : w.heap.size ≤ _)))
        go_wp2
        refine bodyPost_ret (results_tmp3 rfl _ _ _) rfl ?_
        exact ⟨B3, A3, c3, some ad, 0, ret_takt rfl (by have := HDL.out; omega), O3, (HQ.out.below B3 (Nat.le_refl _)).more B3.size, by have := HDL.out; omega, by omega, Frs.self _ _ _⟩
      · have hcn2 : n < c := by omega
        rw [if_neg hcn] at q
        have HQ := Lib.hid q; clear q
        go_enter Tryz.func186, Tryz.ntmps186
        go_wp2
        go_region_held (fun w' => RdB w' w'.heap.size (some ad) t ∧ Below w.heap.size w w')
          (first | exact rdB_keep HT.out ((Below.refl _ _).drew) | exact rdB_keep HT.out B3)
          (first
            | (go_at_call 43; refine (clone_cut (some ad) n c t _ HTL.out (by go_split_ands; assumption) HL.out).mono ?_; rintro e w3 ⟨A3, c3, rfl, ho3, hb3⟩; have B3 := Below.trans (b := _) (by go_split_ands; assumption : Below w.heap.size w _) (hb3.mono (by go_split_ands; exact Below.size (by assumption))); have O3 := Own.mono ho3 (by go_split_ands; exact Below.size (by assumption) : w.heap.size ≤ _)))
        go_wp2
        refine bodyPost_ret (results_tmp3 rfl _ _ _) rfl ?_
        exact ⟨B3, A3, c3, some (ad.add n), c - n, ret_takt rfl HDL.out, O3, (HQ.out.below B3 (Nat.le_refl _)).more B3.size, by have := HDL.out; omega, by omega, (Frs.self _ _ _).add⟩

set_option maxHeartbeats 1000000 in
set_option maxRecDepth 100000 in
theorem rtakeTextS_any (A : Option Addr) (c : Nat) (b : List UInt8) (w : World) (h : RdB w w.heap.size A b) (hl : b.length ≤ 140737488355328) (hc : b.length ≤ c) (hcc : c ≤ 9223372036854775807) :
    Calls Tryz.prog 163 #[.slice A b.length c] w (TakenS w A (cutT (Cod.take b))) := by
  have C := rtakeF_any A c b w h hl hc hcc
  cases hk : Cod.take b with
  | none =>
    rw [hk] at C
    have HC := Lib.hid C; clear C hk
    go_enter Tryz.func163, Tryz.ntmps163
    go_wp2_with fail
    refine HC.out.mono ?_
    intro e w1 hh
    obtain ⟨hb, rfl⟩ := takenF_none hh
    clear hh
    go_wp2_with fail
    refine bodyPost_ret (results_tmp3 rfl _ _ _) rfl ?_
    exact ⟨hb, rfl⟩
  | some v =>
    obtain ⟨n, r⟩ := v
    obtain ⟨hn, hrb⟩ := Cod.take_bound hk
    have hl : r.length ≤ 140737488355328 := by omega
    rw [hk] at C
    have HC := Lib.hid C; clear C hk hrb h hc hcc
    go_enter Tryz.func163, Tryz.ntmps163
    go_wp2_with fail
    refine HC.out.mono ?_
    intro e w1 hh
    obtain ⟨hb, A, c, rfl, hc, hcc, h, hfr⟩ := takenF_some hh
    have HF := Lib.hid hfr; clear hfr
    clear hh HC
    by_cases hnr : (r.length : Int) < (n : Int)
    · have e : cutT (some (n, r)) = none := by unfold cutT; simp only; rw [if_neg (by omega)]
      have HE := Lib.hid e; clear e
      go_wp2_with fail
      refine bodyPost_ret (results_tmp3 rfl _ _ _) rfl ?_
      refine ⟨hb, ?_⟩
      rw [HE.out]; rfl
    · have e : cutT (some (n, r)) = some (r.take n, r.drop n) := by unfold cutT; simp only; rw [if_pos (by omega)]
      have HE := Lib.hid e; clear e
      have ht : RdB w1 w1.heap.size A (r.take n) := h.take (by omega)
      have htl : n = (r.take n).length := by rw [List.length_take]; omega
      have hdl : r.length - n = (r.drop n).length := by simp
      obtain ⟨t, htt⟩ : ∃ t, t = r.take n := ⟨_, rfl⟩
      rw [← htt] at ht htl
      have htl2 : t.length ≤ 140737488355328 := by omega
      have hn1 : n ≤ r.length := by omega
      have hn2 : n ≤ c := by omega
      have HTT := Lib.hid htt
      have HL := Lib.hid htl2
      have HT := Lib.hid ht
      have HTL := Lib.hid htl
      have HDL := Lib.hid hdl
      have HH := Lib.hid h
      have HB := Lib.hid hb
      clear ht htl hdl htt h htl2 hl hb
      cases A with
      | none =>
        have hr0 : r = [] := by
          cases r with
          | nil => rfl
          | cons b r => obtain ⟨ad, h, _⟩ := HH.out.2 (by simp); cases h
        subst hr0
        have hn0 : n = 0 := by simpa using hn1
        subst hn0
        by_cases hc0 : c = 0
        · subst hc0
          go_wp2_with fail
          go_region_held_law (fun _ => True) (trivial) ((refine step_append_bd _ (by rfl) (some 27) (by rfl) (.tmp 23) (.tmp 26) bt (by rfl) w1.heap.size (some ⟨w1.heap.size, 0, none⟩) 0 [] rfl (own_empty w1.drew) w1.heap.size none 0 0 t rfl HTL.out (HT.out.drew.alloc (Nat.le_refl _) _) (by have := HL.out; simp; omega) (by simp) ?_; intro A3 c3 L3 w3 hL3 ho3 hg3 hat3; have HL3 := Lib.hid hL3; clear hL3))
          have hb3 : Below w1.heap.size w1 w3 := below_grow (((Below.refl w1.heap.size w1).drew).alloc (Nat.le_refl _) _) hg3 (fun g hg => by simp [blk] at hg; omega) (by simp)
          have e3 : L3 = t := HL3.out
          subst e3
          go_wp2
          refine bodyPost_ret (results_tmp3 rfl _ _ _) rfl ?_
          refine ⟨HB.out.trans (hb3.mono HB.out.size), ?_⟩
          rw [HE.out, ← HTT.out]
          exact ⟨A3, c3, none, 0, ret_takt rfl (by simp), ho3.mono HB.out.size, RdB.nil, by simp, by omega, Frs.nil _ _ _⟩
        · have hc1 : 0 < c := by omega
          go_wp2_with fail
          go_region_held_law (fun _ => True) (trivial) ((refine step_append_bd _ (by rfl) (some 27) (by rfl) (.tmp 23) (.tmp 26) bt (by rfl) w1.heap.size (some ⟨w1.heap.size, 0, none⟩) 0 [] rfl (own_empty w1.drew) w1.heap.size none 0 c t rfl HTL.out (HT.out.drew.alloc (Nat.le_refl _) _) (by have := HL.out; simp; omega) (by simp) ?_; intro A3 c3 L3 w3 hL3 ho3 hg3 hat3; have HL3 := Lib.hid hL3; clear hL3))
          have hb3 : Below w1.heap.size w1 w3 := below_grow (((Below.refl w1.heap.size w1).drew).alloc (Nat.le_refl _) _) hg3 (fun g hg => by simp [blk] at hg; omega) (by simp)
          have e3 : L3 = t := HL3.out
          subst e3
          go_wp2
          refine bodyPost_ret (results_tmp3 rfl _ _ _) rfl ?_
          refine ⟨HB.out.trans (hb3.mono HB.out.size), ?_⟩
          rw [HE.out, ← HTT.out]
          exact ⟨A3, c3, none, c, ret_takt rfl (by simp), ho3.mono HB.out.size, RdB.nil, by simp, hcc, Frs.nil _ _ _⟩
      | some ad =>
        have q := HH.out.drop (k := n) (cap := c) hn1 hc
        by_cases hcn : c = n
        · subst hcn
          rw [if_pos rfl] at q
          have HQ := Lib.hid q; clear q
          go_wp2_with fail
          go_region_held_law (fun _ => True) (trivial) ((refine step_append_bd _ (by rfl) (some 27) (by rfl) (.tmp 23) (.tmp 26) bt (by rfl) w1.heap.size (some ⟨w1.heap.size, 0, none⟩) 0 [] rfl (own_empty w1.drew) w1.heap.size (some ad) c c t rfl HTL.out (HT.out.drew.alloc (Nat.le_refl _) _) (by have := HL.out; simp; omega) (by simp) ?_; intro A3 c3 L3 w3 hL3 ho3 hg3 hat3; have HL3 := Lib.hid hL3; clear hL3))
          have hb3 : Below w1.heap.size w1 w3 := below_grow (((Below.refl w1.heap.size w1).drew).alloc (Nat.le_refl _) _) hg3 (fun g hg => by simp [blk] at hg; omega) (by simp)
          have e3 : L3 = t := HL3.out
          subst e3
          go_wp2
          refine bodyPost_ret (results_tmp3 rfl _ _ _) rfl ?_
          refine ⟨HB.out.trans (hb3.mono HB.out.size), ?_⟩
          rw [HE.out, ← HTT.out]
          exact ⟨A3, c3, some ad, 0, ret_takt rfl (by have := HDL.out; omega), ho3.mono HB.out.size, (HQ.out.below hb3 (Nat.le_refl _)).more hb3.size, by have := HDL.out; omega, by omega, HF.out.below hb3⟩
        · have hcn2 : n < c := by omega
          rw [if_neg hcn] at q
          have HQ := Lib.hid q; clear q
          go_wp2_with fail
          go_region_held_law (fun _ => True) (trivial) ((refine step_append_bd _ (by rfl) (some 27) (by rfl) (.tmp 23) (.tmp 26) bt (by rfl) w1.heap.size (some ⟨w1.heap.size, 0, none⟩) 0 [] rfl (own_empty w1.drew) w1.heap.size (some ad) n c t rfl HTL.out (HT.out.drew.alloc (Nat.le_refl _) _) (by have := HL.out; simp; omega) (by simp) ?_; intro A3 c3 L3 w3 hL3 ho3 hg3 hat3; have HL3 := Lib.hid hL3; clear hL3))
          have hb3 : Below w1.heap.size w1 w3 := below_grow (((Below.refl w1.heap.size w1).drew).alloc (Nat.le_refl _) _) hg3 (fun g hg => by simp [blk] at hg; omega) (by simp)
          have e3 : L3 = t := HL3.out
          subst e3
          go_wp2
          refine bodyPost_ret (results_tmp3 rfl _ _ _) rfl ?_
          refine ⟨HB.out.trans (hb3.mono HB.out.size), ?_⟩
          rw [HE.out, ← HTT.out]
          exact ⟨A3, c3, some (ad.add n), c - n, ret_takt rfl (HDL.out), ho3.mono HB.out.size, (HQ.out.below hb3 (Nat.le_refl _)).more hb3.size, by have := HDL.out; omega, by omega, (HF.out.below hb3).add⟩
set_option maxHeartbeats 400000 in
set_option maxRecDepth 100000 in
theorem thenTextS_any (A : Option Addr) (c : Nat) (b : List UInt8) (w : World) (h : RdB w w.heap.size A b) (hl : b.length ≤ 140737488355328) (hc : b.length ≤ c) (hcc : c ≤ 9223372036854775807) :
    Calls Tryz.prog 185 #[.slice A b.length c, .func (.func 106) #[] #[], .func (.func 186) #[] #[]] w (TakenS w A (cutT (Cod.take b))) := by
  have C := takeF_any A c b w h hl hc hcc
  cases hk : Cod.take b with
  | none =>
    rw [hk] at C
    have HC := Lib.hid C; clear C hk
    go_enter Tryz.func185, Tryz.ntmps185
    go_wp2_with fail
    refine HC.out.mono ?_
    intro e w1 hh
    obtain ⟨hb, rfl⟩ := takenF_none hh
    clear hh
    go_wp2_with fail
    refine bodyPost_ret (results_tmp3 rfl _ _ _) rfl ?_
    exact ⟨hb, rfl⟩
  | some v =>
    obtain ⟨n, r⟩ := v
    obtain ⟨hn, hrb⟩ := Cod.take_bound hk
    rw [hk] at C
    have HC := Lib.hid C; clear C hk
    cases hx : cutT (some (n, r)) with
    | none =>
      have HX := Lib.hid hx; clear hx
      go_enter Tryz.func185, Tryz.ntmps185
      go_wp2_with fail
      refine HC.out.mono ?_
      intro e w1 hh
      obtain ⟨hb, A1, c1, rfl, hc1, hcc1, r1, fr1⟩ := takenF_some hh
      clear hh
      go_wp2_with fail
      refine (textS_part A1 c1 n r _ hn r1 (by omega) hc1 hcc1).mono ?_
      rw [HX.out]
      intro e w2 hh
      obtain ⟨hb2, rfl⟩ := takenS_none hh
      clear hh
      go_wp2_with fail
      refine bodyPost_ret (results_tmp3 rfl _ _ _) rfl ?_
      exact ⟨hb.trans (hb2.mono hb.size), rfl⟩
    | some v =>
      obtain ⟨t, u⟩ := v
      have HX := Lib.hid hx; clear hx
      go_enter Tryz.func185, Tryz.ntmps185
      go_wp2_with fail
      refine HC.out.mono ?_
      intro e w1 hh
      obtain ⟨hb, A1, c1, rfl, hc1, hcc1, r1, fr1⟩ := takenF_some hh
      clear hh
      go_wp2_with fail
      refine (textS_part A1 c1 n r _ hn r1 (by omega) hc1 hcc1).mono ?_
      rw [HX.out]
      intro e w2 hh
      obtain ⟨hb2, A2, c2, A3, c3, rfl, t2, u2, v2, x2, y2⟩ := takenS_some hh
      clear hh
      go_wp2_with fail
      refine bodyPost_ret (results_tmp3 rfl _ _ _) rfl ?_
      exact ⟨hb.trans (hb2.mono hb.size), A2, c2, A3, c3, rfl, t2.mono hb.size, u2, v2, x2, fr1.trans y2 hb2 hb.size⟩

set_option maxRecDepth 100000 in
theorem takeTextS_any (A : Option Addr) (c : Nat) (b : List UInt8) (w : World) (h : RdB w w.heap.size A b) (hl : b.length ≤ 140737488355328) (hc : b.length ≤ c) (hcc : c ≤ 9223372036854775807) :
    Calls Tryz.prog 176 #[.slice A b.length c] w (TakenS w A (cutT (Cod.take b))) := by
  have C := thenTextS_any A c b w h hl hc hcc
  cases hx : cutT (Cod.take b) with
  | none =>
    rw [hx] at C
    have HC := Lib.hid C; clear C hx
    go_enter Tryz.func176, Tryz.ntmps176
    go_wp2_with fail
    refine HC.out.mono ?_
    intro e w1 hh
    obtain ⟨hb, rfl⟩ := takenS_none hh
    clear hh
    go_wp2_with fail
    refine bodyPost_ret (results_tmp3 rfl _ _ _) rfl ?_
    exact ⟨hb, rfl⟩
  | some v =>
    obtain ⟨t, u⟩ := v
    rw [hx] at C
    have HC := Lib.hid C; clear C hx
    go_enter Tryz.func176, Tryz.ntmps176
    go_wp2_with fail
    refine HC.out.mono ?_
    intro e w1 hh
    obtain ⟨hb, A2, c2, A3, c3, rfl, t2, u2, v2, x2, y2⟩ := takenS_some hh
    clear hh
    go_wp2_with fail
    refine bodyPost_ret (results_tmp3 rfl _ _ _) rfl ?_
    exact ⟨hb, A2, c2, A3, c3, rfl, t2, u2, v2, x2, y2⟩

end Go.Proofs.YtaiokogbhfliiaaGreatDoor

namespace Go.Proofs.YtaiokogbhfliiaaGreatDoor
open Go.RowKit

namespace Frm
/-- The number of four bytes, the highest first. -/
def num4 (l : List UInt8) : Nat := l.foldl (fun n c => n * 256 + c.toNat) 0
/-- What bytes begin with: the frame's kind, its bytes, the rest. -/
def take (b : List UInt8) : Option (UInt8 × List UInt8 × List UInt8) := match b with
  | [] => none
  | k :: b' => match cutT (Cod.take b') with
    | none => none
    | some (t, r) => if t.length ≤ 65536 ∧ 4 ≤ r.length ∧ r.take 4 = be4 (Chk.sum (head k t)) then some (k, t, r.drop 4) else none
theorem cutT_text {b t r : List UInt8} (h : cutT (Cod.take b) = some (t, r)) : b = Cod.text t ++ r := by
  unfold cutT at h
  split at h
  · cases h
  · rename_i n r0 hk
    split at h
    · rename_i hn
      injection h with h; injection h with h1 h2
      subst h1 h2
      rw [Cod.take_number hk]
      unfold Cod.text
      have e : (r0.take n).length = n := by rw [List.length_take]; omega
      rw [e, List.append_assoc, List.take_append_drop]
    · cases h
theorem take_num (n : Nat) (h : n < 18446744073709551616) (r : List UInt8) : Cod.take (Cod.number n ++ r) = some (n, r) := Cod.take_of h r
theorem cutT_of (t r : List UInt8) (h : t.length < 18446744073709551616) : cutT (Cod.take (Cod.text t ++ r)) = some (t, r) := by
  unfold Cod.text
  rw [List.append_assoc, take_num _ h]
  unfold cutT
  simp
theorem be4_len (n : Nat) : (be4 n).length = 4 := rfl
theorem take_put (k : UInt8) (t r : List UInt8) (h : t.length ≤ 65536) : take (put k t ++ r) = some (k, t, r) := by
  unfold put
  have e : head k t ++ be4 (Chk.sum (head k t)) ++ r = k :: (Cod.text t ++ (be4 (Chk.sum (head k t)) ++ r)) := by
    rw [List.append_assoc]; rfl
  rw [e, take, cutT_of _ _ (by omega)]
  simp only
  rw [if_pos ⟨h, by simp [be4_len], by rw [List.take_append_of_le_length (by simp [be4_len]), List.take_of_length_le (by simp [be4_len])]⟩]
  rw [List.drop_append_of_le_length (by simp [be4_len]), List.drop_of_length_le (by simp [be4_len])]
  rfl
theorem of_take {b t r : List UInt8} {k : UInt8} (h : take b = some (k, t, r)) : b = put k t ++ r ∧ t.length ≤ 65536 := by
  unfold take at h
  split at h
  · cases h
  · rename_i k' b'
    split at h
    · cases h
    · rename_i t' r' hc
      split at h
      · rename_i hh
        obtain ⟨h1, h2, h3⟩ := hh
        injection h with h; injection h with e1 h; injection h with e2 e3
        subst e1 e2 e3
        refine ⟨?_, h1⟩
        rw [cutT_text hc, put, ← h3, List.append_assoc, List.take_append_drop]
        rfl
      · cases h
theorem num4_be4 (n : Nat) (h : n < 4294967296) : num4 (be4 n) = n := by
  unfold num4 be4
  simp only [List.foldl_cons, List.foldl_nil, UInt8.toNat_ofNat']
  omega
theorem num4_lt (l : List UInt8) : ∀ n : Nat, l.foldl (fun n (c : UInt8) => n * 256 + c.toNat) n < (n + 1) * 256 ^ l.length := by
  induction l with
  | nil => intro n; simp
  | cons c l ih =>
    intro n
    have h1 := ih (n * 256 + c.toNat)
    have h2 := c.toNat_lt
    rw [List.foldl_cons, List.length_cons, Nat.pow_succ]
    refine Nat.lt_of_lt_of_le h1 ?_
    rw [Nat.mul_comm (256 ^ l.length) 256, ← Nat.mul_assoc]
    exact Nat.mul_le_mul_right _ (by omega)
theorem num4_inj {l m : List UInt8} (hl : l.length = 4) (hm : m.length = 4) (h : num4 l = num4 m) : l = m := by
  match l, hl, m, hm with
  | [a, b, c, d], _, [e, f, g, i], _ =>
    unfold num4 at h
    simp only [List.foldl_cons, List.foldl_nil] at h
    have := a.toNat_lt; have := b.toNat_lt; have := c.toNat_lt; have := d.toNat_lt
    have := e.toNat_lt; have := f.toNat_lt; have := g.toNat_lt; have := i.toNat_lt
    have h1 : a.toNat = e.toNat := by omega
    have h2 : b.toNat = f.toNat := by omega
    have h3 : c.toNat = g.toNat := by omega
    have h4 : d.toNat = i.toNat := by omega
    rw [UInt8.toNat_inj.1 h1, UInt8.toNat_inj.1 h2, UInt8.toNat_inj.1 h3, UInt8.toNat_inj.1 h4]
theorem sum_iff (r h : List UInt8) (hr : 4 ≤ r.length) : r.take 4 = be4 (Chk.sum h) ↔ Chk.sum h = num4 (r.take 4) := by
  have hs : Chk.sum h < 2147483647 := Chk.sum_lt _
  constructor
  · intro e; rw [e, num4_be4 _ (by omega)]
  · intro e; exact num4_inj (by rw [List.length_take]; omega) rfl (by rw [num4_be4 _ (by omega), e])
theorem num4_snoc (l : List UInt8) (c : UInt8) : num4 (l ++ [c]) = num4 l * 256 + c.toNat := by unfold num4; simp [List.foldl_append]
end Frm
end Go.Proofs.YtaiokogbhfliiaaGreatDoor

namespace Go.Proofs.YtaiokogbhfliiaaGreatDoor
open Go.RowKit

/-- What was taken: a frame, the rest. -/
def TakenR (w : World) (A0 : Option Addr) (v : Option (UInt8 × List UInt8 × List UInt8)) (e : Ending) (w' : World) : Prop :=
  Below w.heap.size w w' ∧ match v with
  | none => e = .returned (.tuple #[.agg #[.int .u8 0, .slice none 0 0], .slice none 0 0, .int .i64 3])
  | some (k, t, r) => ∃ A c B d, e = .returned (.tuple #[.agg #[.int .u8 (k.toNat : Int), .slice A t.length c], .slice B r.length d, .int .i64 0]) ∧ Own w' w.heap.size 5 A c t ∧ RdB w' w'.heap.size B r ∧ r.length ≤ d ∧ d ≤ 9223372036854775807 ∧ Frs w' w.heap.size A0 B
theorem takenR_no {w w' : World} {A0 : Option Addr} {b : List UInt8} (hv : Frm.take b = none) (hb : Below w.heap.size w w') : TakenR w A0 (Frm.take b) (.returned (.tuple #[.agg #[.int .u8 0, .slice none 0 0], .slice none 0 0, .int .i64 3])) w' := by
  rw [hv]; exact ⟨hb, rfl⟩
theorem frame_size : (Tryz.prog.info? 147).map (fun x => x.size) = some 2 := by kernel_rfl
theorem take_cons_none {k : UInt8} {l : List UInt8} (h : cutT (Cod.take l) = none) : Frm.take (k :: l) = none := by unfold Frm.take; simp only [h]
theorem take_cons_no {k : UInt8} {l t r : List UInt8} (h : cutT (Cod.take l) = some (t, r)) (hn : ¬ (t.length ≤ 65536 ∧ 4 ≤ r.length ∧ r.take 4 = Frm.be4 (Chk.sum (Frm.head k t)))) : Frm.take (k :: l) = none := by
  unfold Frm.take; simp only [h]; rw [if_neg hn]
theorem take_cons_yes {k : UInt8} {l t r : List UInt8} (h : cutT (Cod.take l) = some (t, r)) (hn : t.length ≤ 65536 ∧ 4 ≤ r.length ∧ r.take 4 = Frm.be4 (Chk.sum (Frm.head k t))) : Frm.take (k :: l) = some (k, t, r.drop 4) := by
  unfold Frm.take; simp only [h]; rw [if_pos hn]
theorem takeTextS_cut (A : Option Addr) (n c : Nat) (b : List UInt8) (w : World) (hn : n = b.length) (h : RdB w w.heap.size A b) (hl : b.length ≤ 140737488355328) (hc : b.length ≤ c) (hcc : c ≤ 9223372036854775807) :
    Calls Tryz.prog 176 #[.slice A n c] w (TakenS w A (cutT (Cod.take b))) := by subst hn; exact takeTextS_any A c b w h hl hc hcc
theorem frs_sets {w : World} {n G : Nat} {A B : Option Addr} (h : Frs w n A B) (hG : ∀ x, blk B = some x → x ≠ G) (a b : Value) : Frs ((w.setCell ⟨G, 0, none⟩ a).setCell ⟨G, 1, none⟩ b) n A B := fun g hg => by
  rcases h g hg with h1 | ⟨h1, cs, fr, h2⟩
  · exact .inl h1
  · refine .inr ⟨h1, cs, fr, ?_⟩
    rw [Below.heap_setCell _ _ _ _ (by have := hG g hg; simpa using this), Below.heap_setCell _ _ _ _ (by have := hG g hg; simpa using this)]
    exact h2
theorem heap_set2 {w : World} {g : Nat} {x y a b : Value} {T : TypeId} (h : w.heap[g]? = some (.cells #[x, y] T)) : ((w.setCell ⟨g, 0, none⟩ a).setCell ⟨g, 1, none⟩ b).heap[g]? = some (.cells #[a, b] T) := by
  have h1 := heap_setCell_same w g 0 _ T a h
  have h2 := heap_setCell_same _ g 1 _ T b h1
  simpa using h2
theorem join8u {n x : Nat} (hn : n < 16777216) (hx : x < 256) : bits .or .u32 ((n : Int) * 256) (x : Int) = ((n * 256 + x : Nat) : Int) := by
  have e1 : ((n : Int) * 256) = ((n * 256 : Nat) : Int) := by omega
  rw [e1, u32_or_nat _ _ (by omega) (by omega), nat_join8 (n * 256) x (by omega) (by omega)]
theorem chksum_cut (A : Option Addr) (n c : Nat) (l : List UInt8) (w : World) (hn : n = l.length) (h : RdB w w.heap.size A l) (hl : l.length ≤ 140737488355328) :
    Calls Tryz.prog 98 #[.slice A n c] w fun e w' => e = .returned (.int .u32 (Chk.sum l : Int)) ∧ Below w.heap.size w w' := by subst hn; exact chksum_any A c l w h hl
theorem own_keep2 {w w' : World} {base c : Nat} {e : TypeId} {A : Option Addr} {l : List UInt8} (h : Own w base e A c l) (hb : ∀ g, blk A = some g → w'.heap[g]? = w.heap[g]?) : Own w' base e A c l := by
  refine ⟨h.1, ?_⟩
  rcases h.2 with h2 | ⟨g, cap, cur, hv, hg, hh, r⟩
  · exact .inl h2
  · refine .inr ⟨g, cap, cur, hv, hg, ?_, r⟩
    injection hv with hv
    rw [hb g (by rw [hv]; rfl)]
    exact hh
theorem own_le2 {w : World} {n c : Nat} {T : TypeId} {A : Option Addr} {l : List UInt8} (h : Own w (n + 1) T A c l) : Own w n T A c l := h.mono (Nat.le_succ n)
theorem own_sets {w : World} {base G c : Nat} {T : TypeId} {A : Option Addr} {l : List UInt8} (h : Own w base T A c l) (hG : G < base) (a b : Value) : Own ((w.setCell ⟨G, 0, none⟩ a).setCell ⟨G, 1, none⟩ b) base T A c l := by
  refine own_keep2 h (fun g hg => ?_)
  have h1 := (h.blk_ge g hg).1
  rw [Below.heap_setCell _ _ _ _ (by simp; omega), Below.heap_setCell _ _ _ _ (by simp; omega)]
theorem rdB_sets2 {w : World} {B G : Nat} {A : Option Addr} {l : List UInt8} (h : RdB w B A l) (hA : ∀ g, blk A = some g → g ≠ G) (a b : Value) : RdB ((w.setCell ⟨G, 0, none⟩ a).setCell ⟨G, 1, none⟩ b) B A l := by
  refine ⟨h.1, fun hn => ?_⟩
  obtain ⟨ad, e, hb, hc⟩ := h.2 hn
  have hne : ad.block ≠ G := hA _ (by rw [e]; rfl)
  refine ⟨ad, e, hb, fun j u hu => ?_⟩
  rw [World.cell?_setCell_other _ _ _ _ (fun e => hne (by rw [← block_of_add ad j, ← e])), World.cell?_setCell_other _ _ _ _ (fun e => hne (by rw [← block_of_add ad j, ← e]))]
  exact hc j u hu
set_option maxHeartbeats 2000000 in
set_option maxRecDepth 100000 in
theorem ftake_any (A : Option Addr) (c : Nat) (b : List UInt8) (w : World) (h : RdB w w.heap.size A b) (hl : b.length ≤ 140737488355328) (hc : b.length ≤ c) (hcc : c ≤ 9223372036854775807) :
    Calls Tryz.prog 156 #[.slice A b.length c] w (TakenR w A (Frm.take b)) := by
  have HAL : Hid (∀ o, Below w.heap.size w (w.alloc o)) := Lib.hid (fun o => (Below.refl _ _).alloc (Nat.le_refl _) o)
  rcases b with _ | ⟨k, b⟩
  · go_enter Tryz.func156, Tryz.ntmps156
    go_wp2_with fail
    refine bodyPost_ret (results_c3 rfl _ _ w.heap.size 147 #[.int .u8 0, .slice none 0 0] _ _ rfl (heap_alloc_new _ _) Tryz.underlying147 rfl frame_size) rfl ?_
    exact takenR_no rfl (HAL.out _)
  · obtain ⟨g, off, rfl, hab, hcell⟩ := h.at_ (k := 0) (by simp)
    have hcut := h.cut (k := 1) (c := c) (by simp) hc
    simp only [List.drop_succ_cons, List.drop_zero] at hcut
    have HH := Lib.hid h
    obtain ⟨n, hn⟩ : ∃ n, n = b.length := ⟨_, rfl⟩
    have hcell0 : w.cell? ⟨g, off, none⟩ = some (.int .u8 (k.toNat : Int)) := by simpa using hcell
    have hln : (k :: b).length = n + 1 := by rw [hn]; rfl
    rw [hln] at hl hc ⊢
    have h1c : (1 : Int) ≤ (c : Int) := by omega
    obtain ⟨kn, hkn⟩ : ∃ kn, kn = k.toNat := ⟨_, rfl⟩
    rw [← hkn] at hcell0
    have HC0 := Lib.hid hcell0
    have HKN := Lib.hid hkn
    by_cases hc1 : c = 1
    · subst hc1
      have hn0 : n = 0 := by omega
      subst hn0
      have hb0 : b = [] := List.eq_nil_of_length_eq_zero hn.symm
      subst hb0
      have hx : cutT (Cod.take []) = none := rfl
      have HE := Lib.hid (take_cons_none (k := k) hx)
      have KT : Hid (∀ A w, Calls Tryz.prog 176 #[.slice A 0 0] w (TakenS w A none)) := Lib.hid (fun A w => by
        have := takeTextS_cut A 0 0 [] w rfl RdB.nil (by simp) (by simp) (by omega)
        rwa [hx] at this)
      clear hcell hcut h hn hln hkn hx
      go_enter Tryz.func156, Tryz.ntmps156
      go_wp2_with fail
      refine (KT.out _ _).mono ?_
      intro e w1 hh
      obtain ⟨hb1, rfl⟩ := takenS_none hh
      have hcw : w1.heap[w.heap.size]? = some (.cells #[.int .u8 0, .slice none 0 0] 147) := (hb1.block _ (by simp)).trans (heap_alloc_new _ _)
      have HCW := Lib.hid hcw
      have HB1 : Hid (Below w.heap.size w w1) := Lib.hid ((HAL.out _).trans (hb1.mono (by simp)))
      have q0 := cell_of_row w1 w.heap.size 0 _ _ (0, 0) hcw
      have q1 := cell_of_row w1 w.heap.size 1 _ _ (0, 0) hcw
      have f0 := frozen_of_row w1 w.heap.size 0 _ _ hcw
      have f1 := frozen_of_row w1 w.heap.size 1 _ _ hcw
      simp only [List.getElem?_toArray, List.getElem?_cons_zero, List.getElem?_cons_succ] at q0 q1
      clear hh hcw hb1
      go_wp2_with fail
      refine bodyPost_ret (results_c3 rfl _ _ w.heap.size 147 #[.int .u8 0, .slice none 0 0] _ _ rfl (heap_set2 HCW.out) Tryz.underlying147 rfl frame_size) rfl ?_
      exact takenR_no HE.out ((HB1.out.setCell (by simp) _).setCell (by simp) _)
    · rw [if_neg hc1] at hcut
      have HCUT := Lib.hid hcut
      have HN := Lib.hid hn
      clear hcell hcut h hn hln hcell0 hkn
      go_enter Tryz.func156, Tryz.ntmps156
      go_wp2_with fail
      refine (takeTextS_cut _ _ _ b _ HN.out ((HCUT.out.alloc (Nat.le_refl _) _).more (by simp)) (by have := HN.out; omega) (by have := HN.out; omega) (by omega)).mono ?_
      cases hx : cutT (Cod.take b) with
      | none =>
        intro e w1 hh
        obtain ⟨hb1, rfl⟩ := takenS_none hh
        have HE := Lib.hid (take_cons_none (k := k) hx)
        have hcw : w1.heap[w.heap.size]? = some (.cells #[.int .u8 0, .slice none 0 0] 147) := (hb1.block _ (by simp)).trans (heap_alloc_new _ _)
        have HCW := Lib.hid hcw
        have HB1 : Hid (Below w.heap.size w w1) := Lib.hid ((HAL.out _).trans (hb1.mono (by simp)))
        have q0 := cell_of_row w1 w.heap.size 0 _ _ (0, 0) hcw
        have q1 := cell_of_row w1 w.heap.size 1 _ _ (0, 0) hcw
        have f0 := frozen_of_row w1 w.heap.size 0 _ _ hcw
        have f1 := frozen_of_row w1 w.heap.size 1 _ _ hcw
        simp only [List.getElem?_toArray, List.getElem?_cons_zero, List.getElem?_cons_succ] at q0 q1
        clear hx hh hcw hb1
        go_wp2_with fail
        refine bodyPost_ret (results_c3 rfl _ _ w.heap.size 147 #[.int .u8 0, .slice none 0 0] _ _ rfl (heap_set2 HCW.out) Tryz.underlying147 rfl frame_size) rfl ?_
        exact takenR_no HE.out ((HB1.out.setCell (by simp) _).setCell (by simp) _)
      | some v =>
        obtain ⟨t, r⟩ := v
        intro e w1 hh
        obtain ⟨hb1, A1, c1, B1, d1, rfl, ho1, hr1, hd1, hdd1, hf1⟩ := takenS_some hh
        have hcw : w1.heap[w.heap.size]? = some (.cells #[.int .u8 0, .slice none 0 0] 147) := (hb1.block _ (by simp)).trans (heap_alloc_new _ _)
        have HCW := Lib.hid hcw
        have HB1 : Hid (Below w.heap.size w w1) := Lib.hid ((HAL.out _).trans (hb1.mono (by simp)))
        have HO1 : Hid (Own w1 (w.heap.size + 1) 5 A1 c1 t) := Lib.hid (by simpa using ho1)
        have HF1 : Hid (Frs w1 w.heap.size (some ⟨g, off, none⟩) B1) := Lib.hid (fun x hx => by
          rcases hf1 x hx with h1 | ⟨h1, h2⟩
          · exact .inl h1
          · exact .inr ⟨by have : w.heap.size + 1 ≤ x := (by simpa using h1); omega, h2⟩)
        have HFG : Hid (∀ x, blk B1 = some x → x ≠ w.heap.size) := Lib.hid (fun x hx => by
          rcases hf1 x hx with h1 | ⟨h1, _⟩
          · have : g = x := by simpa [blk] using h1
            omega
          · have : w.heap.size + 1 ≤ x := (by simpa using h1); omega)
        have HR1 := Lib.hid hr1
        have q0 := cell_of_row w1 w.heap.size 0 _ _ (0, 0) hcw
        have q1 := cell_of_row w1 w.heap.size 1 _ _ (0, 0) hcw
        have f0 := frozen_of_row w1 w.heap.size 0 _ _ hcw
        have f1 := frozen_of_row w1 w.heap.size 1 _ _ hcw
        simp only [List.getElem?_toArray, List.getElem?_cons_zero, List.getElem?_cons_succ] at q0 q1
        have htx := Frm.cutT_text hx
        have HX := Lib.hid hx
        have HTX := Lib.hid htx
        clear hx hh hcw hb1 hf1 hr1 ho1 htx
        by_cases ht : (65536 : Int) < (t.length : Int)
        · have HE := Lib.hid (take_cons_no (k := k) HX.out (fun h => by have := h.1; omega))
          go_wp2_with fail
          refine bodyPost_ret (results_c3 rfl _ _ w.heap.size 147 #[.int .u8 0, .slice none 0 0] _ _ rfl (heap_set2 HCW.out) Tryz.underlying147 rfl frame_size) rfl ?_
          exact takenR_no HE.out ((HB1.out.setCell (by simp) _).setCell (by simp) _)
        by_cases hr : (r.length : Int) < 4
        · have HE := Lib.hid (take_cons_no (k := k) HX.out (fun h => by have := h.2.1; omega))
          go_wp2_with fail
          refine bodyPost_ret (results_c3 rfl _ _ w.heap.size 147 #[.int .u8 0, .slice none 0 0] _ _ rfl (heap_set2 HCW.out) Tryz.underlying147 rfl frame_size) rfl ?_
          exact takenR_no HE.out ((HB1.out.setCell (by simp) _).setCell (by simp) _)
        obtain ⟨g2, off2, rfl, hg2, _⟩ := HR1.out.at_ (k := 0) (by omega)
        have HR1' := Lib.hid HR1.out
        go_wp2_with fail
        go_loop [8, 38] (fun v i => ∃ j x : Nat, j ≤ 4 ∧ i = .int .i64 (j : Int) ∧ v = .int .u32 (x : Int) ∧ Hid (x = Frm.num4 (r.take j))) (fun _ i => 4 - (intOf i).toNat)
        case atStart => exact ⟨0, 0, by omega, rfl, rfl, Lib.hid rfl⟩
        case round =>
          obtain ⟨j, x, hj, rfl, rfl, HX4⟩ := hrel
          by_cases hj4 : j < 4
          · obtain ⟨g3, off3, e3, _, hcj⟩ := HR1.out.at_ (k := j) (by omega)
            injection e3 with e3
            injection e3 with e4 e5
            subst e4 e5
            have hx24 : x < 16777216 := by
              have h1 := Frm.num4_lt (r.take j) 0
              rw [HX4.out]
              unfold Frm.num4
              have h2 : (r.take j).length ≤ 3 := by rw [List.length_take]; omega
              have h3 : (256 : Nat) ^ (r.take j).length ≤ 256 ^ 3 := Nat.pow_le_pow_right (by omega) h2
              have h4 : (256 : Nat) ^ 3 = 16777216 := by decide
              omega
            have hsn : Frm.num4 (r.take (j + 1)) = x * 256 + (r[j]'(by omega)).toNat := by
              rw [List.take_succ_eq_append_getElem (by omega), Frm.num4_snoc, HX4.out]
            have hyl := (r[j]'(by omega)).toNat_lt
            obtain ⟨y, hy⟩ : ∃ y, y = (r[j]'(by omega)).toNat := ⟨_, rfl⟩
            rw [← hy] at hcj hsn hyl
            have hjn := join8u hx24 hyl
            have HSN := Lib.hid hsn
            have hxi : (x : Int) < 16777216 := by omega
            have hyi : (y : Int) < 256 := by omega
            have hj0 : (0 : Int) ≤ (j : Int) := by omega
            have hj1 : (j : Int) < 4 := by omega
            clear hy hsn hx24 hyl
            go_wp2_with fail
            go_round
            case rel => exact ⟨j + 1, x * 256 + y, by omega, by go_num, rfl, Lib.hid HSN.out.symm⟩
            case measure => simp [intOf]; omega
          · obtain rfl : j = 4 := by omega
            have htk : (k :: b).take (n + 1 - r.length) = Frm.head k t ∧ r.length ≤ n := by
              have h1 := HTX.out
              have h2 := HN.out
              have h3 : n = (Cod.text t).length + r.length := by rw [h2, h1, List.length_append]
              refine ⟨?_, by omega⟩
              rw [show n + 1 - r.length = (Cod.text t).length + 1 by omega, List.take_succ_cons, h1, List.take_left']
              · rfl
              · rfl
            have HTK := Lib.hid htk.1
            have hrn := htk.2
            have HRC : Hid (n + 1 - r.length = ((k :: b).take (n + 1 - r.length)).length) := Lib.hid (by
              have := HN.out
              rw [List.length_take, List.length_cons]; omega)
            have HRT : Hid (RdB w1 w1.heap.size (some ⟨g, off, none⟩) ((k :: b).take (n + 1 - r.length))) := Lib.hid (((HH.out.take (by have := HN.out; rw [List.length_cons]; omega)).below HB1.out (Nat.le_refl _)).more HB1.out.size)
            have KS := Lib.hid (fun m (hm : m = n + 1 - r.length) => chksum_cut (some ⟨g, off, none⟩) m c _ w1 (hm.trans HRC.out) HRT.out (by have := HN.out; rw [List.length_take, List.length_cons]; omega))
            rw [HTK.out] at KS
            obtain ⟨S, hS⟩ : ∃ S, S = Chk.sum (Frm.head k t) := ⟨_, rfl⟩
            rw [← hS] at KS
            have HSI := Frm.sum_iff r (Frm.head k t) (by omega)
            rw [← hS, ← HX4.out] at HSI
            have HS := Lib.hid hS
            have hs0 : (0 : Int) ≤ (n : Int) + 1 - (r.length : Int) := by omega
            have hs1 : (n : Int) + 1 - (r.length : Int) ≤ (c : Int) := by omega
            clear htk hS hj4 hj
            by_cases hsx : S = x
            case pos =>
              have HE := Lib.hid (take_cons_yes (k := k) HX.out ⟨by omega, by omega, by rw [← HS.out]; exact HSI.2 hsx⟩)
              subst hsx
              go_wp2_with fail
              refine (KS.out _ rfl).mono ?_
              rintro e w3 ⟨rfl, hb3⟩
              have hz1 : w.heap.size < w1.heap.size := by have := HCW.out; rw [Array.getElem?_eq_some_iff] at this; exact this.1
              have hcw3 := (hb3.block _ hz1).trans HCW.out
              have HCW3 := Lib.hid hcw3
              have c0 := (hb3.cell (p := ⟨g, off, none⟩) (by have := HB1.out.size; simp; omega)).trans ((HB1.out.cell (p := ⟨g, off, none⟩) hab).trans HC0.out)
              have q0 := cell_of_row w3 w.heap.size 0 _ _ (0, 0) hcw3
              have q1 := cell_of_row w3 w.heap.size 1 _ _ (0, 0) hcw3
              have f0 := frozen_of_row w3 w.heap.size 0 _ _ hcw3
              have f1 := frozen_of_row w3 w.heap.size 1 _ _ hcw3
              simp only [List.getElem?_toArray, List.getElem?_cons_zero, List.getElem?_cons_succ] at q0 q1
              have hr4 := HR1.out.cut (k := 4) (c := d1) (by omega) (by omega)
              have HO3 := Lib.hid (HO1.out.below hb3)
              have HB3 := Lib.hid (HB1.out.trans (hb3.mono HB1.out.size))
              have HBB := Lib.hid hb3
              have i0 : (4 : Int) ≤ (r.length : Int) := by omega
              have i1 : (r.length : Int) ≤ (d1 : Int) := by omega
              have i2 : (0 : Int) < (n : Int) + 1 := by omega
              have HK : Hid (((w3.setCell ⟨w.heap.size, 0, none⟩ (.int .u8 (kn : Int))).setCell ⟨w.heap.size, 1, none⟩ (.slice A1 t.length c1)).cell? ⟨g, off, none⟩ = some (.int .u8 (kn : Int))) := Lib.hid (by
                rw [World.cell?_setCell_other _ _ _ _ (fun e => by injection e with e1; omega), World.cell?_setCell_other _ _ _ _ (fun e => by injection e with e1; omega)]
                exact c0)
              by_cases hd4 : d1 = 4
              · rw [if_pos hd4] at hr4
                have HR4 := Lib.hid ((hr4.below hb3 (Nat.le_refl _)).more hb3.size)
                clear hcw3 hb3 hr4 KS hz1
                go_wp2_with fail
                go_region_held (fun w' => w'.cell? ⟨g, off, none⟩ = some (.int .u8 (kn : Int))) (first | exact c0 | exact HK.out) (fail)
                go_wp2_with fail
                refine bodyPost_ret (results_c3 rfl _ _ w.heap.size 147 #[.int .u8 (kn : Int), .slice A1 t.length c1] _ _ rfl (heap_set2 HCW3.out) Tryz.underlying147 rfl frame_size) rfl ?_
                rw [HE.out]
                refine ⟨((HB3.out.setCell (by simp) _).setCell (by simp) _).drew, A1, c1, some ⟨g2, off2, none⟩, 0, ?_, own_le2 (own_sets HO3.out (by omega) _ _), (rdB_sets2 HR4.out HFG.out _ _).more (by simp), by simp; omega, by omega, frs_sets (HF1.out.below HBB.out) HFG.out _ _⟩
                rw [HKN.out, List.length_drop]; rfl
              · rw [if_neg hd4] at hr4
                have HR4 := Lib.hid ((hr4.below hb3 (Nat.le_refl _)).more hb3.size)
                clear hcw3 hb3 hr4 KS hz1
                go_wp2_with fail
                go_region_held (fun w' => w'.cell? ⟨g, off, none⟩ = some (.int .u8 (kn : Int))) (first | exact c0 | exact HK.out) (fail)
                go_wp2_with fail
                refine bodyPost_ret (results_c3 rfl _ _ w.heap.size 147 #[.int .u8 (kn : Int), .slice A1 t.length c1] _ _ rfl (heap_set2 HCW3.out) Tryz.underlying147 rfl frame_size) rfl ?_
                rw [HE.out]
                refine ⟨((HB3.out.setCell (by simp) _).setCell (by simp) _).drew, A1, c1, some ⟨g2, off2 + 4, none⟩, d1 - 4, ?_, own_le2 (own_sets HO3.out (by omega) _ _), (rdB_sets2 HR4.out HFG.out _ _).more (by simp), by simp; omega, by omega, frs_sets (HF1.out.below HBB.out) HFG.out _ _⟩
                rw [HKN.out, List.length_drop]; rfl
            case neg =>
              have HE := Lib.hid (take_cons_no (k := k) HX.out (fun h => hsx (by rw [← HS.out] at h; exact HSI.1 h.2.2)))
              have hsx2 : ((S : Int) == (x : Int)) = false := by simp; omega
              have hsx3 : ((S : Int) != (x : Int)) = true := by simp; omega
              go_wp2_with fail
              refine (KS.out _ rfl).mono ?_
              rintro e w3 ⟨rfl, hb3⟩
              have hz1 : w.heap.size < w1.heap.size := by have := HCW.out; rw [Array.getElem?_eq_some_iff] at this; exact this.1
              have hcw3 := (hb3.block _ hz1).trans HCW.out
              have HCW3 := Lib.hid hcw3
              have q0 := cell_of_row w3 w.heap.size 0 _ _ (0, 0) hcw3
              have q1 := cell_of_row w3 w.heap.size 1 _ _ (0, 0) hcw3
              have f0 := frozen_of_row w3 w.heap.size 0 _ _ hcw3
              have f1 := frozen_of_row w3 w.heap.size 1 _ _ hcw3
              simp only [List.getElem?_toArray, List.getElem?_cons_zero, List.getElem?_cons_succ] at q0 q1
              have HB3 := Lib.hid (HB1.out.trans (hb3.mono HB1.out.size))
              clear hcw3 hb3 KS hz1 hsx
              go_wp2_with fail
              refine bodyPost_ret (results_c3 rfl _ _ w.heap.size 147 #[.int .u8 0, .slice none 0 0] _ _ rfl (heap_set2 HCW3.out) Tryz.underlying147 rfl frame_size) rfl ?_
              exact takenR_no HE.out ((HB3.out.setCell (by simp) _).setCell (by simp) _)
end Go.Proofs.YtaiokogbhfliiaaGreatDoor
