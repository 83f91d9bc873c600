/- Parts of the proof, one behind the other: The contract of the program's Key.; The contract of the reference's Key.; 'awake', 'few', and the walk of the law CodeKeys.; The contract of TakeText; the walk of the law CodeTakes.; TakeText, the program's and the reference's, with more told.; Plain: a frame taken of bytes; it undoes Put.; Plain: an edit as bytes; the edit that any bytes are. -/
import Derived.Test.YtgmnhdkdicgkcaaGreatDoorOrg12
import Derived.Test.YtgmnhdkdicgkcaaGreatDoorOrg13
import Derived.Test.YtgmnhdkdicgkcaaGreatDoorOrg15
import Derived.Deep.RegionHeld
import Derived.Test.YtgmnhdkdicgkcaaGreatDoorOrg14
namespace Go.Proofs.YtgmnhdkdicgkcaaGreatDoor
open Go.RowKit
open Lib (hid)
def StrB (w : World) (A : Option Addr) (n c : Nat) (l : List UInt8) : Prop := (convert 37 9 (.slice A n c)).run Tryz.prog w = .ok (.string ⟨l.toArray⟩) w
theorem strB_of {w : World} {B : Nat} {A : Option Addr} {c : Nat} {l : List UInt8} (h : RdB w B A l) : StrB w A l.length c l := run_string_b w bt Tryz.underlying9 B A _ c l rfl h
set_option maxHeartbeats 400000 in
set_option maxRecDepth 100000 in
theorem thenText_any (A : Option Addr) (c : Nat) (b : List UInt8) (w : World) (h : RdB w w.heap.size A b) (hl : b.length ≤ 140737488355328) (hc : b.length ≤ c) (hcc : c ≤ 9223372036854775807) :
   Calls Tryz.prog 109 #[.slice A b.length c, .func (.func 56) #[] #[], .func (.func 110) #[] #[]] w (TakenT w (cutT (Cod.take b))) := by
 have C := take_any A c b w h hl hc hcc
 cases hk : Cod.take b with
 | none =>
   rw [hk] at C
   have HC := hid C; clear C hk
   go_enter Tryz.func109, Tryz.ntmps109
   go_wp2_with fail
   refine HC.out.mono ?_
   intro e w1 hh
   obtain ⟨hb, rfl⟩ := taken_none hh
   clear hh
   go_wp2_with fail
   refine bodyPost_ret (results_tmp3 rfl _ _ _) rfl ?_
   exact ⟨hb, rfl⟩
 | some v =>
   obtain ⟨n, r⟩ := v
   obtain ⟨hn, hrb⟩ := Cod.take_bound hk
   rw [hk] at C
   have HC := hid C; clear C hk
   cases hx : cutT (some (n, r)) with
   | none =>
     have HX := hid hx; clear hx
     go_enter Tryz.func109, Tryz.ntmps109
     go_wp2_with fail
     refine HC.out.mono ?_
     intro e w1 hh
     obtain ⟨hb, A1, c1, rfl, hc1, hcc1, r1⟩ := taken_some hh
     clear hh
     go_wp2_with fail
     refine (text_part A1 c1 n r _ hn r1 (by omega) hc1 hcc1).mono ?_
     rw [HX.out]
     intro e w2 hh
     obtain ⟨hb2, rfl⟩ := takenT_none hh
     clear hh
     go_wp2_with fail
     refine bodyPost_ret (results_tmp3 rfl _ _ _) rfl ?_
     exact ⟨hb.trans (hb2.mono hb.size), rfl⟩
   | some v =>
     obtain ⟨t, u⟩ := v
     have HX := hid hx; clear hx
     go_enter Tryz.func109, Tryz.ntmps109
     go_wp2_with fail
     refine HC.out.mono ?_
     intro e w1 hh
     obtain ⟨hb, A1, c1, rfl, hc1, hcc1, r1⟩ := taken_some hh
     clear hh
     go_wp2_with fail
     refine (text_part A1 c1 n r _ hn r1 (by omega) hc1 hcc1).mono ?_
     rw [HX.out]
     intro e w2 hh
     obtain ⟨hb2, A2, c2, A3, c3, rfl, t2, u2⟩ := takenT_some hh
     clear hh
     go_wp2_with fail
     refine bodyPost_ret (results_tmp3 rfl _ _ _) rfl ?_
     exact ⟨hb.trans (hb2.mono hb.size), A2, c2, A3, c3, rfl, t2, u2⟩
def TakenS (w : World) (A0 : Option Addr) (v : Option (List UInt8 × List UInt8)) (e : Ending) (w' : World) : Prop :=
 Below w.heap.size w w' ∧ match v with
 | none => e = .returned (.tuple #[.slice none 0 0, .slice none 0 0, .int .i64 3])
 | some (t, r) => ∃ A c B d, e = .returned (.tuple #[.slice A t.length c, .slice B r.length d, .int .i64 0]) ∧ Own w' w.heap.size 5 A c t ∧ RdB w' w'.heap.size B r ∧ r.length ≤ d ∧ d ≤ 9223372036854775807 ∧ Frs w' w.heap.size A0 B
theorem takenS_none {w w' : World} {A0 : Option Addr} {e : Ending} (h : TakenS w A0 none e w') : Below w.heap.size w w' ∧ e = .returned (.tuple #[.slice none 0 0, .slice none 0 0, .int .i64 3]) := h
theorem takenS_some {w w' : World} {A0 : Option Addr} {e : Ending} {t r : List UInt8} (h : TakenS w A0 (some (t, r)) e w') : Below w.heap.size w w' ∧ ∃ A c B d, e = .returned (.tuple #[.slice A t.length c, .slice B r.length d, .int .i64 0]) ∧ Own w' w.heap.size 5 A c t ∧ RdB w' w'.heap.size B r ∧ r.length ≤ d ∧ d ≤ 9223372036854775807 ∧ Frs w' w.heap.size A0 B := h
set_option maxHeartbeats 1000000 in
set_option maxRecDepth 100000 in
theorem textS_part (A : Option Addr) (c n : Nat) (r : List UInt8) (w : World) (hn : n < 18446744073709551616) (h : RdB w w.heap.size A r) (hl : r.length ≤ 140737488355328) (hc : r.length ≤ c) (hcc : c ≤ 9223372036854775807) :
   Calls Tryz.prog 110 #[.int .u64 (n : Int), .slice A r.length c] w (TakenS w A (cutT (some (n, r)))) := by
 by_cases hnr : (r.length : Int) < (n : Int)
 · have e : cutT (some (n, r)) = none := by unfold cutT; simp only; rw [if_neg (by omega)]
   rw [e]
   go_enter Tryz.func110, Tryz.ntmps110
   go_wp2
   refine bodyPost_ret (results_tmp3 rfl _ _ _) rfl ?_
   exact ⟨Below.refl _ _, rfl⟩
 · have e : cutT (some (n, r)) = some (r.take n, r.drop n) := by unfold cutT; simp only; rw [if_pos (by omega)]
   rw [e]
   have ht : RdB w w.heap.size A (r.take n) := h.take (by omega)
   have htl : n = (r.take n).length := by rw [List.length_take]; omega
   have hdl : r.length - n = (r.drop n).length := by simp
   obtain ⟨t, htt⟩ : ∃ t, t = r.take n := ⟨_, rfl⟩
   rw [← htt] at ht htl ⊢
   have htl2 : t.length ≤ 140737488355328 := by omega
   have hn1 : n ≤ r.length := by omega
   have hn2 : n ≤ c := by omega
   have HL := hid htl2
   have HT := hid ht
   have HTL := hid htl
   have HDL := hid hdl
   have HH := hid h
   clear ht htl hdl htt e h htl2 hl
   cases A with
   | none =>
     have hr0 : r = [] := by
       cases r with
       | nil => rfl
       | cons b r => obtain ⟨ad, h, _⟩ := HH.out.2 (by simp); cases h
     subst hr0
     have hn0 : n = 0 := by simpa using hn1
     subst hn0
     by_cases hc0 : c = 0
     · subst hc0
       go_enter Tryz.func110, Tryz.ntmps110
       go_wp2
       go_region_held (fun w' => RdB w' w'.heap.size none t ∧ Below w.heap.size w w')
         (first | exact rdB_keep HT.out ((Below.refl _ _).drew) | exact rdB_keep HT.out B3)
         (first
           | (go_at_call 84; refine (clone_cut none 0 0 t _ HTL.out (by go_split_ands; assumption) HL.out).mono ?_; rintro e w3 ⟨A3, c3, rfl, ho3, hb3⟩; have B3 := Below.trans (b := _) (by go_split_ands; assumption : Below w.heap.size w _) (hb3.mono (by go_split_ands; exact Below.size (by assumption))); have O3 := Own.mono ho3 (by go_split_ands; exact Below.size (by assumption) : w.heap.size ≤ _)))
       go_wp2
       refine bodyPost_ret (results_tmp3 rfl _ _ _) rfl ?_
       exact ⟨B3, A3, c3, none, 0, rfl, O3, RdB.nil, by simp, by omega, Frs.nil _ _ _⟩
     · have hc1 : 0 < c := by omega
       go_enter Tryz.func110, Tryz.ntmps110
       go_wp2
       go_region_held (fun w' => RdB w' w'.heap.size none t ∧ Below w.heap.size w w')
         (first | exact rdB_keep HT.out ((Below.refl _ _).drew) | exact rdB_keep HT.out B3)
         (first
           | (go_at_call 84; refine (clone_cut none 0 c t _ HTL.out (by go_split_ands; assumption) HL.out).mono ?_; rintro e w3 ⟨A3, c3, rfl, ho3, hb3⟩; have B3 := Below.trans (b := _) (by go_split_ands; assumption : Below w.heap.size w _) (hb3.mono (by go_split_ands; exact Below.size (by assumption))); have O3 := Own.mono ho3 (by go_split_ands; exact Below.size (by assumption) : w.heap.size ≤ _)))
       go_wp2
       refine bodyPost_ret (results_tmp3 rfl _ _ _) rfl ?_
       exact ⟨B3, A3, c3, none, c, rfl, O3, RdB.nil, by simp, hcc, Frs.nil _ _ _⟩
   | some ad =>
     have q := HH.out.drop (k := n) (cap := c) hn1 hc
     by_cases hcn : c = n
     · subst hcn
       rw [if_pos rfl] at q
       have HQ := hid q; clear q
       go_enter Tryz.func110, Tryz.ntmps110
       go_wp2
       go_region_held (fun w' => RdB w' w'.heap.size (some ad) t ∧ Below w.heap.size w w')
         (first | exact rdB_keep HT.out ((Below.refl _ _).drew) | exact rdB_keep HT.out B3)
         (first
           | (go_at_call 84; refine (clone_cut (some ad) c c t _ HTL.out (by go_split_ands; assumption) HL.out).mono ?_; rintro e w3 ⟨A3, c3, rfl, ho3, hb3⟩; have B3 := Below.trans (b := _) (by go_split_ands; assumption : Below w.heap.size w _) (hb3.mono (by go_split_ands; exact Below.size (by assumption))); have O3 := Own.mono ho3 (by go_split_ands; exact Below.size (by assumption) : w.heap.size ≤ _)))
       go_wp2
       refine bodyPost_ret (results_tmp3 rfl _ _ _) rfl ?_
       exact ⟨B3, A3, c3, some ad, 0, ret_takt rfl (by have := HDL.out; omega), O3, (HQ.out.below B3 (Nat.le_refl _)).more B3.size, by have := HDL.out; omega, by omega, Frs.self _ _ _⟩
     · have hcn2 : n < c := by omega
       rw [if_neg hcn] at q
       have HQ := hid q; clear q
       go_enter Tryz.func110, Tryz.ntmps110
       go_wp2
       go_region_held (fun w' => RdB w' w'.heap.size (some ad) t ∧ Below w.heap.size w w')
         (first | exact rdB_keep HT.out ((Below.refl _ _).drew) | exact rdB_keep HT.out B3)
         (first
           | (go_at_call 84; refine (clone_cut (some ad) n c t _ HTL.out (by go_split_ands; assumption) HL.out).mono ?_; rintro e w3 ⟨A3, c3, rfl, ho3, hb3⟩; have B3 := Below.trans (b := _) (by go_split_ands; assumption : Below w.heap.size w _) (hb3.mono (by go_split_ands; exact Below.size (by assumption))); have O3 := Own.mono ho3 (by go_split_ands; exact Below.size (by assumption) : w.heap.size ≤ _)))
       go_wp2
       refine bodyPost_ret (results_tmp3 rfl _ _ _) rfl ?_
       exact ⟨B3, A3, c3, some (ad.add n), c - n, ret_takt rfl HDL.out, O3, (HQ.out.below B3 (Nat.le_refl _)).more B3.size, by have := HDL.out; omega, by omega, (Frs.self _ _ _).add⟩
set_option maxHeartbeats 400000 in
set_option maxRecDepth 100000 in
theorem thenTextS_any (A : Option Addr) (c : Nat) (b : List UInt8) (w : World) (h : RdB w w.heap.size A b) (hl : b.length ≤ 140737488355328) (hc : b.length ≤ c) (hcc : c ≤ 9223372036854775807) :
   Calls Tryz.prog 109 #[.slice A b.length c, .func (.func 56) #[] #[], .func (.func 110) #[] #[]] w (TakenS w A (cutT (Cod.take b))) := by
 have C := takeF_any A c b w h hl hc hcc
 cases hk : Cod.take b with
 | none =>
   rw [hk] at C
   have HC := hid C; clear C hk
   go_enter Tryz.func109, Tryz.ntmps109
   go_wp2_with fail
   refine HC.out.mono ?_
   intro e w1 hh
   obtain ⟨hb, rfl⟩ := takenF_none hh
   clear hh
   go_wp2_with fail
   refine bodyPost_ret (results_tmp3 rfl _ _ _) rfl ?_
   exact ⟨hb, rfl⟩
 | some v =>
   obtain ⟨n, r⟩ := v
   obtain ⟨hn, hrb⟩ := Cod.take_bound hk
   rw [hk] at C
   have HC := hid C; clear C hk
   cases hx : cutT (some (n, r)) with
   | none =>
     have HX := hid hx; clear hx
     go_enter Tryz.func109, Tryz.ntmps109
     go_wp2_with fail
     refine HC.out.mono ?_
     intro e w1 hh
     obtain ⟨hb, A1, c1, rfl, hc1, hcc1, r1, fr1⟩ := takenF_some hh
     clear hh
     go_wp2_with fail
     refine (textS_part A1 c1 n r _ hn r1 (by omega) hc1 hcc1).mono ?_
     rw [HX.out]
     intro e w2 hh
     obtain ⟨hb2, rfl⟩ := takenS_none hh
     clear hh
     go_wp2_with fail
     refine bodyPost_ret (results_tmp3 rfl _ _ _) rfl ?_
     exact ⟨hb.trans (hb2.mono hb.size), rfl⟩
   | some v =>
     obtain ⟨t, u⟩ := v
     have HX := hid hx; clear hx
     go_enter Tryz.func109, Tryz.ntmps109
     go_wp2_with fail
     refine HC.out.mono ?_
     intro e w1 hh
     obtain ⟨hb, A1, c1, rfl, hc1, hcc1, r1, fr1⟩ := takenF_some hh
     clear hh
     go_wp2_with fail
     refine (textS_part A1 c1 n r _ hn r1 (by omega) hc1 hcc1).mono ?_
     rw [HX.out]
     intro e w2 hh
     obtain ⟨hb2, A2, c2, A3, c3, rfl, t2, u2, v2, x2, y2⟩ := takenS_some hh
     clear hh
     go_wp2_with fail
     refine bodyPost_ret (results_tmp3 rfl _ _ _) rfl ?_
     exact ⟨hb.trans (hb2.mono hb.size), A2, c2, A3, c3, rfl, t2.mono hb.size, u2, v2, x2, fr1.trans y2 hb2 hb.size⟩
set_option maxRecDepth 100000 in
theorem takeTextS_any (A : Option Addr) (c : Nat) (b : List UInt8) (w : World) (h : RdB w w.heap.size A b) (hl : b.length ≤ 140737488355328) (hc : b.length ≤ c) (hcc : c ≤ 9223372036854775807) :
   Calls Tryz.prog 58 #[.slice A b.length c] w (TakenS w A (cutT (Cod.take b))) := by
 have C := thenTextS_any A c b w h hl hc hcc
 cases hx : cutT (Cod.take b) with
 | none =>
   rw [hx] at C
   have HC := hid C; clear C hx
   go_enter Tryz.func58, Tryz.ntmps58
   go_wp2_with fail
   refine HC.out.mono ?_
   intro e w1 hh
   obtain ⟨hb, rfl⟩ := takenS_none hh
   clear hh
   go_wp2_with fail
   refine bodyPost_ret (results_tmp3 rfl _ _ _) rfl ?_
   exact ⟨hb, rfl⟩
 | some v =>
   obtain ⟨t, u⟩ := v
   rw [hx] at C
   have HC := hid C; clear C hx
   go_enter Tryz.func58, Tryz.ntmps58
   go_wp2_with fail
   refine HC.out.mono ?_
   intro e w1 hh
   obtain ⟨hb, A2, c2, A3, c3, rfl, t2, u2, v2, x2, y2⟩ := takenS_some hh
   clear hh
   go_wp2_with fail
   refine bodyPost_ret (results_tmp3 rfl _ _ _) rfl ?_
   exact ⟨hb, A2, c2, A3, c3, rfl, t2, u2, v2, x2, y2⟩
namespace Frm
def num4 (l : List UInt8) : Nat := l.foldl (fun n c => n * 256 + c.toNat) 0
def take (b : List UInt8) : Option (UInt8 × List UInt8 × List UInt8) := match b with
 | [] => none
 | k :: b' => match cutT (Cod.take b') with
   | none => none
   | some (t, r) => if t.length ≤ 65536 ∧ 4 ≤ r.length ∧ r.take 4 = be4 (Chk.sum (head k t)) then some (k, t, r.drop 4) else none
theorem cutT_text {b t r : List UInt8} (h : cutT (Cod.take b) = some (t, r)) : b = Cod.text t ++ r := by
 unfold cutT at h
 split at h
 · cases h
 · rename_i n r0 hk
   split at h
   · rename_i hn
     injection h with h; injection h with h1 h2
     subst h1 h2
     rw [Cod.take_number hk]
     unfold Cod.text
     have e : (r0.take n).length = n := by rw [List.length_take]; omega
     rw [e, List.append_assoc, List.take_append_drop]
   · cases h
theorem take_num (n : Nat) (h : n < 18446744073709551616) (r : List UInt8) : Cod.take (Cod.number n ++ r) = some (n, r) := Cod.take_of h r
theorem cutT_of (t r : List UInt8) (h : t.length < 18446744073709551616) : cutT (Cod.take (Cod.text t ++ r)) = some (t, r) := by
 unfold Cod.text
 rw [List.append_assoc, take_num _ h]
 unfold cutT
 simp
theorem be4_len (n : Nat) : (be4 n).length = 4 := rfl
theorem take_put (k : UInt8) (t r : List UInt8) (h : t.length ≤ 65536) : take (put k t ++ r) = some (k, t, r) := by
 unfold put
 have e : head k t ++ be4 (Chk.sum (head k t)) ++ r = k :: (Cod.text t ++ (be4 (Chk.sum (head k t)) ++ r)) := by
   rw [List.append_assoc]; rfl
 rw [e, take, cutT_of _ _ (by omega)]
 simp only
 rw [if_pos ⟨h, by simp [be4_len], by rw [List.take_append_of_le_length (by simp [be4_len]), List.take_of_length_le (by simp [be4_len])]⟩]
 rw [List.drop_append_of_le_length (by simp [be4_len]), List.drop_of_length_le (by simp [be4_len])]
 rfl
theorem of_take {b t r : List UInt8} {k : UInt8} (h : take b = some (k, t, r)) : b = put k t ++ r ∧ t.length ≤ 65536 := by
 unfold take at h
 split at h
 · cases h
 · rename_i k' b'
   split at h
   · cases h
   · rename_i t' r' hc
     split at h
     · rename_i hh
       obtain ⟨h1, h2, h3⟩ := hh
       injection h with h; injection h with e1 h; injection h with e2 e3
       subst e1 e2 e3
       refine ⟨?_, h1⟩
       rw [cutT_text hc, put, ← h3, List.append_assoc, List.take_append_drop]
       rfl
     · cases h
theorem num4_be4 (n : Nat) (h : n < 4294967296) : num4 (be4 n) = n := by
 unfold num4 be4
 simp only [List.foldl_cons, List.foldl_nil, UInt8.toNat_ofNat']
 omega
theorem num4_lt (l : List UInt8) : ∀ n : Nat, l.foldl (fun n (c : UInt8) => n * 256 + c.toNat) n < (n + 1) * 256 ^ l.length := by
 induction l with
 | nil => intro n; simp
 | cons c l ih =>
   intro n
   have h1 := ih (n * 256 + c.toNat)
   have h2 := c.toNat_lt
   rw [List.foldl_cons, List.length_cons, Nat.pow_succ]
   refine Nat.lt_of_lt_of_le h1 ?_
   rw [Nat.mul_comm (256 ^ l.length) 256, ← Nat.mul_assoc]
   exact Nat.mul_le_mul_right _ (by omega)
theorem num4_inj {l m : List UInt8} (hl : l.length = 4) (hm : m.length = 4) (h : num4 l = num4 m) : l = m := by
 match l, hl, m, hm with
 | [a, b, c, d], _, [e, f, g, i], _ =>
   unfold num4 at h
   simp only [List.foldl_cons, List.foldl_nil] at h
   have := a.toNat_lt; have := b.toNat_lt; have := c.toNat_lt; have := d.toNat_lt
   have := e.toNat_lt; have := f.toNat_lt; have := g.toNat_lt; have := i.toNat_lt
   have h1 : a.toNat = e.toNat := by omega
   have h2 : b.toNat = f.toNat := by omega
   have h3 : c.toNat = g.toNat := by omega
   have h4 : d.toNat = i.toNat := by omega
   rw [UInt8.toNat_inj.1 h1, UInt8.toNat_inj.1 h2, UInt8.toNat_inj.1 h3, UInt8.toNat_inj.1 h4]
theorem sum_iff (r h : List UInt8) (hr : 4 ≤ r.length) : r.take 4 = be4 (Chk.sum h) ↔ Chk.sum h = num4 (r.take 4) := by
 have hs : Chk.sum h < 2147483647 := Chk.sum_lt _
 constructor
 · intro e; rw [e, num4_be4 _ (by omega)]
 · intro e; exact num4_inj (by rw [List.length_take]; omega) rfl (by rw [num4_be4 _ (by omega), e])
theorem num4_snoc (l : List UInt8) (c : UInt8) : num4 (l ++ [c]) = num4 l * 256 + c.toNat := by unfold num4; simp [List.foldl_append]
end Frm
end Go.Proofs.YtgmnhdkdicgkcaaGreatDoor
namespace Go.Proofs.YtgmnhdkdicgkcaaGreatDoor
namespace Ver
def numI (n : Int) : List UInt8 := Cod.number n.toNat
def encF (f : Fi) : List UInt8 := numI f.number ++ numI f.level ++ Cod.text f.first ++ Cod.text f.last ++ numI f.low ++ numI f.high
def enc (e : Ed) : List UInt8 := numI e.add.length ++ e.add.flatMap encF ++ numI e.drop.length ++ e.drop.flatMap numI ++ numI e.log ++ numI e.next
def takeN (most : Nat) (b : List UInt8) : Option (Nat × List UInt8) := match Cod.take b with
 | none => none
 | some (n, r) => if n ≤ most then some (n, r) else none
def takeT (b : List UInt8) : Option (List UInt8 × List UInt8) := cutT (Cod.take b)
def takeF (a c : Nat) (b : List UInt8) : Option (Fi × List UInt8) := match takeN a b with
 | none => none
 | some (n, b) => match takeN c b with
   | none => none
   | some (l, b) => match takeT b with
     | none => none
     | some (f, b) => match takeT b with
       | none => none
       | some (t, b) => match takeN 1099511627776 b with
         | none => none
         | some (lo, b) => match takeN 1099511627776 b with
           | none => none
           | some (hi, b) => some (⟨n, l, f, t, lo, hi⟩, b)
def takeFs (a c : Nat) : Nat → List UInt8 → Option (List Fi × List UInt8)
 | 0, b => some ([], b)
 | k + 1, b => match takeF a c b with
   | none => none
   | some (f, b) => match takeFs a c k b with
     | none => none
     | some (l, b) => some (f :: l, b)
def takeNs (a : Nat) : Nat → List UInt8 → Option (List Int × List UInt8)
 | 0, b => some ([], b)
 | k + 1, b => match takeN a b with
   | none => none
   | some (n, b) => match takeNs a k b with
     | none => none
     | some (l, b) => some ((n : Int) :: l, b)
def takeE (m M a c : Nat) (b : List UInt8) : Option (Ed × List UInt8) := match takeN m b with
 | none => none
 | some (n, b) => match takeFs a c (min n M) b with
   | none => none
   | some (A, b) => match takeN m b with
     | none => none
     | some (k, b) => match takeNs a (min k M) b with
       | none => none
       | some (D, b) => match takeN 1099511627776 b with
         | none => none
         | some (g, b) => match takeN 1099511627776 b with
           | none => none
           | some (x, b) => some (⟨A, D, g, x⟩, b)
def dec (b : List UInt8) : Option Ed := match takeE 50 50 999999 3 b with
 | none => none
 | some (e, r) => if r = [] ∧ okE e = true then some e else none
section
variable {a c m M n k : Nat} {b r : List UInt8}
theorem takeN_eq (h : takeN m b = some (n, r)) : b = Cod.number n ++ r ∧ n ≤ m := by
 unfold takeN at h
 split at h
 · cases h
 · rename_i x y hk
   split at h
   · rename_i hn
     injection h with h; injection h with h1 h2
     subst h1 h2
     exact ⟨Cod.take_number hk, hn⟩
   · cases h
theorem takeN_of (r : List UInt8) (h : n ≤ m) (hn : n < 18446744073709551616) : takeN m (Cod.number n ++ r) = some (n, r) := by
 unfold takeN
 rw [Frm.take_num n hn r]
 simp only
 rw [if_pos h]
theorem takeT_eq {t : List UInt8} (h : takeT b = some (t, r)) : b = Cod.text t ++ r := Frm.cutT_text h
theorem takeT_of (t r : List UInt8) (h : t.length < 18446744073709551616) : takeT (Cod.text t ++ r) = some (t, r) := Frm.cutT_of t r h
theorem takeF_eq {f : Fi} (h : takeF a c b = some (f, r)) : b = encF f ++ r ∧ 0 ≤ f.number ∧ 0 ≤ f.level ∧ 0 ≤ f.low ∧ 0 ≤ f.high ∧ f.number ≤ a ∧ f.level ≤ c ∧ f.low ≤ 1099511627776 ∧ f.high ≤ 1099511627776 := by
 unfold takeF at h
 split at h
 · cases h
 · rename_i n1 b1 h1
   split at h
   · cases h
   · rename_i n2 b2 h2
     split at h
     · cases h
     · rename_i t3 b3 h3
       split at h
       · cases h
       · rename_i t4 b4 h4
         split at h
         · cases h
         · rename_i n5 b5 h5
           split at h
           · cases h
           · rename_i n6 b6 h6
             injection h with h; injection h with e1 e2
             subst e1 e2
             obtain ⟨q1, p1⟩ := takeN_eq h1
             obtain ⟨q2, p2⟩ := takeN_eq h2
             have q3 := takeT_eq h3
             have q4 := takeT_eq h4
             obtain ⟨q5, p5⟩ := takeN_eq h5
             obtain ⟨q6, p6⟩ := takeN_eq h6
             refine ⟨?_, by simp only; omega, by simp only; omega, by simp only; omega, by simp only; omega, by simp only; omega, by simp only; omega, by simp only; omega, by simp only; omega⟩
             rw [q1, q2, q3, q4, q5, q6]
             unfold encF numI
             simp only [Int.toNat_natCast, List.append_assoc]
theorem takeF_of {f : Fi} (h : okF f = true) (ha : 999999 ≤ a) (hc : 3 ≤ c) (r : List UInt8) : takeF a c (encF f ++ r) = some (f, r) := by
 obtain ⟨g1, g2, g3, g4, g5, g6, g7, g8, g9, g10, g11⟩ := okF_bd h
 obtain ⟨n, l, f1, f2, lo, hi⟩ := f
 simp only at *
 unfold encF numI
 simp only [List.append_assoc]
 unfold takeF
 rw [takeN_of _ (by omega) (by omega)]
 simp only
 rw [takeN_of _ (by omega) (by omega)]
 simp only
 rw [takeT_of _ _ (by omega)]
 simp only
 rw [takeT_of _ _ (by omega)]
 simp only
 rw [takeN_of _ (by omega) (by omega)]
 simp only
 rw [takeN_of _ (by omega) (by omega)]
 simp only
 have e1 : ((n.toNat : Nat) : Int) = n := Int.toNat_of_nonneg (by omega)
 have e2 : ((l.toNat : Nat) : Int) = l := Int.toNat_of_nonneg (by omega)
 have e3 : ((lo.toNat : Nat) : Int) = lo := Int.toNat_of_nonneg (by omega)
 have e4 : ((hi.toNat : Nat) : Int) = hi := Int.toNat_of_nonneg (by omega)
 rw [e1, e2, e3, e4]
theorem takeFs_eq : ∀ (k : Nat) (b r : List UInt8) (L : List Fi), takeFs a c k b = some (L, r) → b = L.flatMap encF ++ r ∧ L.length = k
 | 0, b, r, L, h => by
   injection h with h; injection h with h1 h2
   subst h1 h2
   exact ⟨rfl, rfl⟩
 | k + 1, b, r, L, h => by
   unfold takeFs at h
   split at h
   · cases h
   · rename_i f b1 h1
     split at h
     · cases h
     · rename_i l b2 h2
       injection h with h; injection h with e1 e2
       subst e1 e2
       obtain ⟨q1, q2⟩ := takeFs_eq k b1 b2 l h2
       rw [(takeF_eq h1).1, q1]
       simp only [List.flatMap_cons, List.append_assoc, List.length_cons, q2]
       exact ⟨trivial, trivial⟩
theorem takeFs_of (ha : 999999 ≤ a) (hc : 3 ≤ c) : ∀ (L : List Fi) (r : List UInt8), (∀ f ∈ L, okF f = true) → takeFs a c L.length (L.flatMap encF ++ r) = some (L, r)
 | [], _, _ => rfl
 | f :: L, r, h => by
   rw [List.flatMap_cons, List.append_assoc, List.length_cons]
   unfold takeFs
   rw [takeF_of (h f (by simp)) ha hc]
   simp only
   rw [takeFs_of ha hc L r (fun g hg => h g (by simp [hg]))]
theorem takeNs_eq : ∀ (k : Nat) (b r : List UInt8) (L : List Int), takeNs a k b = some (L, r) → b = L.flatMap numI ++ r ∧ L.length = k
 | 0, b, r, L, h => by
   injection h with h; injection h with h1 h2
   subst h1 h2
   exact ⟨rfl, rfl⟩
 | k + 1, b, r, L, h => by
   unfold takeNs at h
   split at h
   · cases h
   · rename_i f b1 h1
     split at h
     · cases h
     · rename_i l b2 h2
       injection h with h; injection h with e1 e2
       subst e1 e2
       obtain ⟨q1, q2⟩ := takeNs_eq k b1 b2 l h2
       rw [(takeN_eq h1).1, q1]
       unfold numI
       simp only [List.flatMap_cons, List.append_assoc, List.length_cons, q2, Int.toNat_natCast]
       exact ⟨trivial, trivial⟩
theorem takeNs_of (ha : 999999 ≤ a) : ∀ (L : List Int) (r : List UInt8), (∀ n ∈ L, okN n = true) → takeNs a L.length (L.flatMap numI ++ r) = some (L, r)
 | [], _, _ => rfl
 | n :: L, r, h => by
   have hn : 1 ≤ n ∧ n ≤ 999999 := of_decide_eq_true (h n (by simp))
   rw [List.flatMap_cons, List.append_assoc, List.length_cons]
   unfold takeNs
   rw [show numI n = Cod.number n.toNat from rfl, takeN_of _ (by omega) (by omega)]
   simp only
   rw [takeNs_of ha L r (fun g hg => h g (by simp [hg]))]
   simp only
   rw [Int.toNat_of_nonneg (by omega)]
theorem okE_bd {e : Ed} (h : okE e = true) : (e.add.length ≤ 50 ∧ e.drop.length ≤ 50 ∧ 0 ≤ e.log ∧ e.log ≤ 1099511627776 ∧ 0 ≤ e.next ∧ e.next ≤ 1099511627776) ∧ (∀ f ∈ e.add, okF f = true) ∧ (∀ n ∈ e.drop, okN n = true) := by
 unfold okE at h
 rw [Bool.and_eq_true, Bool.and_eq_true, decide_eq_true_eq, List.all_eq_true, List.all_eq_true] at h
 exact ⟨h.1, h.2.1, h.2.2⟩
theorem takeE_of {e : Ed} (h : okE e = true) (hm : 50 ≤ m) (hM : 50 ≤ M) (ha : 999999 ≤ a) (hc : 3 ≤ c) : takeE m M a c (enc e) = some (e, []) := by
 obtain ⟨⟨g1, g2, g3, g4, g5, g6⟩, g7, g8⟩ := okE_bd h
 obtain ⟨A, D, g, x⟩ := e
 simp only at *
 unfold enc
 simp only [List.append_assoc]
 unfold takeE
 rw [show numI (A.length : Int) = Cod.number A.length from rfl, takeN_of _ (by omega) (by omega)]
 simp only
 rw [Nat.min_eq_left (by omega), takeFs_of ha hc A _ g7]
 simp only
 rw [show numI (D.length : Int) = Cod.number D.length from rfl, takeN_of _ (by omega) (by omega)]
 simp only
 rw [Nat.min_eq_left (by omega), takeNs_of ha D _ g8]
 simp only
 rw [show numI g = Cod.number g.toNat from rfl, takeN_of _ (by omega) (by omega)]
 simp only
 rw [show numI x = Cod.number x.toNat ++ [] by rw [List.append_nil]; rfl, takeN_of _ (by omega) (by omega)]
 simp only
 rw [Int.toNat_of_nonneg (by omega), Int.toNat_of_nonneg (by omega)]
theorem takeE_eq {e : Ed} (h : takeE m M a c b = some (e, r)) (hm : m ≤ M) : b = enc e ++ r := by
 unfold takeE at h
 split at h
 · cases h
 · rename_i n1 b1 h1
   split at h
   · cases h
   · rename_i A b2 h2
     split at h
     · cases h
     · rename_i n3 b3 h3
       split at h
       · cases h
       · rename_i D b4 h4
         split at h
         · cases h
         · rename_i n5 b5 h5
           split at h
           · cases h
           · rename_i n6 b6 h6
             injection h with h; injection h with e1 e2
             subst e1 e2
             obtain ⟨q1, p1⟩ := takeN_eq h1
             obtain ⟨q2, p2⟩ := takeFs_eq _ _ _ _ h2
             obtain ⟨q3, p3⟩ := takeN_eq h3
             obtain ⟨q4, p4⟩ := takeNs_eq _ _ _ _ h4
             obtain ⟨q5, p5⟩ := takeN_eq h5
             obtain ⟨q6, p6⟩ := takeN_eq h6
             rw [Nat.min_eq_left (by omega)] at p2 p4
             rw [q1, q2, q3, q4, q5, q6]
             unfold enc numI
             simp only [Int.toNat_natCast, List.append_assoc, p2, p4]
end
theorem dec_iff (b : List UInt8) (e : Ed) : dec b = some e ↔ okE e = true ∧ enc e = b := by
 constructor
 · intro h
   unfold dec at h
   split at h
   · cases h
   · rename_i e2 r h1
     split at h
     · rename_i h2
       injection h with h
       subst h
       have := takeE_eq h1 (Nat.le_refl _)
       rw [h2.1, List.append_nil] at this
       exact ⟨h2.2, this.symm⟩
     · cases h
 · rintro ⟨h1, rfl⟩
   unfold dec
   rw [takeE_of h1 (Nat.le_refl _) (Nat.le_refl _) (Nat.le_refl _) (Nat.le_refl _)]
   simp only
   rw [if_pos ⟨trivial, h1⟩]
theorem dec_enc {e : Ed} (h : okE e = true) : dec (enc e) = some e := (dec_iff _ _).2 ⟨h, rfl⟩
end Ver
end Go.Proofs.YtgmnhdkdicgkcaaGreatDoor
