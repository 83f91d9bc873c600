/- Parts of the proof, one behind the other: The contract of TakeText; the walk of the law CodeTakes.; TakeText, the program's and the reference's, with more told.; Plain: a frame taken of bytes; it undoes Put. -/
import Derived.Test.YtgafionfojnieaaGreatDoorMrg26
import Derived.Test.YtgafionfojnieaaGreatDoorMrg20
namespace Go.Proofs.YtgafionfojnieaaGreatDoor
open Go.RowKit
open Lib (hid)
def TakenS (w : World) (A0 : Option Addr) (v : Option (List UInt8 × List UInt8)) (e : Ending) (w' : World) : Prop :=
 Below w.heap.size w w' ∧ match v with
 | none => e = .returned (.tuple #[.slice none 0 0, .slice none 0 0, .int .i64 3])
 | some (t, r) => ∃ A c B d, e = .returned (.tuple #[.slice A t.length c, .slice B r.length d, .int .i64 0]) ∧ Own w' w.heap.size 5 A c t ∧ RdB w' w'.heap.size B r ∧ r.length ≤ d ∧ d ≤ 9223372036854775807 ∧ Frs w' w.heap.size A0 B
theorem takenS_none {w w' : World} {A0 : Option Addr} {e : Ending} (h : TakenS w A0 none e w') : Below w.heap.size w w' ∧ e = .returned (.tuple #[.slice none 0 0, .slice none 0 0, .int .i64 3]) := h
theorem takenS_some {w w' : World} {A0 : Option Addr} {e : Ending} {t r : List UInt8} (h : TakenS w A0 (some (t, r)) e w') : Below w.heap.size w w' ∧ ∃ A c B d, e = .returned (.tuple #[.slice A t.length c, .slice B r.length d, .int .i64 0]) ∧ Own w' w.heap.size 5 A c t ∧ RdB w' w'.heap.size B r ∧ r.length ≤ d ∧ d ≤ 9223372036854775807 ∧ Frs w' w.heap.size A0 B := h
set_option maxHeartbeats 1000000 in
set_option maxRecDepth 100000 in
theorem textS_part (A : Option Addr) (c n : Nat) (r : List UInt8) (w : World) (hn : n < 18446744073709551616) (h : RdB w w.heap.size A r) (hl : r.length ≤ 140737488355328) (hc : r.length ≤ c) (hcc : c ≤ 9223372036854775807) :
   Calls Tryz.prog 115 #[.int .u64 (n : Int), .slice A r.length c] w (TakenS w A (cutT (some (n, r)))) := by
 by_cases hnr : (r.length : Int) < (n : Int)
 · have e : cutT (some (n, r)) = none := by unfold cutT; simp only; rw [if_neg (by omega)]
   rw [e]
   go_enter Tryz.func115, Tryz.ntmps115
   go_wp2
   refine bodyPost_ret (results_tmp3 rfl _ _ _) rfl ?_
   exact ⟨Below.refl _ _, rfl⟩
 · have e : cutT (some (n, r)) = some (r.take n, r.drop n) := by unfold cutT; simp only; rw [if_pos (by omega)]
   rw [e]
   have ht : RdB w w.heap.size A (r.take n) := h.take (by omega)
   have htl : n = (r.take n).length := by rw [List.length_take]; omega
   have hdl : r.length - n = (r.drop n).length := by simp
   obtain ⟨t, htt⟩ : ∃ t, t = r.take n := ⟨_, rfl⟩
   rw [← htt] at ht htl ⊢
   have htl2 : t.length ≤ 140737488355328 := by omega
   have hn1 : n ≤ r.length := by omega
   have hn2 : n ≤ c := by omega
   have HL := hid htl2
   have HT := hid ht
   have HTL := hid htl
   have HDL := hid hdl
   have HH := hid h
   clear ht htl hdl htt e h htl2 hl
   cases A with
   | none =>
     have hr0 : r = [] := by
       cases r with
       | nil => rfl
       | cons b r => obtain ⟨ad, h, _⟩ := HH.out.2 (by simp); cases h
     subst hr0
     have hn0 : n = 0 := by simpa using hn1
     subst hn0
     by_cases hc0 : c = 0
     · subst hc0
       go_enter Tryz.func115, Tryz.ntmps115
       go_wp2
       go_region_held (fun w' => RdB w' w'.heap.size none t ∧ Below w.heap.size w w')
         (first | exact rdB_keep HT.out ((Below.refl _ _).drew) | exact rdB_keep HT.out B3)
         (first
           | (go_at_call 34; refine (clone_cut none 0 0 t _ HTL.out (by go_split_ands; assumption) HL.out).mono ?_; rintro e w3 ⟨A3, c3, rfl, ho3, hb3⟩; have B3 := Below.trans (b := _) (by go_split_ands; assumption : Below w.heap.size w _) (hb3.mono (by go_split_ands; exact Below.size (by assumption))); have O3 := Own.mono ho3 (by go_split_ands; exact Below.size (by assumption) : w.heap.size ≤ _)))
       go_wp2
       refine bodyPost_ret (results_tmp3 rfl _ _ _) rfl ?_
       exact ⟨B3, A3, c3, none, 0, rfl, O3, RdB.nil, by simp, by omega, Frs.nil _ _ _⟩
     · have hc1 : 0 < c := by omega
       go_enter Tryz.func115, Tryz.ntmps115
       go_wp2
       go_region_held (fun w' => RdB w' w'.heap.size none t ∧ Below w.heap.size w w')
         (first | exact rdB_keep HT.out ((Below.refl _ _).drew) | exact rdB_keep HT.out B3)
         (first
           | (go_at_call 34; refine (clone_cut none 0 c t _ HTL.out (by go_split_ands; assumption) HL.out).mono ?_; rintro e w3 ⟨A3, c3, rfl, ho3, hb3⟩; have B3 := Below.trans (b := _) (by go_split_ands; assumption : Below w.heap.size w _) (hb3.mono (by go_split_ands; exact Below.size (by assumption))); have O3 := Own.mono ho3 (by go_split_ands; exact Below.size (by assumption) : w.heap.size ≤ _)))
       go_wp2
       refine bodyPost_ret (results_tmp3 rfl _ _ _) rfl ?_
       exact ⟨B3, A3, c3, none, c, rfl, O3, RdB.nil, by simp, hcc, Frs.nil _ _ _⟩
   | some ad =>
     have q := HH.out.drop (k := n) (cap := c) hn1 hc
     by_cases hcn : c = n
     · subst hcn
       rw [if_pos rfl] at q
       have HQ := hid q; clear q
       go_enter Tryz.func115, Tryz.ntmps115
       go_wp2
       go_region_held (fun w' => RdB w' w'.heap.size (some ad) t ∧ Below w.heap.size w w')
         (first | exact rdB_keep HT.out ((Below.refl _ _).drew) | exact rdB_keep HT.out B3)
         (first
           | (go_at_call 34; refine (clone_cut (some ad) c c t _ HTL.out (by go_split_ands; assumption) HL.out).mono ?_; rintro e w3 ⟨A3, c3, rfl, ho3, hb3⟩; have B3 := Below.trans (b := _) (by go_split_ands; assumption : Below w.heap.size w _) (hb3.mono (by go_split_ands; exact Below.size (by assumption))); have O3 := Own.mono ho3 (by go_split_ands; exact Below.size (by assumption) : w.heap.size ≤ _)))
       go_wp2
       refine bodyPost_ret (results_tmp3 rfl _ _ _) rfl ?_
       exact ⟨B3, A3, c3, some ad, 0, ret_takt rfl (by have := HDL.out; omega), O3, (HQ.out.below B3 (Nat.le_refl _)).more B3.size, by have := HDL.out; omega, by omega, Frs.self _ _ _⟩
     · have hcn2 : n < c := by omega
       rw [if_neg hcn] at q
       have HQ := hid q; clear q
       go_enter Tryz.func115, Tryz.ntmps115
       go_wp2
       go_region_held (fun w' => RdB w' w'.heap.size (some ad) t ∧ Below w.heap.size w w')
         (first | exact rdB_keep HT.out ((Below.refl _ _).drew) | exact rdB_keep HT.out B3)
         (first
           | (go_at_call 34; refine (clone_cut (some ad) n c t _ HTL.out (by go_split_ands; assumption) HL.out).mono ?_; rintro e w3 ⟨A3, c3, rfl, ho3, hb3⟩; have B3 := Below.trans (b := _) (by go_split_ands; assumption : Below w.heap.size w _) (hb3.mono (by go_split_ands; exact Below.size (by assumption))); have O3 := Own.mono ho3 (by go_split_ands; exact Below.size (by assumption) : w.heap.size ≤ _)))
       go_wp2
       refine bodyPost_ret (results_tmp3 rfl _ _ _) rfl ?_
       exact ⟨B3, A3, c3, some (ad.add n), c - n, ret_takt rfl HDL.out, O3, (HQ.out.below B3 (Nat.le_refl _)).more B3.size, by have := HDL.out; omega, by omega, (Frs.self _ _ _).add⟩
set_option maxHeartbeats 400000 in
set_option maxRecDepth 100000 in
theorem thenTextS_any (A : Option Addr) (c : Nat) (b : List UInt8) (w : World) (h : RdB w w.heap.size A b) (hl : b.length ≤ 140737488355328) (hc : b.length ≤ c) (hcc : c ≤ 9223372036854775807) :
   Calls Tryz.prog 114 #[.slice A b.length c, .func (.func 24) #[] #[], .func (.func 115) #[] #[]] w (TakenS w A (cutT (Cod.take b))) := by
 have C := takeF_any A c b w h hl hc hcc
 cases hk : Cod.take b with
 | none =>
   rw [hk] at C
   have HC := hid C; clear C hk
   go_enter Tryz.func114, Tryz.ntmps114
   go_wp2_with fail
   refine HC.out.mono ?_
   intro e w1 hh
   obtain ⟨hb, rfl⟩ := takenF_none hh
   clear hh
   go_wp2_with fail
   refine bodyPost_ret (results_tmp3 rfl _ _ _) rfl ?_
   exact ⟨hb, rfl⟩
 | some v =>
   obtain ⟨n, r⟩ := v
   obtain ⟨hn, hrb⟩ := Cod.take_bound hk
   rw [hk] at C
   have HC := hid C; clear C hk
   cases hx : cutT (some (n, r)) with
   | none =>
     have HX := hid hx; clear hx
     go_enter Tryz.func114, Tryz.ntmps114
     go_wp2_with fail
     refine HC.out.mono ?_
     intro e w1 hh
     obtain ⟨hb, A1, c1, rfl, hc1, hcc1, r1, fr1⟩ := takenF_some hh
     clear hh
     go_wp2_with fail
     refine (textS_part A1 c1 n r _ hn r1 (by omega) hc1 hcc1).mono ?_
     rw [HX.out]
     intro e w2 hh
     obtain ⟨hb2, rfl⟩ := takenS_none hh
     clear hh
     go_wp2_with fail
     refine bodyPost_ret (results_tmp3 rfl _ _ _) rfl ?_
     exact ⟨hb.trans (hb2.mono hb.size), rfl⟩
   | some v =>
     obtain ⟨t, u⟩ := v
     have HX := hid hx; clear hx
     go_enter Tryz.func114, Tryz.ntmps114
     go_wp2_with fail
     refine HC.out.mono ?_
     intro e w1 hh
     obtain ⟨hb, A1, c1, rfl, hc1, hcc1, r1, fr1⟩ := takenF_some hh
     clear hh
     go_wp2_with fail
     refine (textS_part A1 c1 n r _ hn r1 (by omega) hc1 hcc1).mono ?_
     rw [HX.out]
     intro e w2 hh
     obtain ⟨hb2, A2, c2, A3, c3, rfl, t2, u2, v2, x2, y2⟩ := takenS_some hh
     clear hh
     go_wp2_with fail
     refine bodyPost_ret (results_tmp3 rfl _ _ _) rfl ?_
     exact ⟨hb.trans (hb2.mono hb.size), A2, c2, A3, c3, rfl, t2.mono hb.size, u2, v2, x2, fr1.trans y2 hb2 hb.size⟩
set_option maxRecDepth 100000 in
theorem takeTextS_any (A : Option Addr) (c : Nat) (b : List UInt8) (w : World) (h : RdB w w.heap.size A b) (hl : b.length ≤ 140737488355328) (hc : b.length ≤ c) (hcc : c ≤ 9223372036854775807) :
   Calls Tryz.prog 94 #[.slice A b.length c] w (TakenS w A (cutT (Cod.take b))) := by
 have C := thenTextS_any A c b w h hl hc hcc
 cases hx : cutT (Cod.take b) with
 | none =>
   rw [hx] at C
   have HC := hid C; clear C hx
   go_enter Tryz.func94, Tryz.ntmps94
   go_wp2_with fail
   refine HC.out.mono ?_
   intro e w1 hh
   obtain ⟨hb, rfl⟩ := takenS_none hh
   clear hh
   go_wp2_with fail
   refine bodyPost_ret (results_tmp3 rfl _ _ _) rfl ?_
   exact ⟨hb, rfl⟩
 | some v =>
   obtain ⟨t, u⟩ := v
   rw [hx] at C
   have HC := hid C; clear C hx
   go_enter Tryz.func94, Tryz.ntmps94
   go_wp2_with fail
   refine HC.out.mono ?_
   intro e w1 hh
   obtain ⟨hb, A2, c2, A3, c3, rfl, t2, u2, v2, x2, y2⟩ := takenS_some hh
   clear hh
   go_wp2_with fail
   refine bodyPost_ret (results_tmp3 rfl _ _ _) rfl ?_
   exact ⟨hb, A2, c2, A3, c3, rfl, t2, u2, v2, x2, y2⟩
namespace Frm
def num4 (l : List UInt8) : Nat := l.foldl (fun n c => n * 256 + c.toNat) 0
def take (b : List UInt8) : Option (UInt8 × List UInt8 × List UInt8) := match b with
 | [] => none
 | k :: b' => match cutT (Cod.take b') with
   | none => none
   | some (t, r) => if t.length ≤ 65536 ∧ 4 ≤ r.length ∧ r.take 4 = be4 (Chk.sum (head k t)) then some (k, t, r.drop 4) else none
theorem cutT_text {b t r : List UInt8} (h : cutT (Cod.take b) = some (t, r)) : b = Cod.text t ++ r := by
 unfold cutT at h
 split at h
 · cases h
 · rename_i n r0 hk
   split at h
   · rename_i hn
     injection h with h; injection h with h1 h2
     subst h1 h2
     rw [Cod.take_number hk]
     unfold Cod.text
     have e : (r0.take n).length = n := by rw [List.length_take]; omega
     rw [e, List.append_assoc, List.take_append_drop]
   · cases h
theorem take_num (n : Nat) (h : n < 18446744073709551616) (r : List UInt8) : Cod.take (Cod.number n ++ r) = some (n, r) := Cod.take_of h r
theorem cutT_of (t r : List UInt8) (h : t.length < 18446744073709551616) : cutT (Cod.take (Cod.text t ++ r)) = some (t, r) := by
 unfold Cod.text
 rw [List.append_assoc, take_num _ h]
 unfold cutT
 simp
theorem be4_len (n : Nat) : (be4 n).length = 4 := rfl
theorem take_put (k : UInt8) (t r : List UInt8) (h : t.length ≤ 65536) : take (put k t ++ r) = some (k, t, r) := by
 unfold put
 have e : head k t ++ be4 (Chk.sum (head k t)) ++ r = k :: (Cod.text t ++ (be4 (Chk.sum (head k t)) ++ r)) := by
   rw [List.append_assoc]; rfl
 rw [e, take, cutT_of _ _ (by omega)]
 simp only
 rw [if_pos ⟨h, by simp [be4_len], by rw [List.take_append_of_le_length (by simp [be4_len]), List.take_of_length_le (by simp [be4_len])]⟩]
 rw [List.drop_append_of_le_length (by simp [be4_len]), List.drop_of_length_le (by simp [be4_len])]
 rfl
theorem of_take {b t r : List UInt8} {k : UInt8} (h : take b = some (k, t, r)) : b = put k t ++ r ∧ t.length ≤ 65536 := by
 unfold take at h
 split at h
 · cases h
 · rename_i k' b'
   split at h
   · cases h
   · rename_i t' r' hc
     split at h
     · rename_i hh
       obtain ⟨h1, h2, h3⟩ := hh
       injection h with h; injection h with e1 h; injection h with e2 e3
       subst e1 e2 e3
       refine ⟨?_, h1⟩
       rw [cutT_text hc, put, ← h3, List.append_assoc, List.take_append_drop]
       rfl
     · cases h
theorem num4_be4 (n : Nat) (h : n < 4294967296) : num4 (be4 n) = n := by
 unfold num4 be4
 simp only [List.foldl_cons, List.foldl_nil, UInt8.toNat_ofNat']
 omega
theorem num4_lt (l : List UInt8) : ∀ n : Nat, l.foldl (fun n (c : UInt8) => n * 256 + c.toNat) n < (n + 1) * 256 ^ l.length := by
 induction l with
 | nil => intro n; simp
 | cons c l ih =>
   intro n
   have h1 := ih (n * 256 + c.toNat)
   have h2 := c.toNat_lt
   rw [List.foldl_cons, List.length_cons, Nat.pow_succ]
   refine Nat.lt_of_lt_of_le h1 ?_
   rw [Nat.mul_comm (256 ^ l.length) 256, ← Nat.mul_assoc]
   exact Nat.mul_le_mul_right _ (by omega)
theorem num4_inj {l m : List UInt8} (hl : l.length = 4) (hm : m.length = 4) (h : num4 l = num4 m) : l = m := by
 match l, hl, m, hm with
 | [a, b, c, d], _, [e, f, g, i], _ =>
   unfold num4 at h
   simp only [List.foldl_cons, List.foldl_nil] at h
   have := a.toNat_lt; have := b.toNat_lt; have := c.toNat_lt; have := d.toNat_lt
   have := e.toNat_lt; have := f.toNat_lt; have := g.toNat_lt; have := i.toNat_lt
   have h1 : a.toNat = e.toNat := by omega
   have h2 : b.toNat = f.toNat := by omega
   have h3 : c.toNat = g.toNat := by omega
   have h4 : d.toNat = i.toNat := by omega
   rw [UInt8.toNat_inj.1 h1, UInt8.toNat_inj.1 h2, UInt8.toNat_inj.1 h3, UInt8.toNat_inj.1 h4]
theorem sum_iff (r h : List UInt8) (hr : 4 ≤ r.length) : r.take 4 = be4 (Chk.sum h) ↔ Chk.sum h = num4 (r.take 4) := by
 have hs : Chk.sum h < 2147483647 := Chk.sum_lt _
 constructor
 · intro e; rw [e, num4_be4 _ (by omega)]
 · intro e; exact num4_inj (by rw [List.length_take]; omega) rfl (by rw [num4_be4 _ (by omega), e])
theorem num4_snoc (l : List UInt8) (c : UInt8) : num4 (l ++ [c]) = num4 l * 256 + c.toNat := by unfold num4; simp [List.foldl_append]
end Frm
end Go.Proofs.YtgafionfojnieaaGreatDoor
