/- Parts of the proof, one behind the other: Contracts: cmp.Compare, cmp.Or, place.; A map from numbers to true: which numbers were met.; The contract of version.Right.; The contract of the reference's Right. -/
import Derived.Test.YtgmnhdkdicgkcaaGreatDoorProg
import Derived.StillTailTactics
import Derived.Test.YtgmnhdkdicgkcaaGreatDoorOrg24
import Derived.WalkArith
import Derived.Maps.OwnSet
import Derived.BigQuiet
namespace Go.Proofs.YtgmnhdkdicgkcaaGreatDoor
theorem region_still_tail {P : Program} {id : Nat} {Q : Exit → Act → World → Prop} {a : Act} {w V : World} {l : List Oper} (n : Nat) (hm : P.follows .mixedOrders = true) (hB : Region.lexTailB .any l.toArray n = true) (hV : w.drew = V)
   (h : wpStill P l.toArray V (fun a' => wpList P l.toArray Q (l.drop n) a' V) (l.take n) a) : (Code.region id l.toArray true).wp P Q a w := by
 subst hV
 exact wp_region_still_tail n hm hB h
end Go.Proofs.YtgmnhdkdicgkcaaGreatDoor
namespace Go.Proofs.YtgmnhdkdicgkcaaGreatDoor
open Go.RowKit Go.Maps
open Lib (hid)
namespace Ver
theorem nan_any (n : Int) (w : World) : Calls Tryz.prog 158 #[.int .i64 n] w fun e w' => e = .returned (.bool false) ∧ w' = w := by
 have h : (n != n) = false := by simp
 go_enter Tryz.func158, Tryz.ntmps158
 go_wp2
 go_ret
 exact ⟨rfl, rfl⟩
theorem icmp_any (a b : Int) (w : World) : Calls Tryz.prog 104 #[.int .i64 a, .int .i64 b] w fun e w' => e = .returned (.int .i64 (icmp a b)) ∧ w' = w := by
 by_cases h1 : a < b
 · have E : Hid (icmp a b = -1) := hid (by unfold icmp; rw [if_pos h1])
   go_enter Tryz.func104, Tryz.ntmps104
   go_wp2_with (go_at_call 158; refine (nan_any _ _).mono ?_; rintro e w' ⟨rfl, rfl⟩)
   go_ret
   rw [E.out]
   exact ⟨rfl, rfl⟩
 · by_cases h2 : b < a
   · have E : Hid (icmp a b = 1) := hid (by unfold icmp; rw [if_neg h1, if_pos h2])
     go_enter Tryz.func104, Tryz.ntmps104
     go_wp2_with (go_at_call 158; refine (nan_any _ _).mono ?_; rintro e w' ⟨rfl, rfl⟩)
     go_ret
     rw [E.out]
     exact ⟨rfl, rfl⟩
   · have E : Hid (icmp a b = 0) := hid (by unfold icmp; rw [if_neg h1, if_neg h2])
     go_enter Tryz.func104, Tryz.ntmps104
     go_wp2_with (go_at_call 158; refine (nan_any _ _).mono ?_; rintro e w' ⟨rfl, rfl⟩)
     go_ret
     rw [E.out]
     exact ⟨rfl, rfl⟩
set_option maxHeartbeats 1000000 in
set_option maxRecDepth 100000 in
theorem or_any (a b x : Int) (hx : x = if a ≠ 0 then a else b) (A : Nat) (w : World) (h : w.heap[A]? = some (.cells #[.int .i64 a, .int .i64 b] 3)) : Calls Tryz.prog 105 #[.slice (some ⟨A, 0, none⟩) 2 2] w fun e w' => e = .returned (.int .i64 x) ∧ w' = w := by
 have HX := hid hx
 clear hx
 have q0 : w.cell? ⟨A, 0, none⟩ = some (.int .i64 a) := by rw [cell_of_row w A 0 _ _ (0, 0) h]; rfl
 have q1 : w.cell? ⟨A, 1, none⟩ = some (.int .i64 b) := by rw [cell_of_row w A 1 _ _ (0, 0) h]; rfl
 clear h
 go_enter Tryz.func105, Tryz.ntmps105
 go_wp2_with fail
 go_loopw [8] (fun i wr => wr = w ∧ (i = .int .i64 0 ∨ (i = .int .i64 1 ∧ a = 0) ∨ (i = .int .i64 2 ∧ a = 0 ∧ b = 0))) (fun i _ => 2 - (intOf i).toNat)
 case atStart => exact ⟨rfl, .inl rfl⟩
 case round =>
   obtain ⟨rfl, ⟨rfl⟩ | ⟨rfl, rfl⟩ | ⟨rfl, rfl, rfl⟩⟩ := hrel
   · by_cases ha : a = 0
     · subst ha
       go_wp2_with fail
       refine ⟨?_, by decide⟩
       simp
     · have e1 : (a != 0) = true := by simpa using ha
       have e2 : (a == 0) = false := by simpa using ha
       obtain rfl : x = a := by rw [HX.out, if_pos ha]
       clear ha HX
       go_wp2_with fail
       go_ret
       exact ⟨rfl, rfl⟩
   · obtain rfl : b = x := by rw [HX.out]; simp
     clear HX
     by_cases hb : b = 0
     · subst hb
       go_wp2_with fail
       refine ⟨?_, by decide⟩
       simp
     · have e1 : (b != 0) = true := by simpa using hb
       have e2 : (b == 0) = false := by simpa using hb
       clear hb
       go_wp2_with fail
       go_ret
       exact ⟨rfl, rfl⟩
   · obtain rfl : x = 0 := by rw [HX.out]; simp
     clear HX
     go_wp2_with fail
     go_ret
     exact ⟨rfl, rfl⟩
set_option maxHeartbeats 4000000 in
set_option maxRecDepth 100000 in
theorem place_any (u v : Vf) (w : World) (hu : VfOk w w.heap.size u) (hv : VfOk w w.heap.size v) : Calls Tryz.prog 43 #[u.val, v.val] w fun e w' => e = .returned (.int .i64 (place u.fi v.fi)) ∧ Below w.heap.size w w' := by
 obtain ⟨n1, v1, FA1, fc1, f1, LA1, lc1, l1, lo1, hi1⟩ := u
 obtain ⟨n2, v2, FA2, fc2, f2, LA2, lc2, l2, lo2, hi2⟩ := v
 unfold Vf.val Vf.fi place
 simp only
 obtain ⟨O, hO⟩ : ∃ O : Obj, Obj.cells #[.int .i64 n1, .int .i64 v1, .slice FA1 f1.length fc1, .slice LA1 l1.length lc1, .int .i64 lo1, .int .i64 hi1] 43 = O := ⟨_, rfl⟩
 obtain ⟨U, hU⟩ : ∃ U : Obj, Obj.cells #[.int .i64 n2, .int .i64 v2, .slice FA2 f2.length fc2, .slice LA2 l2.length lc2, .int .i64 lo2, .int .i64 hi2] 43 = U := ⟨_, rfl⟩
 obtain ⟨W, hW⟩ : ∃ W, W = (w.alloc O).alloc U := ⟨_, rfl⟩
 have hb : Below w.heap.size w W := by rw [hW]; exact ((Below.refl _ _).alloc (Nat.le_refl _) O).alloc (by simp) U
 have HF := hid (And.intro hu.f hv.f)
 have HB := hid hb
 have HZ : Hid (w.heap.size + 2 = W.heap.size) := hid (by rw [hW]; simp)
 have HC : Hid (W.heap[w.heap.size]? = some O ∧ W.heap[w.heap.size + 1]? = some U) := hid (by
   rw [hW]
   refine ⟨?_, ?_⟩
   · rw [Below.heap_alloc _ _ _ (by simp)]; exact heap_alloc_new w O
   · have := heap_alloc_new (w.alloc O) U
     rwa [show (w.alloc O).heap.size = w.heap.size + 1 by simp] at this)
 have HW := hid hW
 by_cases h0 : v1 = 0 ∧ v2 = 0
 · obtain ⟨rfl, rfl⟩ := h0
   have HE : Hid ((if (0 : Int) = 0 ∧ (0 : Int) = 0 then icmp n2 n1 else if icmp (0 : Int) 0 ≠ 0 then icmp (0 : Int) 0 else Lib.compareBytes f1 f2) = icmp n2 n1) := hid (if_pos ⟨rfl, rfl⟩)
   rw [HE.out]
   have KI := hid (fun w => icmp_any n2 n1 w)
   obtain ⟨x, hx⟩ : ∃ x, x = icmp n2 n1 := ⟨_, rfl⟩
   rw [← hx] at KI ⊢
   rw [HW.out, ← hO, ← hU] at HB
   clear hO hU hW hb hx HF HZ HC HW hu hv HE
   go_enter Tryz.func43, Tryz.ntmps43
   go_wp2_with fail
   refine (KI.out _).mono ?_
   rintro e w1 ⟨rfl, rfl⟩
   go_wp2_with fail
   go_ret
   exact ⟨rfl, HB.out⟩
 · have HE : Hid ((if v1 = 0 ∧ v2 = 0 then icmp n2 n1 else if icmp v1 v2 ≠ 0 then icmp v1 v2 else Lib.compareBytes f1 f2) = if icmp v1 v2 ≠ 0 then icmp v1 v2 else Lib.compareBytes f1 f2) := hid (if_neg h0)
   rw [HE.out]
   have KI := hid (fun w => icmp_any v1 v2 w)
   obtain ⟨V, hV⟩ : ∃ V, V = W.drew := ⟨_, rfl⟩
   have hbV : Below w.heap.size w V := by rw [hV]; exact hb.trans ((Below.refl _ _).drew)
   have kb : Calls Tryz.prog 49 #[.slice FA1 f1.length fc1, .slice FA2 f2.length fc2] V fun e w' => e = .returned (.int .i64 (Lib.compareBytes f1 f2)) ∧ w' = V := (bcmp_any V.heap.size FA1 fc1 f1 V.heap.size FA2 fc2 f2 V ((hu.f.below hbV (Nat.le_refl _)).more hbV.size) ((hv.f.below hbV (Nat.le_refl _)).more hbV.size)).mono (fun _ _ h => ⟨h.1, h.2.symm⟩)
   have KB := hid kb
   clear kb
   obtain ⟨x, hx⟩ : ∃ x, x = icmp v1 v2 := ⟨_, rfl⟩
   obtain ⟨y, hy⟩ : ∃ y, y = Lib.compareBytes f1 f2 := ⟨_, rfl⟩
   obtain ⟨z, hz⟩ : ∃ z, z = if x ≠ 0 then x else y := ⟨_, rfl⟩
   rw [← hx] at KI ⊢
   rw [← hy] at KB ⊢
   rw [← hz]
   have KO := hid (fun A w h => or_any x y z hz A w h)
   have HBV := hid hbV
   have hVW : V.heap = W.heap := by rw [hV]; rfl
   have hc1 := HC.out.1
   have hc2 := HC.out.2
   rw [← hVW, ← hO] at hc1
   rw [← hVW, ← hU] at hc2
   have c1 : V.cell? ⟨w.heap.size, 1, none⟩ = some (.int .i64 v1) := by rw [cell_of_row _ _ 1 _ _ (0, 0) hc1]; rfl
   have c2 : V.cell? ⟨w.heap.size, 2, none⟩ = some (.slice FA1 f1.length fc1) := by rw [cell_of_row _ _ 2 _ _ (0, 0) hc1]; rfl
   have d1 : V.cell? ⟨w.heap.size + 1, 1, none⟩ = some (.int .i64 v2) := by rw [cell_of_row _ _ 1 _ _ (0, 0) hc2]; rfl
   have d2 : V.cell? ⟨w.heap.size + 1, 2, none⟩ = some (.slice FA2 f2.length fc2) := by rw [cell_of_row _ _ 2 _ _ (0, 0) hc2]; rfl
   have h1 : (v1 == 0 && v2 == 0) = false := by
     cases h : (v1 == 0 && v2 == 0) with
     | false => rfl
     | true => simp at h; exact absurd h h0
   rw [← hO, ← hU] at hW
   have HV : Hid (W.drew = V) := hid hV.symm
   have HW2 := hid hW
   clear hO hU hb hx hy hz HF HB HZ HC HW hu hv HE hbV hV hc1 hc2 hVW hW
   go_enter Tryz.func43, Tryz.ntmps43
   have fin : ∀ {q : Bool}, q = false → q = false := id
   by_cases hv1 : v1 = 0
   · have hv2 : (v2 == 0) = false := by
       cases h : (v2 == 0) with
       | false => rfl
       | true => simp at h; exact absurd ⟨hv1, h⟩ h0
     subst hv1
     clear h0 h1 fin
     go_wp2_with fail
     refine region_still_tail (V := V) 10 (by kernel_rfl) (by kernel_rfl) (by rw [← HW2.out]; exact HV.out) ?_
     simp only [List.take_succ_cons, List.take_zero, List.drop_succ_cons, List.drop_zero]
     repeat still_step
     still_call (KI.out _)
     repeat still_step
     still_call KB.out
     repeat still_step
     refine wpStill_nil ?_
     go_wp2_with fail
     refine (KO.out V.heap.size _ (heap_alloc_new V _)).mono ?_
     rintro e w1 ⟨rfl, rfl⟩
     have HB1 := hid (HBV.out.trans ((Below.refl V.heap.size V).alloc (Nat.le_refl _) (.cells #[.int .i64 x, .int .i64 y] 3) |>.mono HBV.out.size))
     go_wp2_with fail
     go_ret
     exact ⟨rfl, HB1.out⟩
   · have hv2 : (v1 == 0) = false := by simpa using hv1
     clear h0 h1 fin hv1
     go_wp2_with fail
     refine region_still_tail (V := V) 10 (by kernel_rfl) (by kernel_rfl) (by rw [← HW2.out]; exact HV.out) ?_
     simp only [List.take_succ_cons, List.take_zero, List.drop_succ_cons, List.drop_zero]
     repeat still_step
     still_call (KI.out _)
     repeat still_step
     still_call KB.out
     repeat still_step
     refine wpStill_nil ?_
     go_wp2_with fail
     refine (KO.out V.heap.size _ (heap_alloc_new V _)).mono ?_
     rintro e w1 ⟨rfl, rfl⟩
     have HB1 := hid (HBV.out.trans ((Below.refl V.heap.size V).alloc (Nat.le_refl _) (.cells #[.int .i64 x, .int .i64 y] 3) |>.mono HBV.out.size))
     go_wp2_with fail
     go_ret
     exact ⟨rfl, HB1.out⟩
end Ver
namespace Ver
theorem ilaw : Keyed Tryz.prog 3 := int_keyed Tryz.underlying3
def boolR : Value → Option (DataW Unit × List MemPlace)
 | .bool b => some (.lit (.bool b), [])
 | _ => none
theorem boolR_inv {v : Value} {b : Bool} {ps : List MemPlace} (h : boolR v = some (.lit (.bool b), ps)) : v = .bool b := by
 unfold boolR at h
 split at h
 · injection h with h; injection h with h _; injection h with h; injection h with h; rw [h]
 · cases h
def seenD : List Int → DataW Unit
 | [] => .map []
 | n :: l => (seenD l).put (.int .i64 n) (.lit (.bool true))
theorem seenD_isMap : ∀ l, IsMap (seenD l)
 | [] => isMap_empty
 | _ :: l => (seenD_isMap l).put _ _
theorem seenD_at (n : Int) : ∀ l : List Int, (seenD l).atKey (.int .i64 n) (.lit (.bool false)) = .lit (.bool (l.contains n))
 | [] => rfl
 | m :: l => by
   by_cases h : n = m
   · subst h
     unfold seenD
     rw [atKey_put_same (seenD_isMap l) (show Go.WideAt.IsKeyLit (.int .i64 n) from trivial)]
     simp
   · unfold seenD
     rw [atKey_put_other (fun e => h (by injection e)), seenD_at n l]
     congr 2
     simp [h]
abbrev Seen (w : World) (b : Nat) (l : List Int) : Prop := w.ownsMap Tryz.prog 3 boolR b l.length (seenD l)
theorem zeroB (w : World) : (zeroValue 4).run Tryz.prog w = .ok (.bool false) w := by kernel_rfl
theorem ikey (n : Int) (h1 : -9223372036854775808 ≤ n) (h2 : n ≤ 9223372036854775807) : keyOf Tryz.prog 3 (.int .i64 n) = some (.int .i64 n) := keyOf_int_mk Tryz.underlying3 (WalkArith.wf_i64 ⟨h1, h2⟩)
theorem seen_look {w : World} {b : Nat} {l : List Int} (h : Seen w b l) (n : Int) (hn : 1 ≤ n ∧ n ≤ 999999) :
   (Instr.lookup 85 (.map (some b)) (.int .i64 n) false).run Tryz.prog w = .ok (.bool (l.contains n)) w := by
 obtain ⟨v, ps, h1, h2⟩ := h.lookup ilaw Tryz.underlying85 (zeroB w) (zd := .lit (.bool false)) (zp := []) rfl (ikey n (by omega) (by omega))
 rw [seenD_at] at h2
 rw [h1, boolR_inv h2]
end Ver
namespace Ver
theorem ahead_eq {p f : Fi} (hp : okF p = true) (hf : okF f = true) : ahead p f = (decide (place p f < 0) && !(decide (0 < f.level) && (decide (p.level = f.level) && decide (0 ≤ Lib.compareBytes p.last f.first)))) := by
 have h1 := place_neg p f
 have h2 := compareBytes_lt p.last f.first
 have h3 := (okF_bd hf).2.2.1
 cases hb : before p f with
 | false =>
   have h4 : ¬ place p f < 0 := fun h => by rw [h1, hb] at h; cases h
   rw [decide_eq_false h4]
   cases ha : ahead p f with
   | false => rfl
   | true => rw [ahead_before hp ha] at hb; cases hb
 | true =>
   rw [decide_eq_true (h1.2 hb)]
   unfold ahead
   unfold before at hb
   by_cases x : p.level = f.level
   · rw [if_neg (by omega)] at hb ⊢
     by_cases y : p.level = 0
     · rw [if_pos y] at hb ⊢
       rw [decide_eq_false (show ¬ 0 < f.level by omega), hb]; rfl
     · rw [if_neg y, decide_eq_true (show 0 < f.level by omega), decide_eq_true x]
       cases h5 : Op.bytesLess p.last f.first with
       | true => rw [decide_eq_false (show ¬ 0 ≤ Lib.compareBytes p.last f.first by have := h2.2 h5; omega)]; rfl
       | false => rw [decide_eq_true (show 0 ≤ Lib.compareBytes p.last f.first by
           have h6 : ¬ Lib.compareBytes p.last f.first < 0 := fun h => by rw [h2, h5] at h; cases h
           omega)]; rfl
   · rw [if_pos x] at hb ⊢
     rw [decide_eq_false x, hb]; simp
def met (L : List Fi) (k : Nat) : List Int := ((L.take k).map Fi.number).reverse
theorem met_succ (L : List Fi) {k : Nat} (h : k < L.length) : met L (k + 1) = L[k].number :: met L k := by
 unfold met
 rw [List.take_succ_eq_append_getElem h, List.map_append, List.reverse_append]; rfl
theorem met_all (L : List Fi) (k : Nat) (n : Int) : (L.take k).all (fun g => g.number != n) = !((met L k).contains n) := by
 unfold met
 cases h : (((L.take k).map Fi.number).reverse).contains n with
 | true =>
   rw [List.contains_iff_mem, List.mem_reverse, List.mem_map] at h
   obtain ⟨g, hg, e⟩ := h
   rw [Bool.not_true, List.all_eq_false]
   exact ⟨g, hg, by simp [e]⟩
 | false =>
   rw [Bool.not_false, List.all_eq_true]
   intro g hg
   have h2 : ¬ n ∈ ((L.take k).map Fi.number).reverse := fun hm => by
     rw [← List.contains_iff_mem, h] at hm; cases hm
   rw [List.mem_reverse, List.mem_map] at h2
   simp only [bne_iff_ne, ne_eq]
   exact fun e => h2 ⟨g, hg, e⟩
theorem fitsAll_at (next : Int) (L : List Fi) {k : Nat} (h : k < L.length) : fitsAll next (L.take k) (L.drop k) = (fits next (L.take k) L[k] && fitsAll next (L.take (k + 1)) (L.drop (k + 1))) := by
 rw [List.drop_eq_getElem_cons h, List.take_succ_eq_append_getElem h]; rfl
structure RtI (w : World) (O : Obj) (L : List Fi) (next : Int) (k : Nat) (wr : World) : Prop where
 bel : Below w.heap.size w wr
 box : wr.heap[w.heap.size]? = some O
 seen : Seen wr (w.heap.size + 1) (met L k)
 ok : ∀ f ∈ L.take k, okF f = true
 fit : fitsAll next [] L = fitsAll next (L.take k) (L.drop k)
theorem RtI.lt {w wr : World} {O : Obj} {L : List Fi} {next : Int} {k : Nat} (h : RtI w O L next k wr) : w.heap.size + 1 < wr.heap.size := h.seen.lt
set_option maxHeartbeats 8000000 in
set_option maxRecDepth 100000 in
theorem right_any (A : Option Addr) (c : Nat) (l : List Vf) (log next : Int) (w : World) (h : RdV w w.heap.size A l) (hl : l.length ≤ 1000000) :
   Calls Tryz.prog 14 #[.agg #[.slice A l.length c, .int .i64 log, .int .i64 next]] w fun e w' => e = .returned (.bool (right ⟨l.map Vf.fi, log, next⟩)) ∧ Below w.heap.size w w' := by
 obtain ⟨rr, hrr⟩ : ∃ rr, rr = right ⟨l.map Vf.fi, log, next⟩ := ⟨_, rfl⟩
 rw [← hrr]
 have HRR := hid hrr
 have H := hid h
 have HLM : Hid ((l.map Vf.fi).length = l.length) := hid (List.length_map ..)
 obtain ⟨O, hO⟩ : ∃ O : Obj, Obj.cells #[.slice A l.length c, .int .i64 log, .int .i64 next] 24 = O := ⟨_, rfl⟩
 have hb : Below w.heap.size w (w.alloc O) := (Below.refl _ _).alloc (Nat.le_refl _) O
 have HO := hid hO
 have HB := hid hb
 rw [← hO] at HB
 obtain ⟨q1, hq1⟩ : ∃ q, (decide (1 ≤ next) && decide (next ≤ 999999)) = q := ⟨_, rfl⟩
 obtain ⟨q2, hq2⟩ : ∃ q, (decide (0 ≤ log) && decide (log ≤ 1099511627776)) = q := ⟨_, rfl⟩
 have K1 := hid (fun w => within_any next 1 999999 w)
 have K2 := hid (fun w => within_any log 0 1099511627776 w)
 rw [hq1] at K1
 rw [hq2] at K2
 have HQ1 := hid hq1
 have HQ2 := hid hq2
 clear h hrr hO hb hq1 hq2
 have hmm := @run_makeMap Tryz.prog
 go_enter Tryz.func14, Tryz.ntmps14
 by_cases h50 : l.length ≤ 50
 · have h50' : ¬ (50 : Int) < (l.length : Int) := by omega
   go_wp2_with fail
   refine (K1.out _).mono ?_
   rintro e w1 ⟨rfl, rfl⟩
   rcases q1 with _ | _
   · go_wp2_with fail
     go_ret
     exact ⟨ret_q (by
       rw [HRR.out]; unfold right
       have := HQ1.out
       rw [decide_eq_false]
       · rfl
       · intro hh
         simp only at hh
         rw [decide_eq_true hh.2.1, decide_eq_true hh.2.2.1] at this; cases this), HB.out⟩
   go_wp2_with fail
   refine (K2.out _).mono ?_
   rintro e w1 ⟨rfl, rfl⟩
   rcases q2 with _ | _
   · go_wp2_with fail
     go_ret
     exact ⟨ret_q (by
       rw [HRR.out]; unfold right
       have := HQ2.out
       rw [decide_eq_false]
       · rfl
       · intro hh
         simp only at hh
         rw [decide_eq_true hh.2.2.2.1, decide_eq_true hh.2.2.2.2] at this; cases this), HB.out⟩
   have HRF : Hid (rr = fitsAll next [] (l.map Vf.fi)) := hid (by
     rw [HRR.out]; unfold right
     have e1 := HQ1.out
     have e2 := HQ2.out
     simp only [Bool.and_eq_true, decide_eq_true_eq] at e1 e2
     rw [decide_eq_true]
     · rfl
     · simp only [List.length_map]; exact ⟨h50, e1.1, e1.2, e2.1, e2.2⟩)
   have hnx : 1 ≤ next ∧ next ≤ 999999 := by
     have e1 := HQ1.out
     simpa only [Bool.and_eq_true, decide_eq_true_eq] using e1
   clear HRR HQ1 HQ2 K1 K2
   go_wp2_with fail
   go_loopw [27] (fun i wr => ∃ k : Nat, k ≤ l.length ∧ i = .int .i64 (k : Int) ∧ Hid (RtI w O (l.map Vf.fi) next k wr)) (fun i _ => l.length - (intOf i).toNat)
   case atStart =>
     refine ⟨0, by omega, rfl, hid ?_⟩
     rw [HO.out]
     have z1 : (w.alloc O).heap.size = w.heap.size + 1 := by simp
     refine ⟨((Below.refl _ _).alloc (Nat.le_refl _) O).alloc (by simp) _, ?_, ?_, fun _ h => by simp at h, by rw [List.take_zero, List.drop_zero]⟩
     · rw [Below.heap_alloc _ _ _ (by simp)]; exact heap_alloc_new w O
     · have : ((w.alloc O).alloc (.map #[] 0)).ownsMap Tryz.prog 3 boolR (w.alloc O).heap.size 0 (seenD []) := World.ownsMap_made _ _ _ _
       rwa [z1] at this
   case round =>
     obtain ⟨k, hk, rfl, HI⟩ := hrel
     have hzz := HI.out.lt
     have b0 : wr.cell? ⟨w.heap.size, 0, none⟩ = some (.slice A l.length c) := by rw [cell_of_row wr _ 0 _ _ (0, 0) (HI.out.box.trans (by rw [← HO.out]))]; rfl
     have b2 : wr.cell? ⟨w.heap.size, 2, none⟩ = some (.int .i64 next) := by rw [cell_of_row wr _ 2 _ _ (0, 0) (HI.out.box.trans (by rw [← HO.out]))]; rfl
     by_cases hlt : k < l.length
     · have hlt' : (k : Int) < (l.length : Int) := by omega
       have hk0 : (0 : Int) ≤ (k : Int) := by omega
       obtain ⟨b, off, hA, hbb, hc, hok⟩ := (H.out.keep (HI.out.bel)).cell hlt
       have HFK : Hid (∃ h : k < (l.map Vf.fi).length, (l.map Vf.fi)[k] = (l[k]).fi) := hid ⟨by rw [List.length_map]; exact hlt, List.getElem_map ..⟩
       have HLJ : Hid (∀ j (e : k = j + 1), ∃ b off, A = some ⟨b, off, none⟩ ∧ b < w.heap.size ∧ (∀ i u, (Vf.cells (l[j]'(by omega)))[i]? = some u → w.cell? ⟨b, off + j * 6 + i, none⟩ = some u) ∧ VfOk w w.heap.size (l[j]'(by omega))) := hid (fun j e => H.out.cell (by omega))
       have HPJ : Hid (∀ j (e : k = j + 1), (match ((l.map Vf.fi).take k).getLast? with | none => true | some p => ahead p (l[k]).fi) = ahead (l[j]'(by omega)).fi (l[k]).fi ∧ okF (l[j]'(by omega)).fi = true) := hid (fun j e => by
         have hj : j < (l.map Vf.fi).length := by rw [List.length_map]; omega
         subst e
         rw [List.take_succ_eq_append_getElem hj, List.getLast?_append]
         simp only [List.getLast?_singleton, Option.some_or, List.getElem_map]
         refine ⟨trivial, HI.out.ok _ ?_⟩
         rw [List.take_succ_eq_append_getElem hj, List.getElem_map]; simp)
       have HNO : Hid (fits next ((l.map Vf.fi).take k) (l[k]).fi = false → rr = false) := hid (fun hf => by
         obtain ⟨h1, h2⟩ := HFK.out
         rw [HRF.out, HI.out.fit, fitsAll_at next _ h1, h2, hf]; rfl)
       have HYES : Hid (fits next ((l.map Vf.fi).take k) (l[k]).fi = true → ∀ wz, Below w.heap.size w wz → wz.heap[w.heap.size]? = some O → Seen wz (w.heap.size + 1) ((l[k]).number :: met (l.map Vf.fi) k) → RtI w O (l.map Vf.fi) next (k + 1) wz) := hid (fun hf wz z1 z2 z3 => by
         obtain ⟨h1, h2⟩ := HFK.out
         refine ⟨z1, z2, ?_, fun g hg => ?_, ?_⟩
         · rw [met_succ _ h1, h2]; exact z3
         · rw [List.take_succ_eq_append_getElem h1, h2] at hg
           rcases List.mem_append.1 hg with hg | hg
           · exact HI.out.ok g hg
           · rw [List.mem_singleton] at hg
             rw [hg]
             unfold fits at hf
             simp only [Bool.and_eq_true] at hf
             exact hf.1.1.1
         · rw [HI.out.fit, fitsAll_at next _ h1, h2, hf]; rfl)
       have HFT : Hid (fits next ((l.map Vf.fi).take k) (l[k]).fi = (okF (l[k]).fi && decide ((l[k]).number < next) && (match ((l.map Vf.fi).take k).getLast? with | none => true | some p => ahead p (l[k]).fi) && !((met (l.map Vf.fi) k).contains (l[k]).number))) := hid (by unfold fits; rw [met_all]; rfl)
       obtain ⟨v, hv⟩ : ∃ v, v = l[k] := ⟨_, rfl⟩
       rw [← hv] at hc hok HPJ HNO HYES HFT
       have HOK := hid hok
       have r0 := hc 0 _ rfl
       have r1 := hc 1 _ rfl
       have r2 := hc 2 _ rfl
       have r3 := hc 3 _ rfl
       have r4 := hc 4 _ rfl
       have r5 := hc 5 _ rfl
       rw [Nat.add_zero] at r0
       have HVF : Hid (v.number = v.fi.number ∧ v.level = v.fi.level ∧ v.first = v.fi.first) := hid ⟨rfl, rfl, rfl⟩
       have KR : Hid (∀ W, Below wr.heap.size wr W → Calls Tryz.prog 48 #[v.val] W fun e w' => e = .returned (.bool (okF v.fi)) ∧ Below W.heap.size W w') := hid (fun W hW => rightFile_any v W ((hok.below hW (Nat.le_refl _)).more hW.size))
       have hv0 := H.out.ok _ (List.getElem_mem hlt)
       rw [← hv] at hv0
       have KP : Hid (∀ u W, Below w.heap.size w W → VfOk w w.heap.size u → Calls Tryz.prog 43 #[u.val, v.val] W fun e w' => e = .returned (.int .i64 (place u.fi v.fi)) ∧ Below W.heap.size W w') := hid (fun u W hW hu => place_any u v W ((hu.below hW (Nat.le_refl _)).more hW.size) ((hv0.below hW (Nat.le_refl _)).more hW.size))
       have HVV : Hid (RdB w w.heap.size v.FA v.first) := hid hv0.f
       obtain ⟨vf, hvf⟩ : ∃ vf, vf = v.fi := ⟨_, rfl⟩
       rw [← hvf] at HPJ HNO HYES HFT HVF KR KP
       obtain ⟨n, lv, FA, fc, f, LA, lc, t, lo, hi⟩ := v
       unfold Vf.val at KR KP
       simp only at KR KP HVF HVV HYES HFT r0 r1 r2 r3 r4 r5
       obtain ⟨q1, hq1⟩ : ∃ q, q = okF vf := ⟨_, rfl⟩
       rw [← hq1] at KR HFT
       have HQ1 := hid hq1
       obtain ⟨q3, hq3⟩ : ∃ q, q = (met (l.map Vf.fi) k).contains n := ⟨_, rfl⟩
       rw [← hq3] at HFT
       have HQ3 := hid hq3
       obtain ⟨F, hF⟩ : ∃ F : Obj, Obj.cells #[.int .i64 n, .int .i64 lv, .slice FA f.length fc, .slice LA t.length lc, .int .i64 lo, .int .i64 hi] 43 = F := ⟨_, rfl⟩
       have hbF : Below wr.heap.size wr (wr.alloc F) := (Below.refl _ _).alloc (Nat.le_refl _) F
       have HBF := hid hbF
       have KR1 := hid (KR.out (wr.alloc F) hbF)
       have HFC : Hid (∀ W, Below (wr.alloc F).heap.size (wr.alloc F) W → W.heap[wr.heap.size]? = some F) := hid (fun W hW => (hW.block _ (by simp)).trans (heap_alloc_new wr F))
       have HFQ := hid hF
       rw [← hF] at KR1
       subst hA
       clear hv hok hv0 hc hvf hq1 hq3 hF hbF KR
       go_wp2_with fail
       refine KR1.out.mono ?_
       rintro e w3 ⟨rfl, hb3⟩
       rw [HFQ.out] at hb3
       have HB3 := hid hb3
       have HBR3 := hid (HBF.out.trans (hb3.mono (by simp)))
       have HBW3 := hid (HI.out.bel.trans (HBR3.out.mono HI.out.bel.size))
       rcases q1 with _ | _
       · have HE : Hid (rr = false) := hid (HNO.out (by rw [HFT.out]; rfl))
         clear hb3
         go_wp2_with fail
         go_ret
         exact ⟨ret_q HE.out.symm, HBW3.out⟩
       have f0 := HFC.out w3 hb3
       have c0 : w3.cell? ⟨wr.heap.size, 0, none⟩ = some (.int .i64 n) := by rw [cell_of_row w3 _ 0 _ _ (0, 0) (f0.trans (by rw [← HFQ.out]))]; rfl
       have hO3 : w3.heap[w.heap.size]? = some O := (HBR3.out.block _ (by omega)).trans HI.out.box
       have d2 : w3.cell? ⟨w.heap.size, 2, none⟩ = some (.int .i64 next) := by rw [cell_of_row w3 _ 2 _ _ (0, 0) (hO3.trans (by rw [← HO.out]))]; rfl
       have d0 : w3.cell? ⟨w.heap.size, 0, none⟩ = some (.slice (some ⟨b, off, none⟩) l.length c) := by rw [cell_of_row w3 _ 0 _ _ (0, 0) (hO3.trans (by rw [← HO.out]))]; rfl
       have hn1 : 1 ≤ n ∧ n ≤ 999999 := by
         have := okF_bd HQ1.out.symm
         have h2 := HVF.out
         omega
       by_cases hnn : next ≤ n
       · have HE : Hid (rr = false) := hid (HNO.out (by rw [HFT.out, decide_eq_false (show ¬ n < next by omega)]; rfl))
         clear hb3
         go_wp2_with fail
         go_ret
         exact ⟨ret_q HE.out.symm, HBW3.out⟩
       have hsn : Seen w3 (w.heap.size + 1) (met (l.map Vf.fi) k) := ownsMap_keepS HI.out.seen (HBR3.out.block _ (by omega))
       have HSN := hid hsn
       have hrun := seen_look hsn n hn1
       rw [← HQ3.out] at hrun
       have HKY := hid (ikey n (by omega) (by omega))
       have HML : Hid ((met (l.map Vf.fi) k).length < maxLen) := hid (by unfold met maxLen; simp; omega)
       have HNN : Hid (decide (n < next) = true) := hid (decide_eq_true (by omega))
       clear hb3 hsn
       rcases q3 with _ | _
       · have hsz3 : wr.heap.size + 1 ≤ w3.heap.size := by have := HB3.out.size; simp at this; omega
         have HZ3 := hid hsz3
         have HG : Hid (∀ w4, w3.grownBy w4 (some (w.heap.size + 1)) → Below w.heap.size w w4 ∧ w4.heap[w.heap.size]? = some O ∧ w4.heap[wr.heap.size]? = some F ∧ w3.heap.size ≤ w4.heap.size ∧ (∀ b, b < w.heap.size → w4.heap[b]? = w.heap[b]?)) := hid (fun w4 hg => by
           have hb4 : Below w.heap.size w w4 := HBW3.out.grown hg (by have := HZ3.out; omega) (fun x e => by injection e with e; omega)
           refine ⟨hb4, (hg.block _ (by have := HZ3.out; omega) (fun e => by injection e with e; omega)).trans hO3, (hg.block _ (by have := HZ3.out; omega) (fun e => by injection e with e; omega)).trans f0, hg.size, fun x hx => hb4.block x hx⟩)
         by_cases hk1 : k = 0
         · have hz : ((k : Int) == 0) = true := by rw [hk1]; rfl
           have HFI : Hid (fits next ((l.map Vf.fi).take k) vf = true) := hid (by rw [HFT.out, HNN.out, hk1]; rfl)
           clear hk1
           go_wp2_with (at_mapUpdate; refine wpList_mapUpdate_own _ rfl (.tmp 48) (.tmp 50) (.const (.bool true)) 85 rfl 3 4 ilaw Tryz.underlying85 boolR (w.heap.size + 1) _ _ rfl HSN.out HML.out _ _ (.int .i64 n) rfl rfl HKY.out (.lit (.bool true)) [] rfl ?_; intro w4 hown4 hg4; have HS4 := hid hown4; have HG4 := hid hg4;  clear hown4 hg4)
           obtain ⟨g1, g2, _⟩ := HG.out w4 HG4.out
           exact ⟨⟨k + 1, hlt, by simp, hid (HYES.out HFI.out w4 g1 g2 HS4.out)⟩, by simp only [intOf]; omega⟩
         · obtain ⟨j, hj⟩ : ∃ j, k = j + 1 := ⟨k - 1, by omega⟩
           have hz : ((k : Int) == 0) = false := by simp; omega
           obtain ⟨b2, off2, hA2, hbb2, hc2, hok2⟩ := HLJ.out j hj
           injection hA2 with hA2
           injection hA2 with e1 e2
           subst e1 e2
           obtain ⟨hla, hlo⟩ := HPJ.out j hj
           obtain ⟨u, hu⟩ : ∃ u, u = l[j]'(by omega) := ⟨_, rfl⟩
           rw [← hu] at hc2 hok2 hla hlo
           have kj1 : IntKind.i64.wrap ((k : Int) - 1) = (k : Int) - 1 := by rw [IntKind.wrap_i64]; omega
           have kj2 : ((k : Int) - 1).toNat = j := by omega
           have kj3 : (0 : Int) ≤ (k : Int) - 1 := by omega
           have kj4 : (k : Int) - 1 < (l.length : Int) := by omega
           have HU2 : Hid (VfOk w w.heap.size u) := hid hok2
           have HUC : Hid (∀ w4 : World, (∀ b, b < w.heap.size → w4.heap[b]? = w.heap[b]?) → ∀ i x, (Vf.cells u)[i]? = some x → w4.cell? ⟨b, off + j * 6 + i, none⟩ = some x) := hid (fun w4 hw i x hx => (World.cell?_of_block (a := ⟨b, off + j * 6 + i, none⟩) (hw b hbb2)).trans (hc2 i x hx))
           obtain ⟨x, hx⟩ : ∃ x, x = place u.fi vf := ⟨_, rfl⟩
           have KPU : Hid (∀ W, Below w.heap.size w W → Calls Tryz.prog 43 #[u.val, .agg #[.int .i64 n, .int .i64 lv, .slice FA f.length fc, .slice LA t.length lc, .int .i64 lo, .int .i64 hi]] W fun e w' => e = .returned (.int .i64 x) ∧ Below W.heap.size W w') := hid (fun W hW => by rw [hx]; exact KP.out u W hW hok2)
           have HAE : Hid (fits next ((l.map Vf.fi).take k) vf = (decide (x < 0) && !(decide (0 < lv) && (decide (u.level = lv) && decide (0 ≤ Lib.compareBytes u.last f))))) := hid (by
             rw [HFT.out, HNN.out, hla, ahead_eq hlo HQ1.out.symm, ← hx, HVF.out.2.1, HVF.out.2.2]
             simp only [Bool.true_and, Bool.not_false, Bool.and_true]
             rfl)
           have KCM : Hid (∀ W, Below w.heap.size w W → Calls Tryz.prog 49 #[.slice u.LA u.last.length u.lc, .slice FA f.length fc] W fun e w' => e = .returned (.int .i64 (Lib.compareBytes u.last f)) ∧ W = w') := hid (fun W hW => bcmp_any W.heap.size u.LA u.lc u.last W.heap.size FA fc f W ((hok2.l.below hW (Nat.le_refl _)).more hW.size) ((HVV.out.below hW (Nat.le_refl _)).more hW.size))
           obtain ⟨un, ul, uFA, ufc, uf, uLA, ulc, ut, ulo, uhi⟩ := u
           unfold Vf.val at KPU
           simp only at KPU HAE KCM
           obtain ⟨cm, hcm⟩ : ∃ cm, cm = Lib.compareBytes ut f := ⟨_, rfl⟩
           rw [← hcm] at HAE KCM
           have HCELL : Hid (∀ w4, w3.grownBy w4 (some (w.heap.size + 1)) → (w4.cell? ⟨w.heap.size, 0, none⟩ = some (.slice (some ⟨b, off, none⟩) l.length c)) ∧
               (w4.cell? ⟨b, off + j * 6, none⟩ = some (.int .i64 un) ∧ w4.cell? ⟨b, off + j * 6 + 1, none⟩ = some (.int .i64 ul) ∧ w4.cell? ⟨b, off + j * 6 + 2, none⟩ = some (.slice uFA uf.length ufc) ∧ w4.cell? ⟨b, off + j * 6 + 3, none⟩ = some (.slice uLA ut.length ulc) ∧ w4.cell? ⟨b, off + j * 6 + 4, none⟩ = some (.int .i64 ulo) ∧ w4.cell? ⟨b, off + j * 6 + 5, none⟩ = some (.int .i64 uhi)) ∧
               (w4.cell? ⟨wr.heap.size, 0, none⟩ = some (.int .i64 n) ∧ w4.cell? ⟨wr.heap.size, 1, none⟩ = some (.int .i64 lv) ∧ w4.cell? ⟨wr.heap.size, 2, none⟩ = some (.slice FA f.length fc) ∧ w4.cell? ⟨wr.heap.size, 3, none⟩ = some (.slice LA t.length lc) ∧ w4.cell? ⟨wr.heap.size, 4, none⟩ = some (.int .i64 lo) ∧ w4.cell? ⟨wr.heap.size, 5, none⟩ = some (.int .i64 hi)) ∧ b < w4.heap.size ∧ wr.heap.size < w4.heap.size) := hid (fun w4 hg => by
             obtain ⟨g1, g2, g3, g4, g5⟩ := HG.out w4 hg
             have hzw := g1.size
             have hcc := HUC.out w4 g5
             refine ⟨?_, ⟨hcc 0 _ rfl, hcc 1 _ rfl, hcc 2 _ rfl, hcc 3 _ rfl, hcc 4 _ rfl, hcc 5 _ rfl⟩, ⟨?_, ?_, ?_, ?_, ?_, ?_⟩, by omega, by have := HZ3.out; omega⟩
             · rw [cell_of_row w4 _ 0 _ _ (0, 0) (g2.trans (by rw [← HO.out]))]; rfl
             all_goals (rw [cell_of_row w4 _ _ _ _ (0, 0) (g3.trans (by rw [← HFQ.out]))]; rfl))
           have HPW : Hid (∀ w4 w6 P, w3.grownBy w4 (some (w.heap.size + 1)) → Below (w4.alloc P).heap.size (w4.alloc P) w6 → Below w.heap.size w w6 ∧ w6.heap[w.heap.size]? = some O ∧ w6.heap[wr.heap.size]? = some F ∧ w6.heap[w4.heap.size]? = some P ∧ w6.heap[w.heap.size + 1]? = w4.heap[w.heap.size + 1]?) := hid (fun w4 w6 P hg hb6 => by
             obtain ⟨g1, g2, g3, g4, g5⟩ := HG.out w4 hg
             have hba : Below w4.heap.size w4 (w4.alloc P) := (Below.refl _ _).alloc (Nat.le_refl _) P
             have hb46 : Below w4.heap.size w4 w6 := hba.trans (hb6.mono (by simp))
             have hz4 := HZ3.out
             exact ⟨g1.trans (hb46.mono g1.size), (hb46.block _ (by omega)).trans g2, (hb46.block _ (by omega)).trans g3, (hb6.block _ (by simp)).trans (heap_alloc_new w4 P), hb46.block _ (by omega)⟩)
           have HKJ : Hid (k = j + 1) := hid hj
           clear hx hcm hla hlo hu hc2 hok2 hj hk1
           go_wp2_with (at_mapUpdate; refine wpList_mapUpdate_own _ rfl (.tmp 48) (.tmp 50) (.const (.bool true)) 85 rfl 3 4 ilaw Tryz.underlying85 boolR (w.heap.size + 1) _ _ rfl HSN.out HML.out _ _ (.int .i64 n) rfl rfl HKY.out (.lit (.bool true)) [] rfl ?_; intro w4 hown4 hg4; have HS4 := hid hown4; have HG4 := hid hg4; obtain ⟨z1, ⟨u0, u1, u2_, u3, u4, u5⟩, ⟨p0, p1, p2, p3, p4, p5⟩, zb, zw⟩ := HCELL.out w4 hg4; clear hown4 hg4)
           refine (KPU.out _ ((HG.out w4 HG4.out).1.trans (((Below.refl w4.heap.size w4).alloc (Nat.le_refl _) _).mono (HG.out w4 HG4.out).1.size))).mono ?_
           rintro e w6 ⟨rfl, hb6⟩
           obtain ⟨k1, k2, k3, k4, k5⟩ := HPW.out w4 w6 _ HG4.out hb6
           have HK1 := hid k1
           have HK2 := hid k2
           have HS6 : Hid (Seen w6 (w.heap.size + 1) (n :: met (l.map Vf.fi) k)) := hid (ownsMap_keepS HS4.out k5)
           have s1 : w6.cell? ⟨wr.heap.size, 1, none⟩ = some (.int .i64 lv) := by rw [cell_of_row w6 _ 1 _ _ (0, 0) (k3.trans (by rw [← HFQ.out]))]; rfl
           have s2 : w6.cell? ⟨wr.heap.size, 2, none⟩ = some (.slice FA f.length fc) := by rw [cell_of_row w6 _ 2 _ _ (0, 0) (k3.trans (by rw [← HFQ.out]))]; rfl
           have t1 : w6.cell? ⟨w4.heap.size, 1, none⟩ = some (.int .i64 ul) := by rw [cell_of_row w6 _ 1 _ _ (0, 0) k4]; rfl
           have t3 : w6.cell? ⟨w4.heap.size, 3, none⟩ = some (.slice uLA ut.length ulc) := by rw [cell_of_row w6 _ 3 _ _ (0, 0) k4]; rfl
           clear hb6 k1 k2 k3 k4 k5 u0 u1 u2_ u3 u4 u5 p0 p1 p2 p3 p4 p5 z1 zb zw
           by_cases hx0 : 0 ≤ x
           · have HE : Hid (rr = false) := hid (HNO.out (by rw [HAE.out, decide_eq_false (show ¬ x < 0 by omega)]; rfl))
             go_wp2_with fail
             go_ret
             exact ⟨ret_q HE.out.symm, HK1.out⟩
           have HX0 : Hid (decide (x < 0) = true) := hid (decide_eq_true (by omega))
           by_cases hlv : 0 < lv
           · by_cases hll : ul = lv
             · have e1 : (ul == lv) = true := by rw [hll]; simp
               have HLL := hid hll
               clear hll
               go_wp2_with fail
               refine (KCM.out w6 HK1.out).mono ?_
               rintro e w7 ⟨rfl, rfl⟩
               by_cases hcm0 : 0 ≤ cm
               · have HE : Hid (rr = false) := hid (HNO.out (by rw [HAE.out, decide_eq_true hlv, decide_eq_true HLL.out, decide_eq_true hcm0]; simp))
                 go_wp2_with fail
                 go_ret
                 exact ⟨ret_q HE.out.symm, HK1.out⟩
               · have HFI : Hid (fits next ((l.map Vf.fi).take k) vf = true) := hid (by rw [HAE.out, HX0.out, decide_eq_false hcm0]; simp)
                 go_wp2_with fail
                 exact ⟨⟨k + 1, hlt, by simp, hid (HYES.out HFI.out w6 HK1.out HK2.out HS6.out)⟩, by simp only [intOf]; omega⟩
             · have e1 : (ul == lv) = false := by simpa using hll
               have HFI : Hid (fits next ((l.map Vf.fi).take k) vf = true) := hid (by rw [HAE.out, HX0.out, decide_eq_false hll]; simp)
               clear hll
               go_wp2_with fail
               exact ⟨⟨k + 1, hlt, by simp, hid (HYES.out HFI.out w6 HK1.out HK2.out HS6.out)⟩, by simp only [intOf]; omega⟩
           · have HFI : Hid (fits next ((l.map Vf.fi).take k) vf = true) := hid (by rw [HAE.out, HX0.out, decide_eq_false hlv]; simp)
             go_wp2_with fail
             exact ⟨⟨k + 1, hlt, by simp, hid (HYES.out HFI.out w6 HK1.out HK2.out HS6.out)⟩, by simp only [intOf]; omega⟩
       · have HE : Hid (rr = false) := hid (HNO.out (by rw [HFT.out]; simp))
         go_wp2_with fail
         go_ret
         exact ⟨ret_q HE.out.symm, HBW3.out⟩
     · have hlt' : ¬ (k : Int) < (l.length : Int) := by omega
       have hke : k = l.length := by omega
       have HE : Hid (rr = true) := hid (by
         rw [HRF.out, HI.out.fit, hke, List.drop_of_length_le (by rw [HLM.out]; exact Nat.le_refl _)]; rfl)
       clear hke
       go_wp2_with fail
       go_ret
       exact ⟨ret_q HE.out.symm, HI.out.bel⟩
 · have h50' : (50 : Int) < (l.length : Int) := by omega
   go_wp2_with fail
   go_ret
   exact ⟨ret_q (by
     rw [HRR.out]; unfold right
     rw [decide_eq_false]
     · rfl
     · simp only [List.length_map]; intro hh; exact h50 hh.1), HB.out⟩
end Ver
namespace Ver
structure RrI (w : World) (O : Obj) (L : List Fi) (next : Int) (k : Nat) (wr : World) : Prop where
 bel : Below w.heap.size w wr
 box : wr.heap[w.heap.size]? = some O
 ok : ∀ f ∈ L.take k, okF f = true
 fit : fitsAll next [] L = fitsAll next (L.take k) (L.drop k)
theorem RrI.below {w wr wz : World} {O : Obj} {L : List Fi} {next : Int} {k : Nat} (h : RrI w O L next k wr) (hb : Below wr.heap.size wr wz) : RrI w O L next k wz :=
 ⟨h.bel.trans (hb.mono h.bel.size), (hb.block _ (Array.getElem?_eq_some_iff.1 h.box).1).trans h.box, h.ok, h.fit⟩
theorem all_from {L : List Fi} {k : Nat} {n : Int} (h : ∀ i (_hi : i < k) (hl : i < L.length), (L[i]).number ≠ n) : (L.take k).all (fun g => g.number != n) = true := by
 rw [List.all_eq_true]
 intro g hg
 obtain ⟨i, hi, e⟩ := List.getElem_of_mem hg
 rw [List.length_take] at hi
 rw [List.getElem_take] at e
 subst e
 simpa using h i (by omega) (by omega)
theorem all_not {L : List Fi} {k i : Nat} {n : Int} (_hi : i < k) (hl : i < L.length) (h : (L[i]).number = n) : (L.take k).all (fun g => g.number != n) = false := by
 rw [List.all_eq_false]
 refine ⟨L[i], List.mem_take_iff_getElem.2 ⟨i, by omega, rfl⟩, by simp [h]⟩
set_option maxHeartbeats 8000000 in
set_option maxRecDepth 100000 in
theorem rright_any (A : Option Addr) (c : Nat) (l : List Vf) (log next : Int) (w : World) (h : RdV w w.heap.size A l) (hl : l.length ≤ 1000000) :
   Calls Tryz.prog 15 #[.agg #[.slice A l.length c, .int .i64 log, .int .i64 next]] w fun e w' => e = .returned (.bool (right ⟨l.map Vf.fi, log, next⟩)) ∧ Below w.heap.size w w' := by
 obtain ⟨rr, hrr⟩ : ∃ rr, rr = right ⟨l.map Vf.fi, log, next⟩ := ⟨_, rfl⟩
 rw [← hrr]
 have HNO0 : Hid (¬ (l.length ≤ 50 ∧ 1 ≤ next ∧ next ≤ 999999 ∧ 0 ≤ log ∧ log ≤ 1099511627776) → rr = false) := hid (fun hn => by
   rw [hrr]; unfold right
   simp only [List.length_map]
   rw [decide_eq_false hn]; rfl)
 have HRF : Hid ((l.length ≤ 50 ∧ 1 ≤ next ∧ next ≤ 999999 ∧ 0 ≤ log ∧ log ≤ 1099511627776) → rr = fitsAll next [] (l.map Vf.fi)) := hid (fun hn => by
   rw [hrr]; unfold right
   simp only [List.length_map]
   rw [decide_eq_true hn]; rfl)
 have H := hid h
 have HLM : Hid ((l.map Vf.fi).length = l.length) := hid (List.length_map ..)
 obtain ⟨O, hO⟩ : ∃ O : Obj, Obj.cells #[.slice A l.length c, .int .i64 log, .int .i64 next] 24 = O := ⟨_, rfl⟩
 have hb : Below w.heap.size w (w.alloc O) := (Below.refl _ _).alloc (Nat.le_refl _) O
 have HO := hid hO
 have HB := hid hb
 have HI0 : Hid (RrI w O (l.map Vf.fi) next 0 (w.alloc O)) := hid ⟨hb, heap_alloc_new w O, fun _ h => by simp at h, by rw [List.take_zero, List.drop_zero]⟩
 rw [← hO] at HB
 clear h hrr hO hb
 go_enter Tryz.func15, Tryz.ntmps15
 by_cases h1 : l.length ≤ 50
 rotate_left
 · have g1 : (50 : Int) < (l.length : Int) := by omega
   have HE : Hid (rr = false) := hid (HNO0.out (by omega))
   go_wp2_with fail
   go_ret
   exact ⟨ret_q HE.out.symm, HB.out⟩
 have g1 : ¬ (50 : Int) < (l.length : Int) := by omega
 by_cases h2 : next < 1
 · have HE : Hid (rr = false) := hid (HNO0.out (by omega))
   go_wp2_with fail
   go_ret
   exact ⟨ret_q HE.out.symm, HB.out⟩
 by_cases h3 : 999999 < next
 · have HE : Hid (rr = false) := hid (HNO0.out (by omega))
   go_wp2_with fail
   go_ret
   exact ⟨ret_q HE.out.symm, HB.out⟩
 by_cases h4 : log < 0
 · have HE : Hid (rr = false) := hid (HNO0.out (by omega))
   go_wp2_with fail
   go_ret
   exact ⟨ret_q HE.out.symm, HB.out⟩
 by_cases h5 : 1099511627776 < log
 · have HE : Hid (rr = false) := hid (HNO0.out (by omega))
   go_wp2_with fail
   go_ret
   exact ⟨ret_q HE.out.symm, HB.out⟩
 have HRF := hid (HRF.out (by omega))
 clear HNO0
 go_wp2_with fail
 go_loopw [3] (fun i wr => ∃ k : Nat, k ≤ l.length ∧ i = .int .i64 (k : Int) ∧ Hid (RrI w O (l.map Vf.fi) next k wr)) (fun i _ => l.length - (intOf i).toNat)
 case atStart =>
   refine ⟨0, by omega, rfl, ?_⟩
   rw [HO.out]
   exact HI0
 case round =>
   clear HI0
   obtain ⟨k, hk, rfl, HI⟩ := hrel
   have hzz : w.heap.size < wr.heap.size := (Array.getElem?_eq_some_iff.1 HI.out.box).1
   have b0 : wr.cell? ⟨w.heap.size, 0, none⟩ = some (.slice A l.length c) := by rw [cell_of_row wr _ 0 _ _ (0, 0) (HI.out.box.trans (by rw [← HO.out]))]; rfl
   by_cases hlt : k < l.length
   · have hlt' : (k : Int) < (l.length : Int) := by omega
     have hk0 : (0 : Int) ≤ (k : Int) := by omega
     obtain ⟨b, off, hA, hbb, hc, hok⟩ := H.out.cell hlt
     have HFK : Hid (∃ h : k < (l.map Vf.fi).length, (l.map Vf.fi)[k] = (l[k]).fi) := hid ⟨by rw [List.length_map]; exact hlt, List.getElem_map ..⟩
     have HLJ : Hid (∀ j (e : j < l.length), ∃ b off, A = some ⟨b, off, none⟩ ∧ b < w.heap.size ∧ (∀ i u, (Vf.cells (l[j]))[i]? = some u → w.cell? ⟨b, off + j * 6 + i, none⟩ = some u) ∧ VfOk w w.heap.size (l[j])) := hid (fun j e => H.out.cell e)
     have HPJ : Hid (∀ j (e : k = j + 1), (match ((l.map Vf.fi).take k).getLast? with | none => true | some p => ahead p (l[k]).fi) = ahead (l[j]'(by omega)).fi (l[k]).fi) := hid (fun j e => by
       have hj : j < (l.map Vf.fi).length := by rw [List.length_map]; omega
       subst e
       rw [List.take_succ_eq_append_getElem hj, List.getLast?_append]
       simp only [List.getLast?_singleton, Option.some_or, List.getElem_map])
     have HNO : Hid (fits next ((l.map Vf.fi).take k) (l[k]).fi = false → rr = false) := hid (fun hf => by
       obtain ⟨h1, h2⟩ := HFK.out
       rw [HRF.out, HI.out.fit, fitsAll_at next _ h1, h2, hf]; rfl)
     have HYES : Hid (fits next ((l.map Vf.fi).take k) (l[k]).fi = true → ∀ wz, RrI w O (l.map Vf.fi) next k wz → RrI w O (l.map Vf.fi) next (k + 1) wz) := hid (fun hf wz hz => by
       obtain ⟨h1, h2⟩ := HFK.out
       refine ⟨hz.bel, hz.box, fun g hg => ?_, ?_⟩
       · rw [List.take_succ_eq_append_getElem h1, h2] at hg
         rcases List.mem_append.1 hg with hg | hg
         · exact HI.out.ok g hg
         · rw [List.mem_singleton] at hg
           rw [hg]
           unfold fits at hf
           simp only [Bool.and_eq_true] at hf
           exact hf.1.1.1
       · rw [HI.out.fit, fitsAll_at next _ h1, h2, hf]; rfl)
     have HFT : Hid (fits next ((l.map Vf.fi).take k) (l[k]).fi = (okF (l[k]).fi && decide ((l[k]).number < next) && (match ((l.map Vf.fi).take k).getLast? with | none => true | some p => ahead p (l[k]).fi) && ((l.map Vf.fi).take k).all (fun g => g.number != (l[k]).number))) := hid rfl
     obtain ⟨v, hv⟩ : ∃ v, v = l[k] := ⟨_, rfl⟩
     rw [← hv] at hc hok HPJ HNO HYES HFT
     have HC : Hid (∀ W, Below w.heap.size w W → ∀ i u, (Vf.cells v)[i]? = some u → W.cell? ⟨b, off + k * 6 + i, none⟩ = some u) := hid (fun W hW i u hu => (hW.cell (p := ⟨b, off + k * 6 + i, none⟩) hbb).trans (hc i u hu))
     have KR : Hid (∀ W, Below w.heap.size w W → Calls Tryz.prog 50 #[v.val] W fun e w' => e = .returned (.bool (okF v.fi)) ∧ Below W.heap.size W w') := hid (fun W hW => rrightFile_any v W ((hok.below hW (Nat.le_refl _)).more hW.size))
     have KP : Hid (∀ u W, Below w.heap.size w W → VfOk w w.heap.size u → Calls Tryz.prog 51 #[u.val, v.val] W fun e w' => e = .returned (.bool (ahead u.fi v.fi)) ∧ Below W.heap.size W w') := hid (fun u W hW hu => rahead_any u v W ((hu.below hW (Nat.le_refl _)).more hW.size) ((hok.below hW (Nat.le_refl _)).more hW.size))
     obtain ⟨vf, hvf⟩ : ∃ vf, vf = v.fi := ⟨_, rfl⟩
     rw [← hvf] at HPJ HNO HYES HFT KR KP
     have hcc := HC.out wr HI.out.bel
     obtain ⟨n, lv, FA, fc, f, LA, lc, t, lo, hi⟩ := v
     unfold Vf.val at KR KP
     simp only at KR KP HFT
     have r0 := hcc 0 _ rfl
     have r1 := hcc 1 _ rfl
     have r2 := hcc 2 _ rfl
     have r3 := hcc 3 _ rfl
     have r4 := hcc 4 _ rfl
     have r5 := hcc 5 _ rfl
     rw [Nat.add_zero] at r0
     obtain ⟨q1, hq1⟩ : ∃ q, q = okF vf := ⟨_, rfl⟩
     rw [← hq1] at KR HFT
     have KR1 := hid (KR.out wr HI.out.bel)
     have hbw := HI.out.bel.size
     subst hA
     clear hv hok hc hvf hq1 KR hcc
     go_wp2_with fail
     refine KR1.out.mono ?_
     rintro e w3 ⟨rfl, hb3⟩
     have HI3 := hid (HI.out.below hb3)
     clear hb3
     have HBX := HI3.out.box
     have d0 : w3.cell? ⟨w.heap.size, 0, none⟩ = some (.slice (some ⟨b, off, none⟩) l.length c) := by rw [cell_of_row w3 _ 0 _ _ (0, 0) (HBX.trans (by rw [← HO.out]))]; rfl
     have d2 : w3.cell? ⟨w.heap.size, 2, none⟩ = some (.int .i64 next) := by rw [cell_of_row w3 _ 2 _ _ (0, 0) (HBX.trans (by rw [← HO.out]))]; rfl
     have hc3 := HC.out w3 HI3.out.bel
     have s0 := hc3 0 _ rfl
     have s1 := hc3 1 _ rfl
     have s2 := hc3 2 _ rfl
     have s3 := hc3 3 _ rfl
     have s4 := hc3 4 _ rfl
     have s5 := hc3 5 _ rfl
     rw [Nat.add_zero] at s0
     clear hc3 HBX r0 r1 r2 r3 r4 r5 b0
     rcases q1 with _ | _
     · have HE : Hid (rr = false) := hid (HNO.out (by rw [HFT.out]; rfl))
       go_wp2_with fail
       go_quiet (fail)
       refine Sto.drewN_of (fun V hbV hVh => ?_)
       have HB9 := hid ((HI3.out.below hbV).bel)
       clear hbV hVh
       go_wp2_with fail
       go_ret
       exact ⟨ret_q HE.out.symm, HB9.out⟩
     by_cases hnn : next ≤ n
     · have en : decide (next ≤ n) = true := decide_eq_true hnn
       have HE : Hid (rr = false) := hid (HNO.out (by rw [HFT.out]; show (true && decide (n < next) && _ && _) = false; rw [decide_eq_false (show ¬ n < next by omega)]; rfl))
       go_wp2_with fail
       go_quiet (fail)
       refine Sto.drewN_of (fun V hbV hVh => ?_)
       have HB9 := hid ((HI3.out.below hbV).bel)
       clear hbV hVh
       go_wp2_with fail
       go_ret
       exact ⟨ret_q HE.out.symm, HB9.out⟩
     have en : decide (next ≤ n) = false := decide_eq_false hnn
     have HNN : Hid (decide (n < next) = true) := hid (decide_eq_true (by omega))
     by_cases hk1 : k = 0
     · have ek : decide (0 < k) = false := decide_eq_false (by omega)
       have ek2 : ¬ 0 < k := by omega
       have HFI : Hid (fits next ((l.map Vf.fi).take k) vf = true) := hid (by rw [HFT.out, hk1]; show (true && decide (n < next) && _ && _) = true; rw [HNN.out]; rfl)
       have hk2 : ¬ (0 : Int) < (k : Int) := by omega
       have HK0 := hid hk1
       clear hk1
       go_wp2_with fail
       go_quiet (fail)
       refine Sto.drewN_of (fun V hbV hVh => ?_)
       have HI9 := hid (HI3.out.below hbV)
       clear hbV hVh
       go_wp2_with fail
       go_loopw [5] (fun i wq => i = .int .i64 0 ∧ Hid (RrI w O (l.map Vf.fi) next k wq)) (fun _ _ => 0)
       case atStart => exact ⟨rfl, HI9⟩
       case round =>
         obtain ⟨rfl, HIQ⟩ := hrel
         have HFIN := hid (HYES.out HFI.out _ HIQ.out)
         go_wp2_with fail
         exact ⟨⟨k + 1, hlt, by simp, HFIN⟩, by simp only [intOf]; omega⟩
     · obtain ⟨j, hj⟩ : ∃ j, k = j + 1 := ⟨k - 1, by omega⟩
       have ek : decide (0 < k) = true := decide_eq_true (by omega)
       have ek2 : 0 < k := by omega
       obtain ⟨b2, off2, hA2, hbb2, hc2, hok2⟩ := HLJ.out j (by omega)
       injection hA2 with hA2
       injection hA2 with e1 e2
       subst e1 e2
       have hla := HPJ.out j hj
       obtain ⟨u, hu⟩ : ∃ u, u = l[j]'(by omega) := ⟨_, rfl⟩
       rw [← hu] at hc2 hok2 hla
       have kj1 : IntKind.i64.wrap ((k : Int) - 1) = (k : Int) - 1 := by rw [IntKind.wrap_i64]; omega
       have kj2 : ((k : Int) - 1).toNat = j := by omega
       have kj3 : (0 : Int) ≤ (k : Int) - 1 := by omega
       have kj4 : (k : Int) - 1 < (l.length : Int) := by omega
       have kj5 : (1 : Int) ≤ (k : Int) := by omega
       obtain ⟨q5, hq5⟩ : ∃ q, q = ahead u.fi vf := ⟨_, rfl⟩
       rw [← hq5] at hla
       have KPU : Hid (∀ W, Below w.heap.size w W → Calls Tryz.prog 51 #[u.val, .agg #[.int .i64 n, .int .i64 lv, .slice FA f.length fc, .slice LA t.length lc, .int .i64 lo, .int .i64 hi]] W fun e w' => e = .returned (.bool q5) ∧ Below W.heap.size W w') := hid (fun W hW => by rw [hq5]; exact KP.out u W hW hok2)
       have HF5 : Hid (fits next ((l.map Vf.fi).take k) vf = (q5 && ((l.map Vf.fi).take k).all (fun g => g.number != n))) := hid (by rw [HFT.out, hla]; show (true && decide (n < next) && q5 && _) = _; rw [HNN.out]; rfl)
       have HUC : Hid (∀ W, Below w.heap.size w W → ∀ i x, (Vf.cells u)[i]? = some x → W.cell? ⟨b, off + j * 6 + i, none⟩ = some x) := hid (fun W hW i x hx => (hW.cell (p := ⟨b, off + j * 6 + i, none⟩) hbb2).trans (hc2 i x hx))
       obtain ⟨un, ul, uFA, ufc, uf, uLA, ulc, ut, ulo, uhi⟩ := u
       unfold Vf.val at KPU
       simp only at KPU
       clear hla hu hc2 hok2 hj hk1 hq5
       go_wp2_with fail
       obtain ⟨V, hV⟩ : ∃ V, w3.drew = V := ⟨_, rfl⟩
       have hbV : Below w3.heap.size w3 V := by rw [← hV]; exact (Below.refl _ _).drew
       have HIV := hid (HI3.out.below hbV)
       have HBX := HIV.out.box
       have v0 : V.cell? ⟨w.heap.size, 0, none⟩ = some (.slice (some ⟨b, off, none⟩) l.length c) := by rw [cell_of_row V _ 0 _ _ (0, 0) (HBX.trans (by rw [← HO.out]))]; rfl
       have v2 : V.cell? ⟨w.heap.size, 2, none⟩ = some (.int .i64 next) := by rw [cell_of_row V _ 2 _ _ (0, 0) (HBX.trans (by rw [← HO.out]))]; rfl
       have hc3 := HC.out V HIV.out.bel
       have m0 := hc3 0 _ rfl
       have m1 := hc3 1 _ rfl
       have m2 := hc3 2 _ rfl
       have m3 := hc3 3 _ rfl
       have m4 := hc3 4 _ rfl
       have m5 := hc3 5 _ rfl
       rw [Nat.add_zero] at m0
       have hc4 := HUC.out V HIV.out.bel
       have p0 := hc4 0 _ rfl
       have p1 := hc4 1 _ rfl
       have p2 := hc4 2 _ rfl
       have p3 := hc4 3 _ rfl
       have p4 := hc4 4 _ rfl
       have p5 := hc4 5 _ rfl
       rw [Nat.add_zero] at p0
       clear hbV HBX hc3 hc4 d0 d2 s0 s1 s2 s3 s4 s5
       refine region_still_tail (V := V) 28 (by kernel_rfl) (by kernel_rfl) hV ?_
       simp only [List.take_succ_cons, List.take_zero, List.drop_succ_cons, List.drop_zero]
       clear hV
       repeat still_step
       refine wpStill_nil ?_
       go_wp2_with fail
       refine (KPU.out V HIV.out.bel).mono ?_
       rintro e w6 ⟨rfl, hb6⟩
       have HI9 := hid (HIV.out.below hb6)
       clear hb6 v0 v2 m0 m1 m2 m3 m4 m5 p0 p1 p2 p3 p4 p5
       rcases q5 with _ | _
       · have HE : Hid (rr = false) := hid (HNO.out (by rw [HF5.out]; rfl))
         have HB9 := hid HI9.out.bel
         go_wp2_with fail
         go_ret
         exact ⟨ret_q HE.out.symm, HB9.out⟩
       have HKP : Hid (∀ (X : World) (i : Nat), RrI w O (l.map Vf.fi) next k X → (hi : i < l.length) → X.cell? ⟨w.heap.size, 0, none⟩ = some (.slice (some ⟨b, off, none⟩) l.length c) ∧ X.cell? ⟨b, off + k * 6, none⟩ = some (.int .i64 n) ∧ X.cell? ⟨b, off + i * 6, none⟩ = some (.int .i64 (l[i]).number)) := hid (fun X i hX hi => by
         have hx := HC.out X hX.bel 0 _ rfl
         rw [Nat.add_zero] at hx
         refine ⟨?_, hx, ?_⟩
         · rw [cell_of_row X _ 0 _ _ (0, 0) (hX.box.trans (by rw [← HO.out]))]; rfl
         · obtain ⟨b3, off3, hA3, hbb3, hc3, _⟩ := HLJ.out i hi
           injection hA3 with hA3
           injection hA3 with e1 e2
           subst e1 e2
           have h9 := hc3 0 _ rfl
           rw [Nat.add_zero] at h9
           exact (hX.bel.cell (p := ⟨b, off + i * 6, none⟩) hbb).trans h9)
       go_wp2_with fail
       go_loopw [5] (fun i wq => ∃ j : Nat, j ≤ k ∧ i = .int .i64 (j : Int) ∧ Hid (RrI w O (l.map Vf.fi) next k wq) ∧ Hid (∀ i (hi : i < j) (hl : i < l.length), (l[i]).number ≠ n)) (fun i _ => k - (intOf i).toNat)
       case atStart => exact ⟨0, by omega, rfl, HI9, hid (fun i hi => absurd hi (by omega))⟩
       case round =>
         obtain ⟨i, hik, rfl, HIQ, HN⟩ := hrel
         by_cases hik2 : i < k
         · have hi1 : (i : Int) < (k : Int) := by omega
           have hi2 : (i : Int) < (l.length : Int) := by omega
           have hi3 : (0 : Int) ≤ (i : Int) := by omega
           obtain ⟨z0, z1, z2⟩ := HKP.out _ i HIQ.out (by omega)
           obtain ⟨y, hy⟩ : ∃ y, y = (l[i]'(by omega)).number := ⟨_, rfl⟩
           rw [← hy] at z2
           have HYN := hid hy
           clear hy
           by_cases hyn : y = n
           · have e1 : (y == n) = true := by rw [hyn]; simp
             have HE : Hid (rr = false) := hid (HNO.out (by
               rw [HF5.out]
               rw [all_not hik2 (by rw [HLM.out]; omega) (by rw [List.getElem_map]; exact HYN.out.symm.trans hyn)]; simp))
             clear hyn
             go_wp2_with fail
             go_quiet (fail)
             refine Sto.drewN_of (fun V hbV hVh => ?_)
             have HB9 := hid ((HIQ.out.below hbV).bel)
             clear hbV hVh
             go_wp2_with fail
             go_ret
             exact ⟨ret_q HE.out.symm, HB9.out⟩
           · have e1 : (y == n) = false := by simpa using hyn
             have HN2 : Hid (∀ i' (hi : i' < i + 1) (hl : i' < l.length), (l[i']).number ≠ n) := hid (fun i' hi hl => by
               rcases Nat.lt_or_eq_of_le (Nat.lt_succ_iff.1 hi) with h | h
               · exact HN.out i' h hl
               · subst h; rw [← HYN.out]; exact hyn)
             clear hyn
             go_wp2_with fail
             go_quiet (fail)
             refine Sto.drewN_of (fun V hbV hVh => ?_)
             have HIV := hid (HIQ.out.below hbV)
             clear hbV hVh
             go_wp2_with fail
             exact ⟨⟨i + 1, hik2, by simp, HIV, HN2⟩, by simp only [intOf]; omega⟩
         · have hi1 : ¬ (i : Int) < (k : Int) := by omega
           have hik3 : i = k := by omega
           have HFI : Hid (fits next ((l.map Vf.fi).take k) vf = true) := hid (by
             rw [HF5.out]
             rw [all_from (fun i' hi hl => by rw [List.getElem_map]; exact HN.out i' (by omega) (by rw [HLM.out] at hl; exact hl))]; rfl)
           have HFIN := hid (HYES.out HFI.out _ HIQ.out)
           clear hik3
           go_wp2_with fail
           exact ⟨⟨k + 1, hlt, by simp, HFIN⟩, by simp only [intOf]; omega⟩
   · have hlt' : ¬ (k : Int) < (l.length : Int) := by omega
     have hke : k = l.length := by omega
     have HE : Hid (rr = true) := hid (by
       rw [HRF.out, HI.out.fit, hke, List.drop_of_length_le (by rw [HLM.out]; exact Nat.le_refl _)]; rfl)
     clear hke
     go_wp2_with fail
     go_ret
     exact ⟨ret_q HE.out.symm, HI.out.bel⟩
end Ver
end Go.Proofs.YtgmnhdkdicgkcaaGreatDoor
