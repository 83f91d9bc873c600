/- Parts of the proof, one behind the other: The contracts of the program's number and text.; The contract of the program's text. -/
import Derived.Test.YtgafionfojnieaaGreatDoorMrg14
import Derived.Test.YtgafionfojnieaaGreatDoorMrg26
import Derived.Test.YtgafionfojnieaaGreatDoorMrg15
namespace Go.Proofs.YtgafionfojnieaaGreatDoor
open Go.RowKit
open Lib (hid)
theorem results_c3 {P : Program} {fn : Func} {p u v : Tmp} {ty : TypeId} (h : fn.results = #[.cell p ty, .tmp u, .tmp v]) (tmps : Array Value) (w : World) (g : Nat) (t : TypeId) (cs : Array Value) (fr : Nat × Nat) (d : TypeDesc)
   (hp : tmps.getD p undef = .pointer (some ⟨g, 0, none⟩)) (hg : w.heap[g]? = some (.cells cs t fr)) (hu : P.underlying ty = some d) (hd : (match d, hu with | .struct _, _ => true | .array _ _, _ => true | _, _ => false) = true) (hs : (P.info? ty).map (fun x => x.size) = some cs.size) :
   (results fn tmps).run P w = .ok (.tuple #[.agg cs, tmps.getD u undef, tmps.getD v undef]) w := by
 have h1 := results_cell_row (P := P) (fn := { fn with results := #[.cell p ty] }) (p := p) (ty := ty) rfl tmps w g t cs fr d hp hg hu hd hs
 have h2 : ((asAddr (tmps.getD p undef)).run P w).andThen (fun a w1 => (loadVar ty a).run P w1) = .ok (.agg cs) w := by
   simpa [results] using h1
 rw [hp] at h2
 have h3 : (loadVar ty ⟨g, 0, none⟩).run P w = .ok (.agg cs) w := by simpa [asAddr] using h2
 have hp2 := hp
 simp at hp2
 simp [results, h, asAddr, hp2, h3]
theorem part_size : (Tryz.prog.info? 142).map (fun x => x.size) = some 3 := by kernel_rfl
theorem heap_two (w : World) (o p : Obj) : ((w.alloc o).alloc p).drew.heap[w.heap.size]? = some o :=
 (heap_alloc_old (w.alloc o) p (by simp)).trans (heap_alloc_new w o)
theorem join8 {n x : Nat} (hn : n < 72057594037927936) (hx : x < 256) : bits .or .u64 ((n : Int) * 256) (x : Int) = ((n * 256 + x : Nat) : Int) := by
 have e1 : ((n : Int) * 256) = ((n * 256 : Nat) : Int) := by omega
 rw [e1, u64_or_nat _ _ (by omega) (by omega), nat_join8 (n * 256) x (by omega) (by omega)]
def PtV (p : Pt) : Value := .agg #[.bool p.t, .int .u64 (p.n : Int), .string p.s]
def TakenP (w : World) (B : Nat) (v : Option (Pt × List UInt8)) (e : Ending) (w' : World) : Prop :=
 Below w.heap.size w w' ∧ match v with
 | none => e = .returned (.tuple #[PtV ⟨false, 0, .empty⟩, .slice none 0 0, .int .i64 3])
 | some (p, y) => ∃ A c, e = .returned (.tuple #[PtV p, .slice A y.length c, .int .i64 0]) ∧ y.length ≤ c ∧ c ≤ 9223372036854775807 ∧ RdB w' B A y
theorem rdB_on2 {w w' : World} {B : Nat} {A : Option Addr} {l : List UInt8} (h : RdB w B A l) (hb : Below w.heap.size w w') (hB : B ≤ w.heap.size) : RdB w' B A l := h.below hb hB
theorem takenP_none {w w' : World} {B : Nat} {v : Option (Pt × List UInt8)} (hv : v = none) (hb : Below w.heap.size w w') : TakenP w B v (.returned (.tuple #[PtV ⟨false, 0, .empty⟩, .slice none 0 0, .int .i64 3])) w' := by
 subst hv; exact ⟨hb, rfl⟩
theorem takenP_some {w w' : World} {B : Nat} {v : Option (Pt × List UInt8)} {p q : Pt} {y : List UInt8} {A : Option Addr} {k c : Nat} (hv : v = some (p, y)) (hb : Below w.heap.size w w') (hpq : q = p) (hk : k = y.length) (hc : y.length ≤ c) (hcc : c ≤ 9223372036854775807) (hr : RdB w' B A y) :
   TakenP w B v (.returned (.tuple #[PtV q, .slice A k c, .int .i64 0])) w' := by
 subst hv hpq hk; exact ⟨hb, A, c, rfl, hc, hcc, hr⟩
set_option maxHeartbeats 1000000 in
set_option maxRecDepth 100000 in
theorem num_any (t : UInt8) (A : Option Addr) (c : Nat) (b : List UInt8) (w : World) (x : Nat) (hx : x = t.toNat) (B : Nat) (hB : B ≤ w.heap.size) (h : RdB w B A b) (hl : b.length ≤ 140737488355328) (hc : b.length ≤ c) (hcc : c ≤ 9223372036854775807) :
   Calls Tryz.prog 96 #[.int .u8 (x : Int), .slice A b.length c] w (TakenP w B (Cod.num t b)) := by
 have hal : ∀ o, Below w.heap.size w (w.alloc o) := fun o => (Below.refl _ _).alloc (Nat.le_refl _) o
 have HAL := hid hal; clear hal
 by_cases h1 : x < 16
 · have e : Cod.num t b = none := by unfold Cod.num; rw [← hx, if_pos (.inl h1)]
   have HE := hid e; clear e
   have h1' : (x : Int) - 16 < 0 := by omega
   go_enter Tryz.func96, Tryz.ntmps96
   go_wp2
   refine bodyPost_ret (results_c3 rfl _ _ w.heap.size 142 #[.bool false, .int .u64 0, .string ⟨#[]⟩] _ _ rfl (heap_alloc_new _ _) Tryz.underlying142 rfl part_size) rfl ?_
   exact takenP_none HE.out (HAL.out _)
 · obtain ⟨W, hxW⟩ : ∃ W, x = 16 + W := ⟨x - 16, by omega⟩
   have htW : t.toNat = 16 + W := by omega
   have hW : (x : Int) - 16 = (W : Int) := by omega
   have hW0 : ¬ ((W : Int) < 0) := by omega
   have hxb : (x : Int) < 256 := by have := t.toNat_lt; omega
   have HTW := hid htW
   clear h1 hxW hx htW
   by_cases h8 : (8 : Int) < (W : Int)
   · have e : Cod.num t b = none := by unfold Cod.num; rw [HTW.out, if_pos (.inr (.inl (by omega)))]
     have HE := hid e; clear e
     go_enter Tryz.func96, Tryz.ntmps96
     go_wp2
     refine bodyPost_ret (results_c3 rfl _ _ w.heap.size 142 #[.bool false, .int .u64 0, .string ⟨#[]⟩] _ _ rfl (heap_alloc_new _ _) Tryz.underlying142 rfl part_size) rfl ?_
     exact takenP_none HE.out (HAL.out _)
   · by_cases hbW : b.length < W
     · have e : Cod.num t b = none := by unfold Cod.num; rw [HTW.out, if_pos (.inr (.inr (.inl (by omega))))]
       have HE := hid e; clear e
       go_enter Tryz.func96, Tryz.ntmps96
       go_wp2
       refine bodyPost_ret (results_c3 rfl _ _ w.heap.size 142 #[.bool false, .int .u64 0, .string ⟨#[]⟩] _ _ rfl (heap_alloc_new _ _) Tryz.underlying142 rfl part_size) rfl ?_
       exact takenP_none HE.out (HAL.out _)
     · by_cases hW1 : 0 < W
       · obtain ⟨g, off, rfl, hab, hcell0⟩ := h.at_ (k := 0) (by omega)
         rw [Nat.add_zero] at hcell0
         have hab2 : g < w.heap.size := by omega
         by_cases hz : (b[0]'(by omega)) = 0
         · have e : Cod.num t b = none := by
             unfold Cod.num
             rw [HTW.out, if_pos (.inr (.inr (.inr ⟨by omega, by rw [List.head?_eq_getElem?, List.getElem?_eq_getElem (by omega), hz]⟩)))]
           have HE := hid e; clear e
           have hz0 : (b[0]'(by omega)).toNat = 0 := by rw [hz]; rfl
           rw [hz0] at hcell0
           clear hz hz0
           go_enter Tryz.func96, Tryz.ntmps96
           go_wp2
           refine bodyPost_ret (results_c3 rfl _ _ w.heap.size 142 #[.bool false, .int .u64 0, .string ⟨#[]⟩] _ _ rfl (heap_alloc_new _ _) Tryz.underlying142 rfl part_size) rfl ?_
           exact takenP_none HE.out (HAL.out _)
         · have e : Cod.num t b = some (⟨false, Cod.val 0 (b.take W), .empty⟩, b.drop W) := by
             unfold Cod.num
             have e1 : 16 + W - 16 = W := by omega
             rw [HTW.out, e1, if_neg]
             rintro (h1 | h1 | h1 | ⟨_, h1⟩)
             · omega
             · omega
             · omega
             · rw [List.head?_eq_getElem?, List.getElem?_eq_getElem (by omega)] at h1
               injection h1 with h1
               exact hz h1
           have HE := hid e; clear e
           have hz0 : (b[0]'(by omega)).toNat ≠ 0 := fun e => hz (UInt8.toNat_inj.1 (by rw [e]; rfl))
           obtain ⟨y, hy⟩ : ∃ y, y = (b[0]'(by omega)).toNat := ⟨_, rfl⟩
           rw [← hy] at hcell0 hz0
           have hz1 : ((y : Int) == 0) = false := by simp; omega
           clear hz hy
           go_enter Tryz.func96, Tryz.ntmps96
           go_wp2
           have HH := hid h
           have hn1 : W ≤ b.length := by omega
           go_loopw [41, 10] (fun i q wr => ∃ k n : Nat, k ≤ W ∧ i = .int .i64 (k : Int) ∧ Hid (n = Cod.val 0 (b.take k)) ∧ wr = (w.alloc (.cells #[.bool false, .int .u64 0, .string ⟨#[]⟩] 142)).alloc (.cells #[.bool false, .int .u64 (n : Int), .string ⟨#[]⟩] 142)) (fun i _ _ => W - (intOf i).toNat)
           case atStart => exact ⟨0, 0, by omega, rfl, hid rfl, rfl⟩
           case round =>
             clear hcell0 h
             obtain ⟨k, n, hk, rfl, HN, rfl⟩ := hrel
             by_cases hlt : k < W
             · obtain ⟨g', off', e0, _, hcell⟩ := HH.out.at_ (k := k) (by omega)
               injection e0 with e0
               injection e0 with e1 e2
               subst e1 e2
               have hN := HN.out
               have hnb : n < 256 ^ 7 := by
                 have h1 := Cod.val_bound (b.take k) 0
                 have h2 : (b.take k).length ≤ 7 := by rw [List.length_take]; omega
                 have h3 : (256 : Nat) ^ (b.take k).length ≤ 256 ^ 7 := Nat.pow_le_pow_right (by omega) h2
                 rw [hN]; omega
               have h256 : (256 : Nat) ^ 7 = 72057594037927936 := by decide
               rw [h256] at hnb
               have hxx := b[k].toNat_lt
               obtain ⟨v, hv⟩ : ∃ v, v = (b[k]'(by omega)).toNat := ⟨_, rfl⟩
               rw [← hv] at hcell hxx
               have hj := join8 (n := n) (x := v) (by omega) (by omega)
               have hnext : Hid (n * 256 + v = Cod.val 0 (b.take (k + 1))) := hid (by
                 rw [List.take_succ_eq_append_getElem (by omega), Cod.val_snoc, ← hN, ← hv])
               have hv2 : (v : Int) < 256 := by omega
               have hn2 : (n : Int) < 72057594037927936 := by omega
               clear hN hnb hv hxx HN
               go_wp2
               go_roundw
               case rel => exact ⟨k + 1, n * 256 + v, by omega, by go_num, hnext, rfl⟩
               case measure => simp [intOf]; omega
             · have hkW : k = W := by omega
               subst hkW
               have hn := HN.out
               have HNN := hid hn; clear hn HN
               have hcut := HH.out.cut (k := k) (c := c) (by omega) hc
               have HC := hid hcut; clear hcut
               have hbl : Below w.heap.size w ((w.alloc (.cells #[.bool false, .int .u64 (n : Int), .string ⟨#[]⟩] 142)).alloc (.cells #[.bool false, .int .u64 (n : Int), .string ⟨#[]⟩] 142)).drew := ((HAL.out _).alloc (by simp) _).drew
               have HBL := hid hbl; clear hbl
               go_wp2
               go_region
               go_wp2
               all_goals refine bodyPost_ret (results_c3 rfl _ _ w.heap.size 142 #[.bool false, .int .u64 (n : Int), .string ⟨#[]⟩] _ _ rfl (heap_two _ _ _) Tryz.underlying142 rfl part_size) rfl ?_
               all_goals exact takenP_some (q := ⟨false, n, .empty⟩) HE.out HBL.out (by rw [HNN.out]) (by simp) (by simp; omega) (by omega) (by
                 have q := rdB_on2 HC.out HBL.out hB
                 first
                   | exact q
                   | (rw [if_pos (by assumption)] at q; exact q)
                   | (rw [if_neg (by assumption)] at q; exact q))
       · obtain rfl : W = 0 := by omega
         have e : Cod.num t b = some (⟨false, 0, .empty⟩, b) := by
           unfold Cod.num
           rw [HTW.out, if_neg]
           · simp [Cod.val]
           · rintro (h1 | h1 | h1 | ⟨h2, h1⟩)
             · omega
             · omega
             · omega
             · omega
         have HE := hid e; clear e
         have HH := hid h; clear h
         have hbl : Below w.heap.size w ((w.alloc (.cells #[.bool false, .int .u64 0, .string ⟨#[]⟩] 142)).alloc (.cells #[.bool false, .int .u64 0, .string ⟨#[]⟩] 142)).drew := ((HAL.out _).alloc (by simp) _).drew
         have HBL := hid hbl; clear hbl
         have hx0 : (x : Int) - 16 = 0 := by omega
         clear hW
         cases A with
         | none =>
           go_enter Tryz.func96, Tryz.ntmps96
           go_wp2
           refine wp_loop_rounds 1 ?_
           rw [rounds_succ]
           go_wp2
           go_region
           go_wp2
           all_goals refine bodyPost_ret (results_c3 rfl _ _ w.heap.size 142 #[.bool false, .int .u64 0, .string ⟨#[]⟩] _ _ rfl (heap_two _ _ _) Tryz.underlying142 rfl part_size) rfl ?_
           all_goals exact takenP_some (q := ⟨false, 0, .empty⟩) HE.out HBL.out rfl rfl hc hcc (rdB_on2 HH.out HBL.out hB)
         | some ad =>
           go_enter Tryz.func96, Tryz.ntmps96
           go_wp2
           refine wp_loop_rounds 1 ?_
           rw [rounds_succ]
           go_wp2
           go_region
           go_wp2
           all_goals refine bodyPost_ret (results_c3 rfl _ _ w.heap.size 142 #[.bool false, .int .u64 0, .string ⟨#[]⟩] _ _ rfl (heap_two _ _ _) Tryz.underlying142 rfl part_size) rfl ?_
           all_goals exact takenP_some (q := ⟨false, 0, .empty⟩) HE.out HBL.out rfl rfl hc hcc (rdB_on2 HH.out HBL.out hB)
theorem txt_app (x : List UInt8) : ∀ l, x.count 0 = 0 → Cod.txt (x ++ l) = (Cod.txt l).map (fun v => (x ++ v.1, v.2)) := by
 induction x with
 | nil => intro l _; simp
 | cons c x ih =>
   intro l h
   have hc : c ≠ 0 := by intro e; subst e; simp at h
   have hx : x.count 0 = 0 := by rw [List.count_cons] at h; omega
   rw [List.cons_append, Cod.txt_byte hc, ih l hx]
   cases Cod.txt l <;> rfl
theorem txt_nil : Cod.txt [] = none := by rw [Cod.txt]
theorem txt_free {l : List UInt8} (h : l.count 0 = 0) : Cod.txt l = none := by
 have := txt_app l [] h
 rw [List.append_nil, txt_nil] at this
 exact this
theorem heap_set3 {w : World} {g : Nat} {x y z a b c : Value} {T : TypeId} (h : w.heap[g]? = some (.cells #[x, y, z] T)) : (((w.setCell ⟨g, 0, none⟩ a).setCell ⟨g, 1, none⟩ b).setCell ⟨g, 2, none⟩ c).heap[g]? = some (.cells #[a, b, c] T) := by
 have h1 := heap_setCell_same w g 0 _ T a h
 have h2 := heap_setCell_same _ g 1 _ T b h1
 have h3 := heap_setCell_same _ g 2 _ T c h2
 simpa using h3
theorem rdB_over {w1 wr w4 : World} {B D : Nat} {A : Option Addr} {l : List UInt8} (h : RdB wr B A l) (hb : Below D w1 wr) (hb4 : Below D w1 w4) (hBD : B ≤ D) : RdB w4 B A l :=
 Reads.keep h fun p hp => (hb4.cell (by omega)).trans (hb.cell (by omega)).symm
theorem rdB_sets {w4 : World} {B G : Nat} {a b c : Value} {A : Option Addr} {l : List UInt8} (h : RdB w4 B A l) (hz : B ≤ G) : RdB (((w4.setCell ⟨G, 0, none⟩ a).setCell ⟨G, 1, none⟩ b).setCell ⟨G, 2, none⟩ c) B A l :=
 Reads.setCell (Reads.setCell (Reads.setCell h hz a) hz b) hz c
theorem slice_len {A : Option Addr} {n m c : Nat} (h : n = m) : Value.slice A n c = .slice A m c := by rw [h]
def txtP (v : Option (List UInt8 × List UInt8)) : Option (Pt × List UInt8) := v.map (fun v => (⟨true, 0, ⟨v.1.toArray⟩⟩, v.2))
set_option maxHeartbeats 1000000 in
set_option maxRecDepth 100000 in
theorem txt_any (t : Value) (A : Option Addr) (c : Nat) (b : List UInt8) (w : World) (B : Nat) (hB : B ≤ w.heap.size) (h : RdB w B A b) (hl : b.length ≤ 70368744177664) (hc : b.length ≤ c) (hcc : c ≤ 9223372036854775807) :
   Calls Tryz.prog 97 #[t, .slice A b.length c] w (TakenP w B (txtP (Cod.txt b))) := by
 go_enter Tryz.func97, Tryz.ntmps97
 go_wp2
 have hal : Below w.heap.size w (w.alloc (.cells #[.bool false, .int .u64 0, .string ⟨#[]⟩] 142)) := (Below.refl _ _).alloc (Nat.le_refl _) _
 have hnew := heap_alloc_new w (.cells #[.bool false, .int .u64 0, .string ⟨#[]⟩] 142)
 have hr0 := RdB.alloc h hB (.cells #[.bool false, .int .u64 0, .string ⟨#[]⟩] 142)
 have hsz : (w.alloc (.cells #[.bool false, .int .u64 0, .string ⟨#[]⟩] 142)).heap.size = w.heap.size + 1 := by simp
 obtain ⟨w1, hw1⟩ : ∃ w1, w1 = w.alloc (.cells #[.bool false, .int .u64 0, .string ⟨#[]⟩] 142) := ⟨_, rfl⟩
 rw [← hw1] at hal hnew hr0 hsz ⊢
 have HW1 := hid hw1; clear hw1
 go_loopw [1, 7, 8, 9] (fun v u _ _ wr => ∃ (A1 : Option Addr) (c1 : Nat) (L1 : List UInt8) (A2 : Option Addr) (c2 : Nat) (S : List UInt8), v = .slice A1 L1.length c1 ∧ u = .slice A2 S.length c2 ∧
   RdB wr B A1 L1 ∧ Own wr w1.heap.size 5 A2 c2 S ∧ Below w1.heap.size w1 wr ∧ L1.length ≤ c1 ∧ c1 ≤ 9223372036854775807 ∧ S.length + L1.length ≤ b.length ∧ Hid (Cod.txt b = (Cod.txt L1).map (fun v => (S ++ v.1, v.2)))) (fun v _ _ _ _ => (match v with | .slice _ n _ => n | _ => 0))
 case atStart => exact ⟨A, c, b, none, 0, [], rfl, rfl, hr0, Own.nil _ _ _, Below.refl _ _, hc, hcc, by simp, hid (by cases Cod.txt b <;> simp)⟩
 case round =>
   clear hr0 h hc hcc
   obtain ⟨A1, c1, L1, A2, c2, S, rfl, rfl, h1, ho, hb, hc1, hcc1, hlen, HT⟩ := hrel
   have hcw : wr.heap[w.heap.size]? = some (.cells #[.bool false, .int .u64 0, .string ⟨#[]⟩] 142) := (hb.block _ (by omega)).trans hnew
   have q0 := cell_of_row wr w.heap.size 0 _ _ (0, 0) hcw
   have q1 := cell_of_row wr w.heap.size 1 _ _ (0, 0) hcw
   have q2 := cell_of_row wr w.heap.size 2 _ _ (0, 0) hcw
   have f0 := frozen_of_row wr w.heap.size 0 _ _ hcw
   have f1 := frozen_of_row wr w.heap.size 1 _ _ hcw
   have f2 := frozen_of_row wr w.heap.size 2 _ _ hcw
   have hbw : Below w.heap.size w wr := hal.trans (hb.mono (by omega))
   have HBW := hid hbw
   have HCW := hid hcw
   clear hbw hcw
   by_cases h0 : L1.count 0 = 0
   · have e := HT.out
     rw [txt_free h0] at e
     have HE := hid e; clear e
     have C := indexByte_any B A1 c1 L1 0 wr h1
     rw [Esc.index_none 0 L1 h0] at C
     have HC := hid C; clear C h0
     go_wp2_with fail
     refine HC.out.mono ?_
     rintro e w2 ⟨rfl, rfl⟩
     go_wp2_with fail
     refine bodyPost_ret (results_c3 rfl _ _ w.heap.size 142 #[.bool false, .int .u64 0, .string ⟨#[]⟩] _ _ rfl (heap_set3 HCW.out) Tryz.underlying142 rfl part_size) rfl ?_
     exact takenP_none (by rw [HE.out]; rfl) (((HBW.out.setCell (Nat.le_refl _) _).setCell (Nat.le_refl _) _).setCell (Nat.le_refl _) _)
   · obtain ⟨x, y, hL, hx0, hi⟩ := Esc.index_split 0 L1 (by omega)
     obtain ⟨g, off, rfl, hab, hcell0⟩ := h1.at_ (k := 0) (by rw [hL]; simp; omega)
     clear hcell0
     have hab2 : g < w.heap.size := by omega
     have C := indexByte_any B (some ⟨g, off, none⟩) c1 L1 0 wr h1
     rw [hi] at C
     obtain ⟨N, hN⟩ : ∃ N, N = L1.length := ⟨_, rfl⟩
     obtain ⟨X, hX⟩ : ∃ X, X = x.length := ⟨_, rfl⟩
     rw [← hN] at C hlen hc1 ⊢
     rw [← hX] at C
     have HC := hid C; clear C h0 hi
     cases y with
     | nil =>
       have e := HT.out
       rw [hL, txt_app x [0] hx0, Cod.txt_one] at e
       have HE := hid e; clear e
       have hNX : (N : Int) = (X : Int) + 1 := by rw [hN, hX, hL]; simp
       clear hN hX hL h1
       go_wp2_with fail
       refine HC.out.mono ?_
       rintro e w2 ⟨rfl, rfl⟩
       go_wp2_with fail
       refine bodyPost_ret (results_c3 rfl _ _ w.heap.size 142 #[.bool false, .int .u64 0, .string ⟨#[]⟩] _ _ rfl (heap_set3 HCW.out) Tryz.underlying142 rfl part_size) rfl ?_
       exact takenP_none (by rw [HE.out]; rfl) (((HBW.out.setCell (Nat.le_refl _) _).setCell (Nat.le_refl _) _).setCell (Nat.le_refl _) _)
     | cons d r =>
       have hNX : N = X + 2 + r.length := by rw [hN, hX, hL]; simp; omega
       obtain ⟨g', off', e0, _, hcell⟩ := h1.at_ (k := X + 1) (by omega)
       injection e0 with e0
       injection e0 with e1 e2
       subst e1 e2
       have hd : L1[X + 1]'(by omega) = d := by
         have : L1[X + 1]? = some d := by rw [hL, List.getElem?_append_right (by omega)]; simp [hX]
         rw [List.getElem?_eq_getElem (by omega)] at this
         injection this
       rw [hd] at hcell
       have htk : RdB wr B (some ⟨g, off, none⟩) x := by
         have q := h1.take (k := X) (by omega)
         rw [hL, List.take_left' hX.symm] at q
         exact q
       have hdr := h1.cut (k := X + 2) (c := c1) (by omega) (by omega)
       have hdr2 : L1.drop (X + 2) = r := by rw [hL, hX]; simp
       rw [hdr2] at hdr
       have HTK := hid htk
       have HDR := hid hdr
       have HX := hid hX
       have e := HT.out
       rw [hL, txt_app x _ hx0] at e
       have hne : S.length + X + 2 + r.length ≤ b.length := by omega
       have hN1 : X + 1 < N := by omega
       have hN2 : ((X : Int) + 1 == (N : Int)) = false := by simp; omega
       have HNX := hid hNX
       clear htk hdr hdr2 hd hN hX hL h1 HT hNX
       by_cases hd0 : d = 0
       · subst hd0
         rw [Cod.txt_end] at e
         have HE := hid e; clear e
         have hcell : wr.cell? ⟨g, off + (X + 1), none⟩ = some (.int .u8 0) := hcell
         go_wp2_with fail
         refine HC.out.mono ?_
         rintro e w2 ⟨rfl, rfl⟩
         go_wp2_with (at_builtin; refine wpList_append_b _ rfl (.tmp 22) (.tmp 25) bt rfl w1.heap.size A2 c2 S rfl ho _ (some ⟨g, off, none⟩) X c1 x rfl HX.out HTK.out (by have := HX.out; omega) hb.size ?_; intro A4 c4 L4 w4 hL4 ho4 hg4 hat4; have HL4 := hid hL4; clear hL4 hat4; have hb4 : Below w1.heap.size w1 w4 := below_grow hb hg4 (fun g hg => (ho.blk_ge g hg).1) hb.size; have hcell4 := (hb4.cell (p := ⟨g, off + (X + 1), none⟩) (by show g < w1.heap.size; omega)).trans ((hb.cell (p := ⟨g, off + (X + 1), none⟩) (by show g < w1.heap.size; omega)).symm.trans hcell); have hcw4 : w4.heap[w.heap.size]? = some (.cells #[.bool false, .int .u64 0, .string ⟨#[]⟩] 142) := (hb4.block _ (by omega)).trans hnew; have r0 := cell_of_row w4 w.heap.size 0 _ _ (0, 0) hcw4; have r1 := cell_of_row w4 w.heap.size 1 _ _ (0, 0) hcw4; have r2 := cell_of_row w4 w.heap.size 2 _ _ (0, 0) hcw4; have k0 := frozen_of_row w4 w.heap.size 0 _ _ hcw4; have k1 := frozen_of_row w4 w.heap.size 1 _ _ hcw4; have k2 := frozen_of_row w4 w.heap.size 2 _ _ hcw4; have HB4 := hid hb4; have HCW4 := hid hcw4; have hstr := run_string_b w4 bt Tryz.underlying9 _ A4 L4.length c4 L4 rfl ho4.rd; have hz4 := hb4.size; clear hg4 hcw4 q0 q1 q2 f0 f1 f2 hcell)
         all_goals refine bodyPost_ret (results_c3 rfl _ _ w.heap.size 142 #[.bool true, .int .u64 0, .string ⟨L4.toArray⟩] _ _ rfl (heap_set3 HCW4.out) Tryz.underlying142 rfl part_size) rfl ?_
         all_goals exact takenP_some (p := ⟨true, 0, ⟨(S ++ (x ++ [])).toArray⟩⟩) (y := r) (q := ⟨true, 0, ⟨L4.toArray⟩⟩) (by rw [HE.out]; rfl) ((((hal.trans (HB4.out.mono (by omega))).setCell (Nat.le_refl _) _).setCell (Nat.le_refl _) _).setCell (Nat.le_refl _) _) (by rw [HL4.out]; simp) (by have := HNX.out; omega) (by have := HNX.out; omega) (by omega) (by
           refine rdB_sets ?_ (by omega)
           have q := rdB_over HDR.out hb HB4.out (by omega)
           first
             | exact q
             | (rw [if_pos (by assumption)] at q; exact q)
             | (rw [if_neg (by assumption)] at q; exact q))
       · have hd1 : d.toNat ≠ 0 := fun e => hd0 (UInt8.toNat_inj.1 (by rw [e]; rfl))
         by_cases hd5 : d = 255
         · subst hd5
           rw [Cod.txt_esc] at e
           have HE := hid e; clear e
           have hcell : wr.cell? ⟨g, off + (X + 1), none⟩ = some (.int .u8 255) := hcell
           go_wp2_with fail
           refine HC.out.mono ?_
           rintro e w2 ⟨rfl, rfl⟩
           go_wp2_with (first
             | (at_builtin; refine wpList_append_b _ rfl (.tmp 22) (.tmp 25) bt rfl w1.heap.size A2 c2 S rfl ho _ (some ⟨g, off, none⟩) X c1 x rfl HX.out HTK.out (by have := HX.out; omega) hb.size ?_; intro A4 c4 L4 w4 hL4 ho4 hg4 hat4; have HL4 := hid hL4; clear hL4 hat4; have hb4 : Below w1.heap.size w1 w4 := below_grow hb hg4 (fun g hg => (ho.blk_ge g hg).1) hb.size; have hcell4 := (hb4.cell (p := ⟨g, off + (X + 1), none⟩) (by show g < w1.heap.size; omega)).trans ((hb.cell (p := ⟨g, off + (X + 1), none⟩) (by show g < w1.heap.size; omega)).symm.trans hcell); have hcw4 : w4.heap[w.heap.size]? = some (.cells #[.bool false, .int .u64 0, .string ⟨#[]⟩] 142) := (hb4.block _ (by omega)).trans hnew; have r0 := cell_of_row w4 w.heap.size 0 _ _ (0, 0) hcw4; have r1 := cell_of_row w4 w.heap.size 1 _ _ (0, 0) hcw4; have r2 := cell_of_row w4 w.heap.size 2 _ _ (0, 0) hcw4; have k0 := frozen_of_row w4 w.heap.size 0 _ _ hcw4; have k1 := frozen_of_row w4 w.heap.size 1 _ _ hcw4; have k2 := frozen_of_row w4 w.heap.size 2 _ _ hcw4; have HB4 := hid hb4; have HCW4 := hid hcw4; have hstr := run_string_b w4 bt Tryz.underlying9 _ A4 L4.length c4 L4 rfl ho4.rd; have hz4 := hb4.size; clear hg4 hcw4 q0 q1 q2 f0 f1 f2 hcell)
             | (at_builtin; refine wpList_append_b _ rfl (.tmp 46) (.tmp 47) bt rfl w1.heap.size A4 c4 L4 rfl (ho4.alloc _) _ (some ⟨w4.heap.size, 0, none⟩) 1 1 [0] rfl rfl (rdB_one (x := 0) (by simp) rfl (by simp)) (by rw [HL4.out]; simp; have := HX.out; omega) (by simp; omega) ?_; intro A5 c5 L5 w5 hL5 ho5 hg5 hat5; have HL5 := hid hL5; clear hL5 hat5; have hb5 : Below w1.heap.size w1 w5 := below_grow (HB4.out.alloc hz4 _) hg5 (fun g hg => (ho4.blk_ge g hg).1) (by simp; omega)))
           go_roundw
           case rel =>
             refine ⟨_, _, r, A5, c5, L5, slice_len (by have := HNX.out; omega), rfl, ?_, ho5, hb5, by have := HNX.out; omega, by omega, by have := HNX.out; have := HX.out; have := congrArg List.length HL5.out; have := congrArg List.length HL4.out; simp at *; omega, hid ?_⟩
             · have q := rdB_over HDR.out hb hb5 (by omega)
               first
                 | exact q
                 | (rw [if_pos (by assumption)] at q; exact q)
                 | (rw [if_neg (by assumption)] at q; exact q)
             · rw [HE.out, HL5.out, HL4.out]
               cases Cod.txt r <;> simp
           case measure => have := HNX.out; simp; omega
         · rw [Cod.txt_bad hd0 hd5 r] at e
           have HE := hid e; clear e
           have hd2 : d.toNat ≠ 255 := fun e => hd5 (UInt8.toNat_inj.1 (by rw [e]; rfl))
           obtain ⟨v, hv⟩ : ∃ v, v = d.toNat := ⟨_, rfl⟩
           rw [← hv] at hcell hd1 hd2
           have hd3 : ((v : Int) == 0) = false := by simp; omega
           have hd4 : ((v : Int) == 255) = false := by simp; omega
           clear hv hd0 hd5 hd1 hd2
           go_wp2_with fail
           refine HC.out.mono ?_
           rintro e w2 ⟨rfl, rfl⟩
           go_wp2_with (at_builtin; refine wpList_append_b _ rfl (.tmp 22) (.tmp 25) bt rfl w1.heap.size A2 c2 S rfl ho _ (some ⟨g, off, none⟩) X c1 x rfl HX.out HTK.out (by have := HX.out; omega) hb.size ?_; intro A4 c4 L4 w4 hL4 ho4 hg4 hat4; have HL4 := hid hL4; clear hL4 hat4; have hb4 : Below w1.heap.size w1 w4 := below_grow hb hg4 (fun g hg => (ho.blk_ge g hg).1) hb.size; have hcell4 := (hb4.cell (p := ⟨g, off + (X + 1), none⟩) (by show g < w1.heap.size; omega)).trans ((hb.cell (p := ⟨g, off + (X + 1), none⟩) (by show g < w1.heap.size; omega)).symm.trans hcell); have hcw4 : w4.heap[w.heap.size]? = some (.cells #[.bool false, .int .u64 0, .string ⟨#[]⟩] 142) := (hb4.block _ (by omega)).trans hnew; have r0 := cell_of_row w4 w.heap.size 0 _ _ (0, 0) hcw4; have r1 := cell_of_row w4 w.heap.size 1 _ _ (0, 0) hcw4; have r2 := cell_of_row w4 w.heap.size 2 _ _ (0, 0) hcw4; have k0 := frozen_of_row w4 w.heap.size 0 _ _ hcw4; have k1 := frozen_of_row w4 w.heap.size 1 _ _ hcw4; have k2 := frozen_of_row w4 w.heap.size 2 _ _ hcw4; have HB4 := hid hb4; have HCW4 := hid hcw4; have hstr := run_string_b w4 bt Tryz.underlying9 _ A4 L4.length c4 L4 rfl ho4.rd; have hz4 := hb4.size; clear hg4 hcw4 q0 q1 q2 f0 f1 f2 hcell)
           all_goals refine bodyPost_ret (results_c3 rfl _ _ w.heap.size 142 #[.bool false, .int .u64 0, .string ⟨#[]⟩] _ _ rfl (heap_set3 HCW4.out) Tryz.underlying142 rfl part_size) rfl ?_
           all_goals exact takenP_none (by rw [HE.out]; rfl) ((((hal.trans (HB4.out.mono (by omega))).setCell (Nat.le_refl _) _).setCell (Nat.le_refl _) _).setCell (Nat.le_refl _) _)
end Go.Proofs.YtgafionfojnieaaGreatDoor
