/- Parts of the proof, one behind the other: slices.Clone and slices.Reverse at bytes; the contract of bloom's probes. -/
import Derived.Test.YtgafionfojnieaaGreatDoorMrg04
import Derived.Test.YtgafionfojnieaaGreatDoorMrg05
namespace Go.Proofs.YtgafionfojnieaaGreatDoor
open Go.RowKit
open Lib (hid)
theorem cloneT_any (A : Option Addr) (c : Nat) (l : List UInt8) (w : World) (h : RdB w w.heap.size A l) (hc : A = none → c = 0) (hl : l.length ≤ 70368744177664) :
   Calls Tryz.prog 34 #[.slice A l.length c] w (GivesB w l) := by
 have HR := hid h; clear h
 rcases A with _ | ad
 · have hl0 : l = [] := by
     rcases l with _ | ⟨x, l⟩
     · rfl
     · obtain ⟨ad, h, _⟩ := HR.out.cell (k := 0) (by simp)
       cases h
   subst hl0
   rw [hc rfl]
   have hq : (binOp .eql 22 (.slice none 0 0) (.slice none 0 0)).run Tryz.prog w = .ok (.bool true) w := Lib.run_eql_slice_nil w _ _ none 0 0 0 0 bt.sl
   show Calls Tryz.prog 34 #[.slice none 0 0] w (GivesB w [])
   go_enter Tryz.func34, Tryz.ntmps34
   go_wp2_with fail
   go_ret
   exact ⟨none, 0, rfl, Own.nil _ _ _, Below.refl _ _⟩
 · have hq : (binOp .eql 22 (.slice (some ad) l.length c) (.slice none 0 0)).run Tryz.prog w = .ok (.bool false) w := Lib.run_eql_slice_nil w _ _ (some ad) l.length c 0 0 bt.sl
   have HN : Hid (Own (w.alloc (.cells #[] 5)) w.heap.size 5 (some ⟨w.heap.size, 0, none⟩) 0 []) := hid (World.ownsRow_lit (e := 5) (size := 1) w #[] 0 (Nat.le_refl _) (by unfold maxLen; omega) rfl)
   go_enter Tryz.func34, Tryz.ntmps34
   go_wp2_with (at_builtin; refine wpList_append_b _ rfl _ _ bt rfl w.heap.size (some ⟨w.heap.size, 0, none⟩) 0 [] rfl HN.out w.heap.size (some ad) l.length c l rfl rfl (HR.out.alloc (Nat.le_refl _) _) (by simp only [List.length_nil]; omega) (by simp) ?_)
   intro A2 c2 L w2 hL ho hg _
   have HL : Hid (L = l) := hid hL
   have HO := hid ho
   have HB : Hid (Below w.heap.size w w2) := hid (below_grow ((Below.refl _ _).alloc (Nat.le_refl _) _) hg (fun g hg => (HN.out.blk_ge g hg).1) (by simp))
   clear hL ho hg
   go_wp2_with fail
   go_ret
   exact ⟨A2, c2, by rw [HL.out]; rfl, by rw [← HL.out]; exact HO.out, HB.out⟩
def ProbesAt (w w' : World) (fv : Value) (key : List UInt8) (e : Ending) : Prop :=
 ∃ b0 b1 b2, e = .returned (.func (.func 112) #[] #[.pointer (some ⟨b0, 0, none⟩), .pointer (some ⟨b1, 0, none⟩), .pointer (some ⟨b2, 0, none⟩)]) ∧
   w'.heap[b0]? = some (.cells #[fv] 22) ∧ w'.heap[b1]? = some (.cells #[.int .u64 (Blm.hh key : Int)] 62) ∧ w'.heap[b2]? = some (.cells #[.int .u64 (Blm.gg key : Int)] 62) ∧
   w.heap.size ≤ b0 ∧ b0 < b1 ∧ b1 < b2 ∧ b2 < w'.heap.size ∧ Below w.heap.size w w'
set_option maxHeartbeats 1000000 in
theorem probes_any (FA : Option Addr) (fn fc : Nat) (A : Option Addr) (c : Nat) (key : List UInt8) (w : World) (h : RdB w w.heap.size A key) (hc : A = none → c = 0) (hl : key.length ≤ 70368744177664) :
   Calls Tryz.prog 78 #[.slice FA fn fc, .slice A key.length c] w fun e w' => ProbesAt w w' (.slice FA fn fc) key e := by
 have HR := hid h; clear h
 have HC := hid hc; clear hc
 obtain ⟨ob, hob⟩ : ∃ ob, ob = Obj.cells #[.slice FA fn fc] 22 := ⟨_, rfl⟩
 have KC := hid (cloneT_any A c key (w.alloc (.cells #[.slice FA fn fc] 22)) ((HR.out.alloc (Nat.le_refl _) _).more (by simp)) HC.out hl)
 go_enter Tryz.func78, Tryz.ntmps78
 go_wp2_with fail
 refine KC.out.mono ?_
 rintro e w1 ⟨A1, c1, rfl, ho1, hb1⟩
 have HO1 := hid ho1; have HB1 := hid hb1
 clear ho1 hb1 KC
 go_wp2_with fail
 have KR := hid (reverse_any _ A1 c1 key w1 HO1.out (by omega))
 refine KR.out.mono ?_
 rintro e w2 ⟨rfl, ho2, hg2⟩
 have HO2 := hid ho2
 have HB2 : Hid (Below (w.heap.size + 1) w1 w2) := hid ((Below.refl _ _).grown hg2 (by have := HB1.out.size; simpa using this) (fun g hg => by have := (HO1.out.blk_ge g hg).1; simpa using this))
 clear ho2 hg2 KR
 have hz1 : w.heap.size + 1 ≤ w1.heap.size := by have := HB1.out.size; simpa using this
 have HW2 : Hid (Below w.heap.size w w2) := hid (((Below.refl _ _).alloc (Nat.le_refl _) _).trans ((HB1.out.mono (by simp)).trans (HB2.out.mono (by omega))))
 have HX0 : Hid (w2.heap[w.heap.size]? = some (.cells #[.slice FA fn fc] 22)) := hid ((HB2.out.block _ (by omega)).trans ((HB1.out.block _ (by simp)).trans (World.alloc_heap_new _ _)))
 have hz2 : w1.heap.size ≤ w2.heap.size := HB2.out.size
 have K1 := hid (chksum_any A c key w2 ((HR.out.below HW2.out (Nat.le_refl _)).more (by omega)) (by omega))
 obtain ⟨S, hS⟩ : ∃ S, S = Chk.sum key := ⟨_, rfl⟩
 have hS2 : S < 2147483647 := by rw [hS]; exact Chk.sum_lt _
 rw [← hS] at K1
 have HS : Hid (Blm.hh key = S) := hid hS.symm
 clear hS
 go_wp2_with fail
 refine K1.out.mono ?_
 rintro e w3 ⟨rfl, hb3⟩
 have HB3 := hid hb3; clear hb3
 have hz3 : w2.heap.size ≤ w3.heap.size := HB3.out.size
 have hrl : key.reverse.length = key.length := List.length_reverse
 have K2 := hid (chksum_any A1 c1 key.reverse w3 ((HO2.out.below HB3.out).rd) (by omega))
 rw [hrl] at K2
 obtain ⟨T, hT⟩ : ∃ T, T = Chk.sum key.reverse := ⟨_, rfl⟩
 have hT2 : T < 2147483647 := by rw [hT]; exact Chk.sum_lt _
 have HT : Hid (Blm.gg key = T + 1) := hid (by rw [hT]; rfl)
 rw [← hT] at K2
 clear hT hrl
 go_wp2_with fail
 refine K2.out.mono ?_
 rintro e w4 ⟨rfl, hb4⟩
 have HB4 := hid hb4; clear hb4
 have hz4 : w3.heap.size ≤ w4.heap.size := HB4.out.size
 clear K1 K2
 go_wp2_with fail
 go_ret
 refine ⟨w.heap.size, w4.heap.size, w4.heap.size + 1, rfl, ?_, ?_, ?_, by omega, by omega, by omega, by simp, ?_⟩
 · refine (((Below.refl w4.heap.size w4).alloc (Nat.le_refl _) _).alloc (by simp) _).block _ (by omega) |>.trans ?_
   exact (HB4.out.block _ (by omega)).trans ((HB3.out.block _ (by omega)).trans HX0.out)
 · rw [HS.out]
   exact (((Below.refl (w4.heap.size + 1) (w4.alloc (.cells #[.int .u64 (S : Int)] 62))).alloc (by simp) _).block _ (by omega)).trans (World.alloc_heap_new _ _)
 · rw [HT.out]
   have := World.alloc_heap_new (w4.alloc (.cells #[.int .u64 (S : Int)] 62)) (.cells #[.int .u64 ((T : Int) + 1)] 62)
   simpa only [World.size_alloc, Int.natCast_add, Int.cast_ofNat_Int] using this
 · exact ((HW2.out.trans (HB3.out.mono (by omega))).trans (HB4.out.mono (by omega))).alloc (by omega) _ |>.alloc (by simp; omega) _
end Go.Proofs.YtgafionfojnieaaGreatDoor
