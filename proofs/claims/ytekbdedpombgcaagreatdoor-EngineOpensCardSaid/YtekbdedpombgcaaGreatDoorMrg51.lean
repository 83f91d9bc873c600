/- Parts of the proof, one behind the other: Contracts: a batch of one op, encoded. -/
import Derived.Test.YtekbdedpombgcaaGreatDoorMrg50
import Derived.OrdersHeld
namespace Go.Proofs.YtekbdedpombgcaaGreatDoor
open Go.RowKit Go.Maps

namespace Eng
set_option maxHeartbeats 4000000 in
set_option maxRecDepth 100000 in
theorem encoded_one {w : World} {ob kc vc : Nat} {kA vA : Option Addr} {k v : List UInt8} (h : OpAt w ob kA kc k vA vc v) (hk : 1 ≤ k.length ∧ k.length ≤ 512) (hv : v.length ≤ 4096) (hB : (enc1 k v).length ≤ 60000) :
    Calls Tryz.prog 51 #[.slice (some ⟨ob, 0, none⟩) 1 1] w fun e w' => ∃ A c, e = .returned (.tuple #[.slice A (enc1 k v).length c, .bool true]) ∧ Own w' w.heap.size 5 A c (enc1 k v) ∧ Below w.heap.size w w' := by
  have KW : Hid (∀ w, Calls Tryz.prog 10 #[.int .i64 1, .int .i64 1, .int .i64 100] w fun e w' => e = .returned (.bool true) ∧ w' = w) := Lib.hid (fun w => by simpa using ewithin_any 1 1 100 w)
  have KK : Hid (∀ w, Calls Tryz.prog 10 #[.int .i64 (k.length : Int), .int .i64 1, .int .i64 512] w fun e w' => e = .returned (.bool true) ∧ w' = w) := Lib.hid (fun w => by
    have e1 : decide (1 ≤ (k.length : Int)) = true := decide_eq_true (by omega)
    have e2 : decide ((k.length : Int) ≤ 512) = true := decide_eq_true (by omega)
    have := ewithin_any (k.length : Int) 1 512 w
    rw [e1, e2] at this
    exact this)
  have KN1 := Lib.hid (fun w => number_z 1 1 rfl (by decide) w)
  have KN0 := Lib.hid (fun w => number_z 0 0 rfl (by decide) w)
  have H := Lib.hid h
  have HK := Lib.hid hk
  have HB := Lib.hid hB
  have hv2 : ¬ (4096 : Int) < (v.length : Int) := by omega
  clear h hk hB
  go_enter Tryz.func51, Tryz.ntmps51
  go_wp2_with fail
  refine (KW.out _).mono ?_
  rintro e w1 ⟨rfl, he⟩
  rw [he]
  clear he w1
  go_wp2_with fail
  refine (KN1.out _).mono ?_
  rintro e w2 ⟨A1, c1, rfl, ho1, hb1⟩
  have H2 := Lib.hid (H.out.below hb1)
  have HO1 := Lib.hid ho1
  have HB1 := Lib.hid hb1
  obtain ⟨r0, r1, r2⟩ := three_cells H2.out.row
  clear ho1 hb1
  go_wp2_with fail
  refine wp_loop_rounds 2 ?_
  rw [rounds_succ]
  go_wp2_with fail
  refine (KK.out _).mono ?_
  rintro e w3 ⟨rfl, rfl⟩
  obtain ⟨W3, hW3⟩ : ∃ W3, W3 = w2.alloc (.cells #[.slice kA k.length kc, .bool false, .slice vA v.length vc] 36) := ⟨_, rfl⟩
  have hb3 : Below w2.heap.size w2 W3 := by rw [hW3]; exact (Below.refl _ _).alloc (Nat.le_refl _) _
  have HROW : Hid (W3.heap[w2.heap.size]? = some (.cells #[.slice kA k.length kc, .bool false, .slice vA v.length vc] 36)) := Lib.hid (by rw [hW3]; exact heap_alloc_new w2 _)
  have HBB := Lib.hid (HB1.out.trans (hb3.mono HB1.out.size))
  have H3 := Lib.hid (H2.out.below hb3)
  have HO3 := Lib.hid (HO1.out.below hb3)
  rw [← hW3]
  clear hb3 hW3 r0 r1 r2
  obtain ⟨r0, r1, r2⟩ := three_cells HROW.out
  go_upto_region 12 with fail
  have HKR : Hid (∀ X, Below W3.heap.size W3 X → RdB X X.heap.size kA k ∧ RdB X X.heap.size vA v) := Lib.hid (fun X hX => ⟨(H3.out.below hX).kr, (H3.out.below hX).vr⟩)
  have HO1 : Hid (Own W3.drew w.heap.size 5 A1 c1 (Cod.number 1)) := Lib.hid (HO3.out.below (Below.refl _ _).drew)
  clear HO3 r0 r1 r2
  go_region_held (fun X => X.cell? ⟨w2.heap.size, 0, none⟩ = some (.slice kA k.length kc) ∧ X.cell? ⟨w2.heap.size, 2, none⟩ = some (.slice vA v.length vc) ∧ Below W3.heap.size W3 X)
    (first | exact op_held HROW.out (Below.refl _ _).drew | exact op_held HROW.out hbw | exact op_held HROW.out (Below.alloc (by go_split_ands; assumption) (by go_split_ands; exact Below.size (by assumption)) _))
    (first
      | (go_at_call 112; (with_reducible refine (KN0.out _).mono ?_); rintro e w4 ⟨AN, cn, rfl, hoN, hb4⟩; have HON := Lib.hid hoN; (try replace HO1 := Lib.hid (HO1.out.below hb4)); (try replace HON := Lib.hid (HON.out.below hb4)); (try replace HOK := Lib.hid (HOK.out.below hb4)); (try replace HOV := Lib.hid (HOV.out.below hb4)); have hbw := Below.trans (b := _) (by go_split_ands; assumption : Below W3.heap.size W3 _) (hb4.mono (by go_split_ands; exact Below.size (by assumption))))
      | (go_at_call 114; (refine (text_any kA kc k _ (HKR.out _ (by go_split_ands; assumption)).1 (by have := HK.out; omega)).mono ?_); rintro e w4 ⟨AK, ck, rfl, hoK, hb4⟩; have HOK := Lib.hid hoK; (try replace HO1 := Lib.hid (HO1.out.below hb4)); (try replace HON := Lib.hid (HON.out.below hb4)); (try replace HOK := Lib.hid (HOK.out.below hb4)); (try replace HOV := Lib.hid (HOV.out.below hb4)); have hbw := Below.trans (b := _) (by go_split_ands; assumption : Below W3.heap.size W3 _) (hb4.mono (by go_split_ands; exact Below.size (by assumption))))
      | (go_at_call 114; (refine (text_any vA vc v _ (HKR.out _ (by go_split_ands; assumption)).2 (by omega)).mono ?_); rintro e w4 ⟨AV, cv, rfl, hoV, hb4⟩; have HOV := Lib.hid hoV; (try replace HO1 := Lib.hid (HO1.out.below hb4)); (try replace HON := Lib.hid (HON.out.below hb4)); (try replace HOK := Lib.hid (HOK.out.below hb4)); (try replace HOV := Lib.hid (HOV.out.below hb4)); have hbw := Below.trans (b := _) (by go_split_ands; assumption : Below W3.heap.size W3 _) (hb4.mono (by go_split_ands; exact Below.size (by assumption))))
      | (go_at_call 113; (refine (concat4 ⟨A1, c1, Cod.number 1⟩ ⟨AN, cn, Cod.number 0⟩ ⟨AK, ck, Cod.text k⟩ ⟨AV, cv, Cod.text v⟩ HO1.out.rd HON.out.rd HOK.out.rd HOV.out.rd (L := enc1 k v) rfl (by have := HB.out; omega)).mono ?_); rintro e w5 ⟨A, c, rfl, ho, hb5⟩; have HF : Hid (Own w5 w.heap.size 5 A c (enc1 k v)) := Lib.hid (ho.mono (Nat.le_trans HBB.out.size hbw.size)); have hbw := hbw.trans (hb5.mono hbw.size)))
  all_goals (
    have HBF : Hid (Below w.heap.size w w5) := Lib.hid (HBB.out.trans (hbw.mono HBB.out.size))
    obtain ⟨n, hn⟩ : ∃ n, n = (enc1 k v).length := ⟨_, rfl⟩
    have HN := Lib.hid hn
    have hn2 : (n : Int) ≤ 60000 := by have := HB.out; omega
    rw [← hn]
    clear hn hbw
    go_wp2_with fail
    rw [rounds_succ]
    go_wp2_with fail
    go_ret2
    first | exact ⟨A, c, rfl, HF.out, HBF.out⟩ | exact ⟨A, c, by rw [HN.out]; rfl, HF.out, HBF.out⟩)
end Eng
end Go.Proofs.YtekbdedpombgcaaGreatDoor
