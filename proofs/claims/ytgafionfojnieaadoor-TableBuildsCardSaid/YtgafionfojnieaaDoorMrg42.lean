/- Parts of the proof, one behind the other: The contract of the closure that block's pairs hands back.; The contract of slices.Equal at ints.; The contract of the reference's Scan.; The contract of the reference's Parse of blocks. -/
import Derived.Test.YtgafionfojnieaaDoorMrg41
import Derived.Deep.QuietTactic
import Derived.BigQuiet
namespace Go.Proofs.YtgafionfojnieaaDoor
open Go.RowKit

theorem pairs_any (A : Option Addr) (n c : Nat) (w : World) :
    Calls Tryd.prog 63 #[.slice A n c] w fun e w' => e = .returned (.func (.func 78) #[] #[.pointer (some ⟨w.heap.size, 0, none⟩), .pointer (some ⟨w.heap.size + 1, 0, none⟩)]) ∧ w' = (w.alloc (.cells #[.slice A n c] 25)).alloc (.cells #[.slice none 0 0] 25) := by
  go_enter Tryd.func63, Tryd.ntmps63
  go_wp2_with fail
  go_ret
  exact ⟨rfl, rfl⟩
theorem pair2_size : (Tryd.prog.info? 48).map (fun x => x.size) = some 2 := by kernel_rfl
/-- What the next pair leaves: the two boxes, the pair, in memory of its own. -/
structure NextOk (w : World) (base gb gl : Nat) (p : Pr) (R3 : List UInt8) (q : Pv) (B3 : Option Addr) (d3 : Nat) (LA : Option Addr) (LC : Nat) (w' : World) : Prop where
  bx : w'.heap[gb]? = some (.cells #[.slice B3 R3.length d3] 25)
  lx : w'.heap[gl]? = some (.cells #[.slice LA p.k.length LC] 25)
  pr : q.pr = p
  key : Own w' w.heap.size 5 q.kA q.kc q.k
  val : Own w' w.heap.size 5 q.vA q.vc q.v
  last : Own w' w.heap.size 5 LA LC p.k
  rest : HBs w' base B3 R3
  cap : R3.length ≤ d3 ∧ d3 ≤ 9223372036854775807
  size : w.heap.size ≤ w'.heap.size
  keep : ∀ k, k < w.heap.size → k ≠ gb → k ≠ gl → w'.heap[k]? = w.heap[k]?
  below : Below base w w'
def NextP (w : World) (base gb gl : Nat) (v : Option (Pr × List UInt8)) (e : Ending) (w' : World) : Prop := match v with
  | none => ∃ x : Int, x ≠ 0 ∧ e = .returned (.tuple #[.agg #[.slice none 0 0, .slice none 0 0], .slice none 0 0, .int .i64 x]) ∧ Below w.heap.size w w'
  | some (p, R3) => ∃ q B3 d3 LA LC, e = .returned (.tuple #[.agg #[.slice q.kA q.k.length q.kc, .slice q.vA q.v.length q.vc], .slice B3 R3.length d3, .int .i64 0]) ∧ NextOk w base gb gl p R3 q B3 d3 LA LC w'
theorem concat_two (A1 A2 : Option Addr) (n c1 c2 : Nat) (l1 l2 : List UInt8) (w : World) (hn : n = l1.length) (h1 : RdB w w.heap.size A1 l1) (h2 : RdB w w.heap.size A2 l2) (hl : l1.length + l2.length ≤ 70368744177664) :
    Calls Tryd.prog 48 #[.slice (some ⟨w.heap.size, 0, none⟩) 2 2] (w.alloc (.cells #[.slice A1 n c1, .slice A2 l2.length c2] 25)) (GivesB (w.alloc (.cells #[.slice A1 n c1, .slice A2 l2.length c2] 25)) (l1 ++ l2)) := by
  subst hn
  have K := concat_any (some ⟨w.heap.size, 0, none⟩) 2 [⟨A1, c1, l1⟩, ⟨A2, c2, l2⟩] (w.alloc (.cells #[.slice A1 l1.length c1, .slice A2 l2.length c2] 25)) ⟨RdS.of (f := Bs.cells) (n := 1) (fun _ => rfl) w.heap.size 0 (by simp) (fun j hj i u hu => by
    match j, hj, i, hu with
    | 0, _, 0, hu => simp [Bs.cells] at hu; subst hu; simp
    | 1, _, 0, hu => simp [Bs.cells] at hu; subst hu; simp
    | 0, _, i + 1, hu => simp [Bs.cells] at hu
    | 1, _, i + 1, hu => simp [Bs.cells] at hu), fun p hp => by
      simp only [List.mem_cons, List.not_mem_nil, or_false] at hp
      rcases hp with rfl | rfl
      · exact (h1.alloc (Nat.le_refl _) _).more (by simp)
      · exact (h2.alloc (Nat.le_refl _) _).more (by simp)⟩ (by simp) (by simp [cat]; exact hl)
  simpa [cat] using K
theorem own_set_tag {w : World} {base c g o : Nat} {cs : Array Value} {T : TypeId} {fr : Nat × Nat} {A : Option Addr} {l : List UInt8} {u : Value} (h : Own w base 5 A c l) (hb : w.heap[g]? = some (.cells cs T fr)) (hT : T ≠ 5) : Own (w.setCell ⟨g, o, none⟩ u) base 5 A c l :=
  own_keep2 h (fun x hx => by
    obtain ⟨_, cs', fr', h1⟩ := own_tag h hx
    exact heap_setD _ (tag_ne2 h1 hb (fun e => hT e.symm)))
theorem HBs.set_tag {w : World} {base g o : Nat} {cs : Array Value} {T : TypeId} {fr : Nat × Nat} {B : Option Addr} {r : List UInt8} {u : Value} (h : HBs w base B r) (hb : w.heap[g]? = some (.cells cs T fr)) (hT : T ≠ 5) (hg : base ≤ g) : HBs (w.setCell ⟨g, o, none⟩ u) base B r := h.keep (by simp) (fun hne x hx _ => by
  refine heap_setD _ (fun e => ?_)
  have e' : x = g := e
  subst e'
  rcases h.at_ hne x hx with h1 | ⟨cs', fr', h1⟩
  · omega
  · exact tag_ne2 h1 hb (fun e => hT e.symm) rfl)
theorem nextOk_mk {w wk w7 : World} {base gb gl c4 c3 d3 c7 : Nat} {X v R3 : List UInt8} {A4 A3 B3 A7 : Option Addr} {x y z u a1 a2 : Value} (hB : Below w.heap.size w wk) (hcw : wk.heap[w.heap.size]? = some (.cells #[x, y] 48)) (hbx : wk.heap[gb]? = some (.cells #[z] 25)) (hlx : wk.heap[gl]? = some (.cells #[u] 25))
    (hne : gb ≠ gl) (hgb : base ≤ gb) (hgl : base ≤ gl) (hgb2 : gb < w.heap.size) (hgl2 : gl < w.heap.size) (hX : Own wk w.heap.size 5 A4 c4 X) (hV : Own wk w.heap.size 5 A3 c3 v) (hR : HBs wk base B3 R3) (hcap : R3.length ≤ d3 ∧ d3 ≤ 9223372036854775807)
    (h7 : Own w7 ((wk.setCell ⟨gl, 0, none⟩ (.slice A4 X.length c4)).setCell ⟨gb, 0, none⟩ (.slice B3 R3.length d3)).heap.size 5 A7 c7 X) (hb7 : Below ((wk.setCell ⟨gl, 0, none⟩ (.slice A4 X.length c4)).setCell ⟨gb, 0, none⟩ (.slice B3 R3.length d3)).heap.size ((wk.setCell ⟨gl, 0, none⟩ (.slice A4 X.length c4)).setCell ⟨gb, 0, none⟩ (.slice B3 R3.length d3)) w7) :
    NextOk w base gb gl ⟨X, v⟩ R3 ⟨A7, c7, X, A3, c3, v⟩ B3 d3 A4 c4 ((w7.setCell ⟨w.heap.size, 0, none⟩ a1).setCell ⟨w.heap.size, 1, none⟩ a2) := by
  obtain ⟨w6, hw6⟩ : ∃ w6, w6 = (wk.setCell ⟨gl, 0, none⟩ (.slice A4 X.length c4)).setCell ⟨gb, 0, none⟩ (.slice B3 R3.length d3) := ⟨_, rfl⟩
  rw [← hw6] at h7 hb7
  have hH : w.heap.size < wk.heap.size := (Array.getElem?_eq_some_iff.1 hcw).1
  have hz6 : w6.heap.size = wk.heap.size := by rw [hw6]; simp
  have k6 : ∀ k, k ≠ gb → k ≠ gl → w6.heap[k]? = wk.heap[k]? := fun k h1 h2 => by rw [hw6, heap_setD _ h1, heap_setD _ h2]
  have hbx' : (wk.setCell ⟨gl, 0, none⟩ (.slice A4 X.length c4)).heap[gb]? = some (.cells #[z] 25) := (heap_setD _ hne).trans hbx
  have x6 : w6.heap[gb]? = some (.cells #[.slice B3 R3.length d3] 25) := by rw [hw6]; exact box_set hbx' _
  have y6 : w6.heap[gl]? = some (.cells #[.slice A4 X.length c4] 25) := by rw [hw6, heap_setD _ (fun e => hne e.symm)]; exact box_set hlx _
  have d25 : 25 ≠ 5 := by decide
  have o6 : ∀ {A : Option Addr} {c : Nat} {l : List UInt8}, Own wk w.heap.size 5 A c l → Own w6 w.heap.size 5 A c l := fun h => by
    rw [hw6]; exact own_set_tag (own_set_tag h hlx d25) hbx' d25
  have r6 : HBs w6 base B3 R3 := by rw [hw6]; exact (hR.set_tag hlx d25 hgl).set_tag hbx' d25 hgb
  have c6 : w6.heap[w.heap.size]? = some (.cells #[x, y] 48) := (k6 _ (by omega) (by omega)).trans hcw
  have c7' := (hb7.block _ (by omega)).trans c6
  have dP : 48 ≠ 5 := by decide
  have c7b : (w7.setCell ⟨w.heap.size, 0, none⟩ a1).heap[w.heap.size]? = some (.cells #[a1, y] 48) := by
    have h1 := heap_setCell_same w7 w.heap.size 0 _ 48 a1 c7'
    simpa using h1
  have o8 : ∀ {A : Option Addr} {c : Nat} {l : List UInt8} {B : Nat}, Own w7 B 5 A c l → Own ((w7.setCell ⟨w.heap.size, 0, none⟩ a1).setCell ⟨w.heap.size, 1, none⟩ a2) B 5 A c l := fun h => own_set_tag (own_set_tag h c7' dP) c7b dP
  have hz7 := hb7.size
  refine ⟨?_, ?_, rfl, (o8 h7).mono (by omega), o8 ((o6 hV).below hb7), o8 ((o6 hX).below hb7), ((r6.below hb7).set_tag c7' dP (by omega)).set_tag c7b dP (by omega), hcap, by simp; omega, fun k hk h1 h2 => ?_, ?_⟩
  · rw [heap_setD _ (by simp; omega), heap_setD _ (by simp; omega)]; exact (hb7.block _ (by omega)).trans x6
  · rw [heap_setD _ (by simp; omega), heap_setD _ (by simp; omega)]; exact (hb7.block _ (by omega)).trans y6
  · rw [heap_setD _ (by simp; omega), heap_setD _ (by simp; omega), hb7.block _ (by omega), k6 k h1 h2]
    exact hB.block k hk
  · have b6 : Below base w w6 := by rw [hw6]; exact ((hB.mono (by omega)).setCell (by simpa using hgl) _).setCell (by simpa using hgb) _
    exact ((b6.trans (hb7.mono (by omega))).setCell (by simp; omega) _).setCell (by simp; omega) _
theorem nextP_no {w w' : World} {base gb gl : Nat} {v : Option (Pr × List UInt8)} (hv : v = none) (hb : Below w.heap.size w w') : NextP w base gb gl v (.returned (.tuple #[.agg #[.slice none 0 0, .slice none 0 0], .slice none 0 0, .int .i64 3])) w' := by
  subst hv; exact ⟨3, by decide, rfl, hb⟩
set_option maxHeartbeats 4000000 in
set_option maxRecDepth 100000 in
theorem next_false (gb gl base : Nat) (r : List UInt8) (B : Option Addr) (d : Nat) (last : List UInt8) (LA : Option Addr) (LC : Nat) (w : World) (hbx : w.heap[gb]? = some (.cells #[.slice B r.length d] 25)) (hlx : w.heap[gl]? = some (.cells #[.slice LA last.length LC] 25))
    (hr : HBs w base B r) (hrd : r.length ≤ d) (hdd : d ≤ 9223372036854775807) (hla : Own w base 5 LA LC last) (hne : gb ≠ gl) (hgb : base ≤ gb) (hgl : base ≤ gl) (h1 : r.length ≤ 1000000) (h2 : last.length ≤ 1000000) (hr0 : r ≠ []) :
    Calls Tryd.prog 78 #[.bool false, .pointer (some ⟨gb, 0, none⟩), .pointer (some ⟨gl, 0, none⟩)] w (NextP w base gb gl (Blk.nextP false last r)) := by
  obtain ⟨W, hW⟩ : ∃ W, W = w.alloc (.cells #[.slice none 0 0, .slice none 0 0] 48) := ⟨_, rfl⟩
  have hbW : Below w.heap.size w W := by rw [hW]; exact (Below.refl _ _).alloc (Nat.le_refl _) _
  have hHW : W.heap[w.heap.size]? = some (.cells #[.slice none 0 0, .slice none 0 0] 48) := by rw [hW]; exact heap_alloc_new _ _
  have hgbl : gb < w.heap.size := (Array.getElem?_eq_some_iff.1 hbx).1
  have hgll : gl < w.heap.size := (Array.getElem?_eq_some_iff.1 hlx).1
  have hbX := (hbW.block _ hgbl).trans hbx
  have hlX := (hbW.block _ hgll).trans hlx
  have r0 := box_cell hbX
  have HLX := Lib.hid hlX
  have HBX := Lib.hid hbX
  have HR := Lib.hid (hr.below hbW)
  have HLA := Lib.hid (hla.below hbW)
  have HBW := Lib.hid hbW
  have HHW := Lib.hid hHW
  have hzW : W.heap.size = w.heap.size + 1 := by rw [hW]; simp
  have HZW := Lib.hid hzW
  have HR0 := Lib.hid hr0
  have hbase : base ≤ w.heap.size := by omega
  have hgbW : gb < W.heap.size := by omega
  have hglW : gl < W.heap.size := by omega
  have KT := takeF_any B d r W HR.out.rd (by omega) hrd hdd
  clear hbx hlx hr hla hbW hHW hr0 hbX hlX hzW
  rw [hW] at r0
  cases ht : Cod.take r with
  | none =>
    rw [ht] at KT
    have HT := Lib.hid ht
    have HK := Lib.hid KT
    clear KT ht
    go_enter Tryd.func78, Tryd.ntmps78
    go_wp2_with fail
    rw [← hW]
    refine HK.out.mono ?_
    rintro e w1 ⟨hb1, rfl⟩
    have HB1 := Lib.hid hb1
    clear hb1 r0 hW
    have HN : Hid (Blk.nextP false last r = none) := Lib.hid (Blk.nextP_no1 HT.out)
    have hcw := (HB1.out.block w.heap.size (by have := HZW.out; omega)).trans HHW.out
    have HCW := Lib.hid hcw
    have q0 := cell_of_row w1 w.heap.size 0 _ _ (0, 0) hcw
    have q1 := cell_of_row w1 w.heap.size 1 _ _ (0, 0) hcw
    have f0 := frozen_of_row w1 w.heap.size 0 _ _ hcw
    have f1 := frozen_of_row w1 w.heap.size 1 _ _ hcw
    simp only [List.getElem?_toArray, List.getElem?_cons_zero, List.getElem?_cons_succ] at q0 q1
    clear hcw
    have HFB := Lib.hid (HBW.out.trans (HB1.out.mono HBW.out.size))
    go_wp2_with fail
    refine bodyPost_ret (results_c3 rfl _ _ w.heap.size 48 #[.slice none 0 0, .slice none 0 0] _ _ rfl (heap_set2 HCW.out) Tryd.underlying48 rfl pair2_size) rfl ?_
    exact nextP_no HN.out ((HFB.out.setCell (by simp) _).setCell (by simp) _)
  | some v1 =>
    obtain ⟨n, R1⟩ := v1
    rw [ht] at KT
    have HT1 := Lib.hid ht
    have HK := Lib.hid KT
    have hn64 := (Cod.take_bound ht).1
    have hR1 := (Cod.take_bound ht).2
    clear KT ht
    go_enter Tryd.func78, Tryd.ntmps78
    go_wp2_with fail
    rw [← hW]
    refine HK.out.mono ?_
    rintro e w1 ⟨hb1, B1, d1, rfl, hd1, hdd1, hr1, hf1⟩
    have HB1 := Lib.hid hb1
    have HR1 := Lib.hid (HR.out.frs HR0.out hb1 hf1 hr1)
    have lx1 := box_cell ((hb1.block _ hglW).trans HLX.out)
    have HLA1 := Lib.hid (HLA.out.below hb1)
    clear hb1 r0 hW hr1 hf1
    by_cases hnl : (last.length : Int) < (n : Int)
    · have hll : IntKind.u64.wrap (last.length : Int) = (last.length : Int) := by rw [IntKind.wrap_u64]; omega
      have HN : Hid (Blk.nextP false last r = none) := Lib.hid (Blk.nextP_no2 HT1.out (by omega))
      have hcw := (HB1.out.block w.heap.size (by have := HZW.out; omega)).trans HHW.out
      have HCW := Lib.hid hcw
      have q0 := cell_of_row w1 w.heap.size 0 _ _ (0, 0) hcw
      have q1 := cell_of_row w1 w.heap.size 1 _ _ (0, 0) hcw
      have f0 := frozen_of_row w1 w.heap.size 0 _ _ hcw
      have f1 := frozen_of_row w1 w.heap.size 1 _ _ hcw
      simp only [List.getElem?_toArray, List.getElem?_cons_zero, List.getElem?_cons_succ] at q0 q1
      clear hcw
      have HFB := Lib.hid (HBW.out.trans (HB1.out.mono HBW.out.size))
      go_wp2_with fail
      refine bodyPost_ret (results_c3 rfl _ _ w.heap.size 48 #[.slice none 0 0, .slice none 0 0] _ _ rfl (heap_set2 HCW.out) Tryd.underlying48 rfl pair2_size) rfl ?_
      exact nextP_no HN.out ((HFB.out.setCell (by simp) _).setCell (by simp) _)
    have KT := takeTextS_any B1 d1 R1 w1 HR1.out.rd (by omega) hd1 hdd1
    cases ht : cutT (Cod.take R1) with
    | none =>
      rw [ht] at KT
      have HT2 := Lib.hid ht
      have HK := Lib.hid KT
      clear KT ht
      go_wp2_with fail
      refine HK.out.mono ?_
      rintro e w2 ⟨hb2, rfl⟩
      have HB2 := Lib.hid (HB1.out.trans (hb2.mono HB1.out.size))
      clear hb2 lx1
      have HN : Hid (Blk.nextP false last r = none) := Lib.hid (Blk.nextP_no3 HT1.out (by omega) (fun h => by cases h) HT2.out)
      have hcw := (HB2.out.block w.heap.size (by have := HZW.out; omega)).trans HHW.out
      have HCW := Lib.hid hcw
      have q0 := cell_of_row w2 w.heap.size 0 _ _ (0, 0) hcw
      have q1 := cell_of_row w2 w.heap.size 1 _ _ (0, 0) hcw
      have f0 := frozen_of_row w2 w.heap.size 0 _ _ hcw
      have f1 := frozen_of_row w2 w.heap.size 1 _ _ hcw
      simp only [List.getElem?_toArray, List.getElem?_cons_zero, List.getElem?_cons_succ] at q0 q1
      clear hcw
      have HFB := Lib.hid (HBW.out.trans (HB2.out.mono HBW.out.size))
      go_wp2_with fail
      refine bodyPost_ret (results_c3 rfl _ _ w.heap.size 48 #[.slice none 0 0, .slice none 0 0] _ _ rfl (heap_set2 HCW.out) Tryd.underlying48 rfl pair2_size) rfl ?_
      exact nextP_no HN.out ((HFB.out.setCell (by simp) _).setCell (by simp) _)
    | some v2 =>
      obtain ⟨k, R2⟩ := v2
      rw [ht] at KT
      have HT2 := Lib.hid ht
      have HK := Lib.hid KT
      have e2 := Frm.cutT_text ht
      have hR2 : R2.length + k.length + 1 ≤ R1.length := by rw [e2, List.length_append]; unfold Cod.text Cod.number; simp; omega
      clear KT ht e2
      go_wp2_with fail
      refine HK.out.mono ?_
      rintro e w2 ⟨hb2, A2, c2, B2, d2, rfl, ho2, hr2, hd2, hdd2, hf2⟩
      have hne1 : R1 ≠ [] := fun e => by have := hR2; rw [e] at this; simp at this
      have HB2 := Lib.hid (HB1.out.trans (hb2.mono HB1.out.size))
      have HR2 := Lib.hid (HR1.out.frs hne1 hb2 hf2 hr2)
      have HLA2 := Lib.hid (HLA1.out.below hb2)
      have HK2 := Lib.hid (ho2.mono HB1.out.size)
      clear hb2 lx1 ho2 hr2 hf2 hne1
      have KT := takeTextS_any B2 d2 R2 w2 HR2.out.rd (by omega) hd2 hdd2
      cases ht : cutT (Cod.take R2) with
      | none =>
        rw [ht] at KT
        have HT3 := Lib.hid ht
        have HK := Lib.hid KT
        clear KT ht
        go_wp2_with fail
        refine HK.out.mono ?_
        rintro e w3 ⟨hb3, rfl⟩
        have HB3 := Lib.hid (HB2.out.trans (hb3.mono HB2.out.size))
        clear hb3
        have HN : Hid (Blk.nextP false last r = none) := Lib.hid (Blk.nextP_no4 HT1.out (by omega) (fun h => by cases h) HT2.out HT3.out)
        have hcw := (HB3.out.block w.heap.size (by have := HZW.out; omega)).trans HHW.out
        have HCW := Lib.hid hcw
        have q0 := cell_of_row w3 w.heap.size 0 _ _ (0, 0) hcw
        have q1 := cell_of_row w3 w.heap.size 1 _ _ (0, 0) hcw
        have f0 := frozen_of_row w3 w.heap.size 0 _ _ hcw
        have f1 := frozen_of_row w3 w.heap.size 1 _ _ hcw
        simp only [List.getElem?_toArray, List.getElem?_cons_zero, List.getElem?_cons_succ] at q0 q1
        clear hcw
        have HFB := Lib.hid (HBW.out.trans (HB3.out.mono HBW.out.size))
        go_wp2_with fail
        refine bodyPost_ret (results_c3 rfl _ _ w.heap.size 48 #[.slice none 0 0, .slice none 0 0] _ _ rfl (heap_set2 HCW.out) Tryd.underlying48 rfl pair2_size) rfl ?_
        exact nextP_no HN.out ((HFB.out.setCell (by simp) _).setCell (by simp) _)
      | some v3 =>
        obtain ⟨v, R3⟩ := v3
        rw [ht] at KT
        have HT3 := Lib.hid ht
        have HK := Lib.hid KT
        have e3 := Frm.cutT_text ht
        have hR3 : R3.length + v.length + 1 ≤ R2.length := by rw [e3, List.length_append]; unfold Cod.text Cod.number; simp; omega
        clear KT ht e3
        go_wp2_with fail
        refine HK.out.mono ?_
        rintro e w3 ⟨hb3, A3, c3, B3, d3, rfl, ho3, hr3, hd3, hdd3, hf3⟩
        have hne2 : R2 ≠ [] := fun e => by have := hR3; rw [e] at this; simp at this
        have HB3 := Lib.hid (HB2.out.trans (hb3.mono HB2.out.size))
        have HR3 := Lib.hid (HR2.out.frs hne2 hb3 hf3 hr3)
        have HLA3 := Lib.hid (HLA2.out.below hb3)
        have HK3 := Lib.hid (HK2.out.below hb3)
        have HV3 := Lib.hid (ho3.mono (Nat.le_trans HBW.out.size HB2.out.size))
        have lx3 := box_cell ((HB3.out.block _ hglW).trans HLX.out)
        clear hb3 ho3 hr3 hf3 hne2
        have hn0 : (0 : Int) ≤ (n : Int) := by omega
        have hlc := HLA3.out.cap
        have hlcc := HLA3.out.cap_le
        have hn1 : (n : Int) ≤ (LC : Int) := by omega
        have htl : (last.take n).length = n := by rw [List.length_take]; omega
        have KC := Lib.hid (concat_two LA A2 n LC c2 (last.take n) k w3 htl.symm (HLA3.out.rd.take (by omega)) HK3.out.rd (by omega))
        obtain ⟨X, hX⟩ : ∃ X, X = last.take n ++ k := ⟨_, rfl⟩
        have hXl : X.length ≤ 2000000 := by rw [hX, List.length_append, htl]; omega
        rw [← hX] at KC
        have HXE := Lib.hid hX
        clear htl hX
        go_wp2_with fail
        refine KC.out.mono ?_
        rintro e w4 ⟨A4, c4, rfl, ho4, hb4⟩
        have hz4 : w3.heap.size + 1 ≤ w4.heap.size := by have := hb4.size; simpa using this
        have hb34 : Below w3.heap.size w3 w4 := ((Below.refl _ _).alloc (Nat.le_refl _) _).trans (hb4.mono (by simp))
        have HB4 := Lib.hid (HB3.out.trans (hb34.mono HB3.out.size))
        have HR4 := Lib.hid (HR3.out.below hb34)
        have HLA4 := Lib.hid (HLA3.out.below hb34)
        have HV4 := Lib.hid (HV3.out.below hb34)
        have hws : w.heap.size ≤ w3.heap.size := Nat.le_trans HBW.out.size HB3.out.size
        have HX4 : Hid (Own w4 w.heap.size 5 A4 c4 X) := Lib.hid (ho4.mono (by simp; omega))
        have HCAP : Hid (R3.length ≤ d3 ∧ d3 ≤ 9223372036854775807) := Lib.hid ⟨hd3, hdd3⟩
        clear ho4 hb4 hb34 lx3 KC
        have lx4 := box_cell ((HB4.out.block _ hglW).trans HLX.out)
        obtain ⟨CV, hCV⟩ : ∃ CV, CV = Lib.compareBytes X last := ⟨_, rfl⟩
        have KCV := Lib.hid (bcmp_any w4.heap.size A4 c4 X w4.heap.size LA LC last w4 HX4.out.rd HLA4.out.rd)
        rw [← hCV] at KCV
        have HCV := Lib.hid hCV
        clear hCV
        by_cases hcv : CV ≤ 0
        · have hcv2 : decide (CV ≤ 0) = true := decide_eq_true hcv
          go_wp2_with fail
          refine KCV.out.mono ?_
          rintro e w5 ⟨rfl, rfl⟩
          clear lx4
          have HN : Hid (Blk.nextP false last r = none) := Lib.hid (Blk.nextP_no5 HT1.out (by omega) (fun h => by cases h) HT2.out HT3.out rfl (.inl (by rw [← HXE.out, ← HCV.out]; exact hcv)))
          have hcw := (HB4.out.block w.heap.size (by have := HZW.out; omega)).trans HHW.out
          have HCW := Lib.hid hcw
          have q0 := cell_of_row w4 w.heap.size 0 _ _ (0, 0) hcw
          have q1 := cell_of_row w4 w.heap.size 1 _ _ (0, 0) hcw
          have f0 := frozen_of_row w4 w.heap.size 0 _ _ hcw
          have f1 := frozen_of_row w4 w.heap.size 1 _ _ hcw
          simp only [List.getElem?_toArray, List.getElem?_cons_zero, List.getElem?_cons_succ] at q0 q1
          clear hcw
          have HFB := Lib.hid (HBW.out.trans (HB4.out.mono HBW.out.size))
          go_wp2_with fail
          refine bodyPost_ret (results_c3 rfl _ _ w.heap.size 48 #[.slice none 0 0, .slice none 0 0] _ _ rfl (heap_set2 HCW.out) Tryd.underlying48 rfl pair2_size) rfl ?_
          exact nextP_no HN.out ((HFB.out.setCell (by simp) _).setCell (by simp) _)
        obtain ⟨CM, hCM⟩ : ∃ CM, CM = Blk.common X last := ⟨_, rfl⟩
        have KCM := Lib.hid (common_any A4 c4 X LA LC last w4 HX4.out.rd HLA4.out.rd (by omega) (by omega))
        rw [← hCM] at KCM
        have HCM := Lib.hid hCM
        have hcv2 : decide (CV ≤ 0) = false := decide_eq_false hcv
        have hnw : IntKind.i64.wrap (n : Int) = (n : Int) := by rw [IntKind.wrap_i64]; omega
        clear hCM
        by_cases hcm : CM = n
        · subst hcm
          have HGC : Hid (¬ (Lib.compareBytes (last.take CM ++ k) last ≤ 0 ∨ Blk.common (last.take CM ++ k) last ≠ CM)) := Lib.hid (by
            rw [← HXE.out, ← HCV.out, ← HCM.out]
            rintro (h | h)
            · exact hcv h
            · exact h rfl)
          go_wp2_with fail
          refine KCV.out.mono ?_
          rintro e w5 ⟨rfl, rfl⟩
          go_wp2_with fail
          refine KCM.out.mono ?_
          rintro e w5 ⟨rfl, hb5⟩
          have HB5 := Lib.hid (HB4.out.trans (hb5.mono HB4.out.size))
          have HR5 := Lib.hid (HR4.out.below hb5)
          have HV5 := Lib.hid (HV4.out.below hb5)
          have HX5 := Lib.hid (HX4.out.below hb5)
          clear hb5 lx4
          have HN : Hid (Blk.nextP false last r = some (⟨X, v⟩, R3)) := Lib.hid (by rw [HXE.out]; exact Blk.nextP_yes HT1.out (by omega) (fun h => by cases h) HT2.out HT3.out (fun _ => HGC.out))
          have hbxk := (HB5.out.block _ hgbW).trans HBX.out
          have hlxk := (HB5.out.block _ hglW).trans HLX.out
          have bxf := box_frozen hbxk
          have bxc := box_cell hbxk
          have lxf := box_frozen hlxk
          have lxc := box_cell hlxk
          have hcwk := (HB5.out.block w.heap.size (by have := HZW.out; omega)).trans HHW.out
          have HBXK := Lib.hid hbxk
          have HLXK := Lib.hid hlxk
          have HCWK := Lib.hid hcwk
          have d25 : 25 ≠ 5 := by decide
          have hbx2 : (w5.setCell ⟨gl, 0, none⟩ (.slice A4 X.length c4)).heap[gb]? = some (.cells #[.slice B r.length d] 25) := (heap_setD _ hne).trans hbxk
          have KK := Lib.hid (clone_any A4 c4 X ((w5.setCell ⟨gl, 0, none⟩ (.slice A4 X.length c4)).setCell ⟨gb, 0, none⟩ (.slice B3 R3.length d3)) (own_set_tag (own_set_tag HX5.out hlxk d25) hbx2 d25).rd (by omega))
          have hng1 : gl ≠ gb := fun e => hne e.symm
          clear hbxk hlxk hcwk hbx2 d25
          go_wp2_with fail
          refine KK.out.mono ?_
          rintro e w7 ⟨A7, c7, rfl, ho7, hb7⟩
          have HO7 := Lib.hid ho7
          have HB7 := Lib.hid hb7
          have hc7 : w7.heap[w.heap.size]? = some (.cells #[.slice none 0 0, .slice none 0 0] 48) := (hb7.block _ (by simp; have h1 := (Array.getElem?_eq_some_iff.1 HCWK.out).1; omega)).trans ((heap_setD _ (by simp; omega)).trans ((heap_setD _ (by simp; omega)).trans HCWK.out))
          have HC7 := Lib.hid hc7
          have q0 := cell_of_row w7 w.heap.size 0 _ _ (0, 0) hc7
          have q1 := cell_of_row w7 w.heap.size 1 _ _ (0, 0) hc7
          have f0 := frozen_of_row w7 w.heap.size 0 _ _ hc7
          have f1 := frozen_of_row w7 w.heap.size 1 _ _ hc7
          simp only [List.getElem?_toArray, List.getElem?_cons_zero, List.getElem?_cons_succ] at q0 q1
          have HOK := fun a1 a2 => Lib.hid (nextOk_mk (a1 := a1) (a2 := a2) (HBW.out.trans (HB5.out.mono HBW.out.size)) HCWK.out HBXK.out HLXK.out hne hgb hgl hgbl hgll HX5.out HV5.out HR5.out HCAP.out HO7.out HB7.out)
          clear ho7 hb7 hc7 KK bxf bxc lxf lxc
          go_wp2_with fail
          refine bodyPost_ret (results_c3 rfl _ _ w.heap.size 48 #[.slice A7 X.length c7, .slice A3 v.length c3] _ _ rfl (heap_set2 HC7.out) Tryd.underlying48 rfl pair2_size) rfl ?_
          rw [HN.out]
          exact ⟨⟨A7, c7, X, A3, c3, v⟩, B3, d3, A4, c4, rfl, (HOK _ _).out⟩
        · have hcm1 : ((CM : Int) == (n : Int)) = false := by simp; omega
          have hcm2 : ((CM : Int) != (n : Int)) = true := by simp; omega
          go_wp2_with fail
          refine KCV.out.mono ?_
          rintro e w5 ⟨rfl, rfl⟩
          go_wp2_with fail
          refine KCM.out.mono ?_
          rintro e w5 ⟨rfl, hb5⟩
          have HB5 := Lib.hid (HB4.out.trans (hb5.mono HB4.out.size))
          clear hb5 lx4
          have HN : Hid (Blk.nextP false last r = none) := Lib.hid (Blk.nextP_no5 HT1.out (by omega) (fun h => by cases h) HT2.out HT3.out rfl (.inr (by rw [← HXE.out, ← HCM.out]; exact hcm)))
          have hcw := (HB5.out.block w.heap.size (by have := HZW.out; omega)).trans HHW.out
          have HCW := Lib.hid hcw
          have q0 := cell_of_row w5 w.heap.size 0 _ _ (0, 0) hcw
          have q1 := cell_of_row w5 w.heap.size 1 _ _ (0, 0) hcw
          have f0 := frozen_of_row w5 w.heap.size 0 _ _ hcw
          have f1 := frozen_of_row w5 w.heap.size 1 _ _ hcw
          simp only [List.getElem?_toArray, List.getElem?_cons_zero, List.getElem?_cons_succ] at q0 q1
          clear hcw
          have HFB := Lib.hid (HBW.out.trans (HB5.out.mono HBW.out.size))
          go_wp2_with fail
          refine bodyPost_ret (results_c3 rfl _ _ w.heap.size 48 #[.slice none 0 0, .slice none 0 0] _ _ rfl (heap_set2 HCW.out) Tryd.underlying48 rfl pair2_size) rfl ?_
          exact nextP_no HN.out ((HFB.out.setCell (by simp) _).setCell (by simp) _)
set_option maxHeartbeats 4000000 in
set_option maxRecDepth 100000 in
theorem next_true (gb gl base : Nat) (r : List UInt8) (B : Option Addr) (d : Nat) (last : List UInt8) (LA : Option Addr) (LC : Nat) (w : World) (hbx : w.heap[gb]? = some (.cells #[.slice B r.length d] 25)) (hlx : w.heap[gl]? = some (.cells #[.slice LA last.length LC] 25))
    (hr : HBs w base B r) (hrd : r.length ≤ d) (hdd : d ≤ 9223372036854775807) (hla : Own w base 5 LA LC last) (hne : gb ≠ gl) (hgb : base ≤ gb) (hgl : base ≤ gl) (h1 : r.length ≤ 1000000) (h2 : last.length ≤ 1000000) (hr0 : r ≠ []) :
    Calls Tryd.prog 78 #[.bool true, .pointer (some ⟨gb, 0, none⟩), .pointer (some ⟨gl, 0, none⟩)] w (NextP w base gb gl (Blk.nextP true last r)) := by
  obtain ⟨W, hW⟩ : ∃ W, W = w.alloc (.cells #[.slice none 0 0, .slice none 0 0] 48) := ⟨_, rfl⟩
  have hbW : Below w.heap.size w W := by rw [hW]; exact (Below.refl _ _).alloc (Nat.le_refl _) _
  have hHW : W.heap[w.heap.size]? = some (.cells #[.slice none 0 0, .slice none 0 0] 48) := by rw [hW]; exact heap_alloc_new _ _
  have hgbl : gb < w.heap.size := (Array.getElem?_eq_some_iff.1 hbx).1
  have hgll : gl < w.heap.size := (Array.getElem?_eq_some_iff.1 hlx).1
  have hbX := (hbW.block _ hgbl).trans hbx
  have hlX := (hbW.block _ hgll).trans hlx
  have r0 := box_cell hbX
  have HLX := Lib.hid hlX
  have HBX := Lib.hid hbX
  have HR := Lib.hid (hr.below hbW)
  have HLA := Lib.hid (hla.below hbW)
  have HBW := Lib.hid hbW
  have HHW := Lib.hid hHW
  have hzW : W.heap.size = w.heap.size + 1 := by rw [hW]; simp
  have HZW := Lib.hid hzW
  have HR0 := Lib.hid hr0
  have hbase : base ≤ w.heap.size := by omega
  have hgbW : gb < W.heap.size := by omega
  have hglW : gl < W.heap.size := by omega
  have KT := takeF_any B d r W HR.out.rd (by omega) hrd hdd
  clear hbx hlx hr hla hbW hHW hr0 hbX hlX hzW
  rw [hW] at r0
  cases ht : Cod.take r with
  | none =>
    rw [ht] at KT
    have HT := Lib.hid ht
    have HK := Lib.hid KT
    clear KT ht
    go_enter Tryd.func78, Tryd.ntmps78
    go_wp2_with fail
    rw [← hW]
    refine HK.out.mono ?_
    rintro e w1 ⟨hb1, rfl⟩
    have HB1 := Lib.hid hb1
    clear hb1 r0 hW
    have HN : Hid (Blk.nextP true last r = none) := Lib.hid (Blk.nextP_no1 HT.out)
    have hcw := (HB1.out.block w.heap.size (by have := HZW.out; omega)).trans HHW.out
    have HCW := Lib.hid hcw
    have q0 := cell_of_row w1 w.heap.size 0 _ _ (0, 0) hcw
    have q1 := cell_of_row w1 w.heap.size 1 _ _ (0, 0) hcw
    have f0 := frozen_of_row w1 w.heap.size 0 _ _ hcw
    have f1 := frozen_of_row w1 w.heap.size 1 _ _ hcw
    simp only [List.getElem?_toArray, List.getElem?_cons_zero, List.getElem?_cons_succ] at q0 q1
    clear hcw
    have HFB := Lib.hid (HBW.out.trans (HB1.out.mono HBW.out.size))
    go_wp2_with fail
    refine bodyPost_ret (results_c3 rfl _ _ w.heap.size 48 #[.slice none 0 0, .slice none 0 0] _ _ rfl (heap_set2 HCW.out) Tryd.underlying48 rfl pair2_size) rfl ?_
    exact nextP_no HN.out ((HFB.out.setCell (by simp) _).setCell (by simp) _)
  | some v1 =>
    obtain ⟨n, R1⟩ := v1
    rw [ht] at KT
    have HT1 := Lib.hid ht
    have HK := Lib.hid KT
    have hn64 := (Cod.take_bound ht).1
    have hR1 := (Cod.take_bound ht).2
    clear KT ht
    go_enter Tryd.func78, Tryd.ntmps78
    go_wp2_with fail
    rw [← hW]
    refine HK.out.mono ?_
    rintro e w1 ⟨hb1, B1, d1, rfl, hd1, hdd1, hr1, hf1⟩
    have HB1 := Lib.hid hb1
    have HR1 := Lib.hid (HR.out.frs HR0.out hb1 hf1 hr1)
    have lx1 := box_cell ((hb1.block _ hglW).trans HLX.out)
    have HLA1 := Lib.hid (HLA.out.below hb1)
    clear hb1 r0 hW hr1 hf1
    by_cases hnl : (last.length : Int) < (n : Int)
    · have hll : IntKind.u64.wrap (last.length : Int) = (last.length : Int) := by rw [IntKind.wrap_u64]; omega
      have HN : Hid (Blk.nextP true last r = none) := Lib.hid (Blk.nextP_no2 HT1.out (by omega))
      have hcw := (HB1.out.block w.heap.size (by have := HZW.out; omega)).trans HHW.out
      have HCW := Lib.hid hcw
      have q0 := cell_of_row w1 w.heap.size 0 _ _ (0, 0) hcw
      have q1 := cell_of_row w1 w.heap.size 1 _ _ (0, 0) hcw
      have f0 := frozen_of_row w1 w.heap.size 0 _ _ hcw
      have f1 := frozen_of_row w1 w.heap.size 1 _ _ hcw
      simp only [List.getElem?_toArray, List.getElem?_cons_zero, List.getElem?_cons_succ] at q0 q1
      clear hcw
      have HFB := Lib.hid (HBW.out.trans (HB1.out.mono HBW.out.size))
      go_wp2_with fail
      refine bodyPost_ret (results_c3 rfl _ _ w.heap.size 48 #[.slice none 0 0, .slice none 0 0] _ _ rfl (heap_set2 HCW.out) Tryd.underlying48 rfl pair2_size) rfl ?_
      exact nextP_no HN.out ((HFB.out.setCell (by simp) _).setCell (by simp) _)
    by_cases hn0' : (0 : Int) < (n : Int)
    · have HN : Hid (Blk.nextP true last r = none) := Lib.hid (Blk.nextP_no2t HT1.out (by omega))
      have hcw := (HB1.out.block w.heap.size (by have := HZW.out; omega)).trans HHW.out
      have HCW := Lib.hid hcw
      have q0 := cell_of_row w1 w.heap.size 0 _ _ (0, 0) hcw
      have q1 := cell_of_row w1 w.heap.size 1 _ _ (0, 0) hcw
      have f0 := frozen_of_row w1 w.heap.size 0 _ _ hcw
      have f1 := frozen_of_row w1 w.heap.size 1 _ _ hcw
      simp only [List.getElem?_toArray, List.getElem?_cons_zero, List.getElem?_cons_succ] at q0 q1
      clear hcw
      have HFB := Lib.hid (HBW.out.trans (HB1.out.mono HBW.out.size))
      go_wp2_with fail
      refine bodyPost_ret (results_c3 rfl _ _ w.heap.size 48 #[.slice none 0 0, .slice none 0 0] _ _ rfl (heap_set2 HCW.out) Tryd.underlying48 rfl pair2_size) rfl ?_
      exact nextP_no HN.out ((HFB.out.setCell (by simp) _).setCell (by simp) _)
    have KT := takeTextS_any B1 d1 R1 w1 HR1.out.rd (by omega) hd1 hdd1
    cases ht : cutT (Cod.take R1) with
    | none =>
      rw [ht] at KT
      have HT2 := Lib.hid ht
      have HK := Lib.hid KT
      clear KT ht
      go_wp2_with fail
      refine HK.out.mono ?_
      rintro e w2 ⟨hb2, rfl⟩
      have HB2 := Lib.hid (HB1.out.trans (hb2.mono HB1.out.size))
      clear hb2 lx1
      have HN : Hid (Blk.nextP true last r = none) := Lib.hid (Blk.nextP_no3 HT1.out (by omega) (fun _ => by omega) HT2.out)
      have hcw := (HB2.out.block w.heap.size (by have := HZW.out; omega)).trans HHW.out
      have HCW := Lib.hid hcw
      have q0 := cell_of_row w2 w.heap.size 0 _ _ (0, 0) hcw
      have q1 := cell_of_row w2 w.heap.size 1 _ _ (0, 0) hcw
      have f0 := frozen_of_row w2 w.heap.size 0 _ _ hcw
      have f1 := frozen_of_row w2 w.heap.size 1 _ _ hcw
      simp only [List.getElem?_toArray, List.getElem?_cons_zero, List.getElem?_cons_succ] at q0 q1
      clear hcw
      have HFB := Lib.hid (HBW.out.trans (HB2.out.mono HBW.out.size))
      go_wp2_with fail
      refine bodyPost_ret (results_c3 rfl _ _ w.heap.size 48 #[.slice none 0 0, .slice none 0 0] _ _ rfl (heap_set2 HCW.out) Tryd.underlying48 rfl pair2_size) rfl ?_
      exact nextP_no HN.out ((HFB.out.setCell (by simp) _).setCell (by simp) _)
    | some v2 =>
      obtain ⟨k, R2⟩ := v2
      rw [ht] at KT
      have HT2 := Lib.hid ht
      have HK := Lib.hid KT
      have e2 := Frm.cutT_text ht
      have hR2 : R2.length + k.length + 1 ≤ R1.length := by rw [e2, List.length_append]; unfold Cod.text Cod.number; simp; omega
      clear KT ht e2
      go_wp2_with fail
      refine HK.out.mono ?_
      rintro e w2 ⟨hb2, A2, c2, B2, d2, rfl, ho2, hr2, hd2, hdd2, hf2⟩
      have hne1 : R1 ≠ [] := fun e => by have := hR2; rw [e] at this; simp at this
      have HB2 := Lib.hid (HB1.out.trans (hb2.mono HB1.out.size))
      have HR2 := Lib.hid (HR1.out.frs hne1 hb2 hf2 hr2)
      have HLA2 := Lib.hid (HLA1.out.below hb2)
      have HK2 := Lib.hid (ho2.mono HB1.out.size)
      clear hb2 lx1 ho2 hr2 hf2 hne1
      have KT := takeTextS_any B2 d2 R2 w2 HR2.out.rd (by omega) hd2 hdd2
      cases ht : cutT (Cod.take R2) with
      | none =>
        rw [ht] at KT
        have HT3 := Lib.hid ht
        have HK := Lib.hid KT
        clear KT ht
        go_wp2_with fail
        refine HK.out.mono ?_
        rintro e w3 ⟨hb3, rfl⟩
        have HB3 := Lib.hid (HB2.out.trans (hb3.mono HB2.out.size))
        clear hb3
        have HN : Hid (Blk.nextP true last r = none) := Lib.hid (Blk.nextP_no4 HT1.out (by omega) (fun _ => by omega) HT2.out HT3.out)
        have hcw := (HB3.out.block w.heap.size (by have := HZW.out; omega)).trans HHW.out
        have HCW := Lib.hid hcw
        have q0 := cell_of_row w3 w.heap.size 0 _ _ (0, 0) hcw
        have q1 := cell_of_row w3 w.heap.size 1 _ _ (0, 0) hcw
        have f0 := frozen_of_row w3 w.heap.size 0 _ _ hcw
        have f1 := frozen_of_row w3 w.heap.size 1 _ _ hcw
        simp only [List.getElem?_toArray, List.getElem?_cons_zero, List.getElem?_cons_succ] at q0 q1
        clear hcw
        have HFB := Lib.hid (HBW.out.trans (HB3.out.mono HBW.out.size))
        go_wp2_with fail
        refine bodyPost_ret (results_c3 rfl _ _ w.heap.size 48 #[.slice none 0 0, .slice none 0 0] _ _ rfl (heap_set2 HCW.out) Tryd.underlying48 rfl pair2_size) rfl ?_
        exact nextP_no HN.out ((HFB.out.setCell (by simp) _).setCell (by simp) _)
      | some v3 =>
        obtain ⟨v, R3⟩ := v3
        rw [ht] at KT
        have HT3 := Lib.hid ht
        have HK := Lib.hid KT
        have e3 := Frm.cutT_text ht
        have hR3 : R3.length + v.length + 1 ≤ R2.length := by rw [e3, List.length_append]; unfold Cod.text Cod.number; simp; omega
        clear KT ht e3
        go_wp2_with fail
        refine HK.out.mono ?_
        rintro e w3 ⟨hb3, A3, c3, B3, d3, rfl, ho3, hr3, hd3, hdd3, hf3⟩
        have hne2 : R2 ≠ [] := fun e => by have := hR3; rw [e] at this; simp at this
        have HB3 := Lib.hid (HB2.out.trans (hb3.mono HB2.out.size))
        have HR3 := Lib.hid (HR2.out.frs hne2 hb3 hf3 hr3)
        have HLA3 := Lib.hid (HLA2.out.below hb3)
        have HK3 := Lib.hid (HK2.out.below hb3)
        have HV3 := Lib.hid (ho3.mono (Nat.le_trans HBW.out.size HB2.out.size))
        have lx3 := box_cell ((HB3.out.block _ hglW).trans HLX.out)
        clear hb3 ho3 hr3 hf3 hne2
        have hn0 : (0 : Int) ≤ (n : Int) := by omega
        have hlc := HLA3.out.cap
        have hlcc := HLA3.out.cap_le
        have hn1 : (n : Int) ≤ (LC : Int) := by omega
        have htl : (last.take n).length = n := by rw [List.length_take]; omega
        have KC := Lib.hid (concat_two LA A2 n LC c2 (last.take n) k w3 htl.symm (HLA3.out.rd.take (by omega)) HK3.out.rd (by omega))
        obtain ⟨X, hX⟩ : ∃ X, X = last.take n ++ k := ⟨_, rfl⟩
        have hXl : X.length ≤ 2000000 := by rw [hX, List.length_append, htl]; omega
        rw [← hX] at KC
        have HXE := Lib.hid hX
        clear htl hX
        go_wp2_with fail
        refine KC.out.mono ?_
        rintro e w4 ⟨A4, c4, rfl, ho4, hb4⟩
        have hz4 : w3.heap.size + 1 ≤ w4.heap.size := by have := hb4.size; simpa using this
        have hb34 : Below w3.heap.size w3 w4 := ((Below.refl _ _).alloc (Nat.le_refl _) _).trans (hb4.mono (by simp))
        have HB4 := Lib.hid (HB3.out.trans (hb34.mono HB3.out.size))
        have HR4 := Lib.hid (HR3.out.below hb34)
        have HLA4 := Lib.hid (HLA3.out.below hb34)
        have HV4 := Lib.hid (HV3.out.below hb34)
        have hws : w.heap.size ≤ w3.heap.size := Nat.le_trans HBW.out.size HB3.out.size
        have HX4 : Hid (Own w4 w.heap.size 5 A4 c4 X) := Lib.hid (ho4.mono (by simp; omega))
        have HCAP : Hid (R3.length ≤ d3 ∧ d3 ≤ 9223372036854775807) := Lib.hid ⟨hd3, hdd3⟩
        clear ho4 hb4 hb34 lx3 KC
        have lx4 := box_cell ((HB4.out.block _ hglW).trans HLX.out)
        have HN : Hid (Blk.nextP true last r = some (⟨X, v⟩, R3)) := Lib.hid (by rw [HXE.out]; exact Blk.nextP_yes HT1.out (by omega) (fun _ => by omega) HT2.out HT3.out (fun h => by cases h))
        have hbxk := (HB4.out.block _ hgbW).trans HBX.out
        have hlxk := (HB4.out.block _ hglW).trans HLX.out
        have bxf := box_frozen hbxk
        have bxc := box_cell hbxk
        have lxf := box_frozen hlxk
        have lxc := box_cell hlxk
        have hcwk := (HB4.out.block w.heap.size (by have := HZW.out; omega)).trans HHW.out
        have HBXK := Lib.hid hbxk
        have HLXK := Lib.hid hlxk
        have HCWK := Lib.hid hcwk
        have d25 : 25 ≠ 5 := by decide
        have hbx2 : (w4.setCell ⟨gl, 0, none⟩ (.slice A4 X.length c4)).heap[gb]? = some (.cells #[.slice B r.length d] 25) := (heap_setD _ hne).trans hbxk
        have KK := Lib.hid (clone_any A4 c4 X ((w4.setCell ⟨gl, 0, none⟩ (.slice A4 X.length c4)).setCell ⟨gb, 0, none⟩ (.slice B3 R3.length d3)) (own_set_tag (own_set_tag HX4.out hlxk d25) hbx2 d25).rd (by omega))
        have hng1 : gl ≠ gb := fun e => hne e.symm
        clear hbxk hlxk hcwk hbx2 d25
        go_wp2_with fail
        refine KK.out.mono ?_
        rintro e w7 ⟨A7, c7, rfl, ho7, hb7⟩
        have HO7 := Lib.hid ho7
        have HB7 := Lib.hid hb7
        have hc7 : w7.heap[w.heap.size]? = some (.cells #[.slice none 0 0, .slice none 0 0] 48) := (hb7.block _ (by simp; have h1 := (Array.getElem?_eq_some_iff.1 HCWK.out).1; omega)).trans ((heap_setD _ (by simp; omega)).trans ((heap_setD _ (by simp; omega)).trans HCWK.out))
        have HC7 := Lib.hid hc7
        have q0 := cell_of_row w7 w.heap.size 0 _ _ (0, 0) hc7
        have q1 := cell_of_row w7 w.heap.size 1 _ _ (0, 0) hc7
        have f0 := frozen_of_row w7 w.heap.size 0 _ _ hc7
        have f1 := frozen_of_row w7 w.heap.size 1 _ _ hc7
        simp only [List.getElem?_toArray, List.getElem?_cons_zero, List.getElem?_cons_succ] at q0 q1
        have HOK := fun a1 a2 => Lib.hid (nextOk_mk (a1 := a1) (a2 := a2) (HBW.out.trans (HB4.out.mono HBW.out.size)) HCWK.out HBXK.out HLXK.out hne hgb hgl hgbl hgll HX4.out HV4.out HR4.out HCAP.out HO7.out HB7.out)
        clear ho7 hb7 hc7 KK bxf bxc lxf lxc
        go_wp2_with fail
        refine bodyPost_ret (results_c3 rfl _ _ w.heap.size 48 #[.slice A7 X.length c7, .slice A3 v.length c3] _ _ rfl (heap_set2 HC7.out) Tryd.underlying48 rfl pair2_size) rfl ?_
        rw [HN.out]
        exact ⟨⟨A7, c7, X, A3, c3, v⟩, B3, d3, A4, c4, rfl, (HOK _ _).out⟩
end Go.Proofs.YtgafionfojnieaaDoor

namespace Go.Proofs.YtgafionfojnieaaDoor
open Go.RowKit

theorem RdS.int_at {w : World} {B : Nat} {A : Option Addr} {l : List Nat} (h : RdS Nc 1 w B A l) (hl : 0 < l.length) : ∃ b off, A = some ⟨b, off, none⟩ ∧ b < B ∧ ∀ k (hk : k < l.length), w.cell? ⟨b, off + k, none⟩ = some (.int .i64 (l[k] : Int)) := by
  obtain ⟨b, off, hA, hb, hc⟩ := RdS.row (f := Nc) (n := 1) (fun _ => rfl) (by omega) h hl
  exact ⟨b, off, hA, hb, fun k hk => by have := hc k hk 0 _ rfl; simpa using this⟩
set_option maxHeartbeats 1000000 in
set_option maxRecDepth 100000 in
theorem eqn_any (A : Option Addr) (c : Nat) (l : List Nat) (A2 : Option Addr) (c2 : Nat) (m : List Nat) (w : World) (h : RdS Nc 1 w w.heap.size A l) (h2 : RdS Nc 1 w w.heap.size A2 m) (hl : l.length ≤ 1000000) :
    Calls Tryd.prog 64 #[.slice A l.length c, .slice A2 m.length c2] w fun e w' => e = .returned (.bool (l == m)) ∧ Below w.heap.size w w' := by
  by_cases hlm : l.length = m.length
  · have HH := Lib.hid h
    have HH2 := Lib.hid h2
    have HLM := Lib.hid hlm
    rw [← hlm]
    clear h h2 hlm
    go_enter Tryd.func64, Tryd.ntmps64
    go_wp2_with fail
    go_loopw [13, 5, 15, 16, 17, 18, 19, 20, 21, 22, 23, 24] (fun i _ _ _ _ _ _ _ _ _ _ _ wr => ∃ k : Nat, k ≤ l.length ∧ i = .int .i64 (k : Int) ∧ Hid (∀ j (h1 : j < l.length) (h2 : j < m.length), j < k → l[j] = m[j]) ∧ Hid (Below w.heap.size w wr)) (fun i _ _ _ _ _ _ _ _ _ _ _ _ => l.length - (intOf i).toNat)
    case atStart => exact ⟨0, by omega, rfl, Lib.hid (fun j _ _ h => by omega), Lib.hid (Below.refl _ _)⟩
    case round =>
      obtain ⟨k, hk, rfl, HP, HB⟩ := hrel
      by_cases hlt : k < l.length
      · have hlt2 : k < m.length := by have := HLM.out; omega
        obtain ⟨b1, o1, rfl, hb1, hc1⟩ := HH.out.int_at (by omega)
        obtain ⟨b2, o2, rfl, hb2, hc2⟩ := HH2.out.int_at (by omega)
        have c1 := (HB.out.cell (p := ⟨b1, o1 + k, none⟩) hb1).trans (hc1 k hlt)
        have c2' := (HB.out.cell (p := ⟨b2, o2 + k, none⟩) hb2).trans (hc2 k hlt2)
        obtain ⟨x, hx⟩ : ∃ x, x = l[k] := ⟨_, rfl⟩
        obtain ⟨y, hy⟩ : ∃ y, y = m[k] := ⟨_, rfl⟩
        rw [← hx] at c1
        rw [← hy] at c2'
        have HXY : Hid (x = l[k] ∧ y = m[k]) := Lib.hid ⟨hx, hy⟩
        have i0 : (0 : Int) ≤ (k : Int) := by omega
        have i1 : (k : Int) < (l.length : Int) := by omega
        clear hc1 hc2 hx hy
        by_cases hxy : x = y
        · subst hxy
          have HP2 : Hid (∀ j (h1 : j < l.length) (h2 : j < m.length), j < k + 1 → l[j] = m[j]) := Lib.hid (fun j h1 h2 h3 => by
            by_cases hjk : j = k
            · subst hjk; rw [← HXY.out.1, ← HXY.out.2]
            · exact HP.out j h1 h2 (by omega))
          go_wp2_with fail
          go_quiet (fail)
          refine drewN_any ?_
          intro X hbX _
          have HBX := Lib.hid (HB.out.trans (hbX.mono HB.out.size))
          clear hbX
          go_wp2_with fail
          go_roundw
          case rel => exact ⟨k + 1, by omega, by go_num, HP2, HBX⟩
          case measure => simp [intOf]; omega
        · have HE : Hid ((l == m) = false) := Lib.hid (by
            rw [beq_eq_false_iff_ne]
            intro h
            apply hxy
            rw [HXY.out.1, HXY.out.2]
            simp only [h])
          have e1 : ((x : Int) == (y : Int)) = false := by simp; omega
          have e2 : ((x : Int) != (y : Int)) = true := by simp; omega
          clear hxy
          go_wp2_with fail
          go_quiet (fail)
          refine drewN_any ?_
          intro X hbX _
          have HBX := Lib.hid (HB.out.trans (hbX.mono HB.out.size))
          clear hbX
          go_wp2_with fail
          go_ret
          exact ⟨by rw [HE.out]; rfl, HBX.out⟩
      · have hke : k = l.length := by omega
        subst hke
        have HE : Hid ((l == m) = true) := Lib.hid (by
          rw [beq_iff_eq]
          exact List.ext_getElem HLM.out (fun i h1 h2 => HP.out i h1 h2 h1))
        go_wp2_with fail
        go_ret
        exact ⟨by rw [HE.out]; rfl, HB.out⟩
  · have e : (l == m) = false := by
      rw [beq_eq_false_iff_ne]; intro h; exact hlm (by rw [h])
    rw [e]
    have h3 : ((l.length : Int) == (m.length : Int)) = false := by simp; omega
    have h4 : ((l.length : Int) != (m.length : Int)) = true := by simp; omega
    clear h h2 e
    go_enter Tryd.func64, Tryd.ntmps64
    go_wp2_with fail
    go_ret
    exact ⟨rfl, Below.refl _ _⟩
end Go.Proofs.YtgafionfojnieaaDoor

namespace Go.Proofs.YtgafionfojnieaaDoor
open Go.RowKit

set_option maxHeartbeats 2000000 in
set_option maxRecDepth 100000 in
theorem rscan_any (A : Option Addr) (c : Nat) (b : List UInt8) (w : World) (h : RdB w w.heap.size A b) (hl : b.length ≤ 1000000000) (hc : b.length ≤ c) (hcc : c ≤ 9223372036854775807) :
    Calls Tryd.prog 29 #[.slice A b.length c] w (Scanned w b) := by
  have HH := Lib.hid h
  clear h
  go_enter Tryd.func29, Tryd.ntmps29
  go_wp2_with fail
  go_loopw [4, 5] (fun v u wr => ∃ (OA : Option Addr) (OC : Nat) (l : List Fv) (B : Option Addr) (d : Nat) (r : List UInt8), v = .slice OA l.length OC ∧ u = .slice B r.length d ∧ r.length ≤ d ∧ d ≤ 9223372036854775807 ∧ Hid (Frm.Scans b (l.map Fv.pr) r) ∧ Hid (OwnFv 62 wr w.heap.size OA OC l) ∧ Hid (RdB wr wr.heap.size B r) ∧ Hid (r ≠ [] → Off [blk OA] (blk B)) ∧ Hid (Below w.heap.size w wr)) (fun _ u _ => (match u with | .slice _ n _ => n | _ => 0))
  case atStart => exact ⟨none, 0, [], A, c, b, rfl, rfl, hc, hcc, Lib.hid (Frm.Scans.nil b), Lib.hid OwnFv.nil, HH, Lib.hid (fun _ g hg hm => by simp [blk] at hm), Lib.hid (Below.refl _ _)⟩
  case round =>
    obtain ⟨OA, OC, l, B, d, r, rfl, rfl, hrd, hdd, HS, HO, HR, HOF, HB⟩ := hrel
    have hlen := HS.out.len
    rw [List.length_map] at hlen
    have KT := rftake_any B d r wr HR.out (by omega) hrd hdd
    cases ht : Frm.take r with
    | none =>
      rw [ht] at KT
      have HK := Lib.hid KT
      have HT := Lib.hid ht
      clear KT ht
      go_wp2_with fail
      refine HK.out.mono ?_
      rintro e w1 ⟨hb1, rfl⟩
      have HO1 := Lib.hid (HO.out.call hb1)
      have HB1 := Lib.hid (HB.out.trans (hb1.mono HB.out.size))
      clear hb1
      go_wp2_with fail
      go_ret2
      have hbA : ∀ o, Below w1.heap.size w1 (w1.alloc o) := fun o => (Below.refl _ _).alloc (Nat.le_refl _) o
      exact ⟨l, r, OA, OC, HS.out, HT.out, rfl, (HO1.out.call (hbA _)).rd, HO1.out.row.cap, ownS_cap_le HO1.out.row, HB1.out.trans ((hbA _).mono HB1.out.size)⟩
    | some v =>
      obtain ⟨k, t, r'⟩ := v
      rw [ht] at KT
      have HK := Lib.hid KT
      have HT := Lib.hid ht
      clear KT ht
      go_wp2_with fail
      refine HK.out.mono ?_
      have ht2 := HT.out
      rintro e w1 ⟨hb1, A1, c1, B1, d1, rfl, ho1, hr1, hd1, hdd1, hf1⟩
      have HO1 := Lib.hid (HO.out.call hb1)
      have HB1 := Lib.hid (HB.out.trans (hb1.mono HB.out.size))
      have HS1 := Lib.hid (HS.out.step HT.out)
      have HOB := Lib.hid (ho1.mono HB.out.size)
      have HFR := Lib.hid (off_frs (HOF.out (fun e => by rw [e] at ht2; cases ht2)) HO.out.lts hf1)
      have HFT : Hid (Off [blk OA] (blk A1)) := Lib.hid (Off.fresh (n := wr.heap.size) (fun g hg => (ho1.blk_ge g hg).1) HO.out.lts)
      have HR1 := Lib.hid hr1
      clear hb1 ho1 hf1 hr1 ht2
      have FT := 62
      have HW2 : Hid (∀ o p, OwnFv 62 ((w1.alloc o).alloc p) w.heap.size OA OC l ∧ Own ((w1.alloc o).alloc p) w.heap.size 5 A1 c1 t ∧ RdB ((w1.alloc o).alloc p) ((w1.alloc o).alloc p).heap.size B1 r' ∧ Below w.heap.size w ((w1.alloc o).alloc p)) := Lib.hid (fun o p =>
        ⟨HO1.out.call (below_al2 _ _ _), HOB.out.below (below_al2 _ _ _), (HR1.out.below (below_al2 _ _ _) (Nat.le_refl _)).more (below_al2 _ _ _).size, HB1.out.trans ((below_al2 _ _ _).mono HB1.out.size)⟩)
      have hws := HB1.out.size
      clear FT
      go_wp2_with (at_builtin; refine wpList_append_s _ rfl _ _ rfrT rfl w.heap.size OA OC l rfl (HW2.out _ _).1.row (w1.heap.size + 2) (some ⟨w1.heap.size + 1, 0, none⟩) 1 1 [⟨k, A1, c1, t⟩] rfl rfl (rd_frame_new2 _ w1 _ ⟨k, A1, c1, t⟩) (by simp; omega) (by unfold maxLen; simp; omega) (by simp; omega) ?_)
      intro OA' OC' L' w9 hL ho hg hat
      rw [hL] at ho
      have HO9 := Lib.hid ((HW2.out _ _).1.app (f := ⟨k, A1, c1, t⟩) (HW2.out _ _).2.1 HFT.out ho hg (by simpa using hat))
      have HR9 := Lib.hid (rdB_kept (HW2.out _ _).2.2.1 hg (HFR.out.ne (by simp)))
      have HOF9 := Lib.hid (off_row HFR.out hat HR1.out (by omega))
      have HB9 := Lib.hid ((HW2.out _ _).2.2.2.grown hg (HW2.out _ _).2.2.2.size (fun g hgg => (HO1.out.row.blk_ge g hgg).1))
      obtain ⟨L, hL2⟩ : ∃ L, L = l ++ [(⟨k, A1, c1, t⟩ : Fv)] := ⟨_, rfl⟩
      rw [← hL2] at hL HO9
      subst hL
      have HS9 : Hid (Frm.Scans b (L'.map Fv.pr) r') := Lib.hid (by rw [hL2, List.map_append]; exact HS1.out)
      have hlt : r'.length < r.length := by
        have := (Frm.of_take HT.out).1
        have h2 := Frm.put_pos k t
        rw [this, List.length_append]; omega
      clear hL2 ho hg hat HW2 HO1 HOB HFR HR1 HS1 HS HO HR HOF HB HK HT HFT HB1 hws
      go_wp2_with fail
      go_roundw
      case rel => exact ⟨OA', OC', L', B1, d1, r', rfl, rfl, hd1, hdd1, HS9, HO9, HR9, HOF9, HB9⟩
      case measure => simpa using hlt
end Go.Proofs.YtgafionfojnieaaDoor

namespace Go.Proofs.YtgafionfojnieaaDoor
open Go.RowKit

set_option maxHeartbeats 2000000 in
set_option maxRecDepth 100000 in
theorem rparse_any (A : Option Addr) (c : Nat) (b : List UInt8) (w : World) (h : RdB w w.heap.size A b) (hl : b.length ≤ 65536) (hc : b.length ≤ c) (hcc : c ≤ 9223372036854775807) :
    Calls Tryd.prog 31 #[.slice A b.length c] w (ParsedP w b) := by
  by_cases h5 : (b.length : Int) < 5
  · have HG := Lib.hid (parsed_no (b := b) (Below.refl w.heap.size w) 3 (by decide) (Blk.WFb.small (by omega)))
    go_enter Tryd.func31, Tryd.ntmps31
    go_wp2_with fail
    go_ret2
    exact HG.out
  obtain ⟨N, hN⟩ : ∃ N, b.length = N + 5 := ⟨b.length - 5, by omega⟩
  have HH := Lib.hid h
  have HN := Lib.hid hN
  obtain ⟨g, off, rfl, hab, hcl⟩ := h.at_ (k := N + 4) (by omega)
  obtain ⟨ev, hev⟩ : ∃ ev, ev = (b[N + 4]'(by omega)).toNat := ⟨_, rfl⟩
  rw [← hev] at hcl
  have hev2 : ev < 256 := by rw [hev]; exact UInt8.toNat_lt _
  have HEV : Hid (∃ x : UInt8, b[N + 4]? = some x ∧ x.toNat = ev) := Lib.hid ⟨_, List.getElem?_eq_getElem (by omega), hev.symm⟩
  rw [hN] at hl hc h5 ⊢
  have h5' : ¬ ((N : Int) + 5 < 5) := by omega
  clear h hN hev h5
  go_enter Tryd.func31, Tryd.ntmps31
  go_wp2_with fail
  go_loop [5, 6] (fun v i => ∃ j x : Nat, j ≤ 4 ∧ i = .int .i64 ((N + j : Nat) : Int) ∧ v = .int .i64 (x : Int) ∧ Hid (x = Frm.num4 ((b.drop N).take j))) (fun _ i => N + 4 - (intOf i).toNat)
  case atStart => exact ⟨0, 0, by omega, rfl, rfl, Lib.hid rfl⟩
  case round =>
    obtain ⟨j, x, hj, rfl, rfl, HX4⟩ := hrel
    have hdl : (b.drop N).length = 5 := by rw [List.length_drop, HN.out]; omega
    by_cases hj4 : j < 4
    · obtain ⟨g3, off3, e3, _, hcj⟩ := HH.out.at_ (k := N + j) (by rw [HN.out]; omega)
      injection e3 with e3
      injection e3 with e4 e5
      subst e4 e5
      have hx24 : x < 16777216 := by
        have h1 := Frm.num4_lt ((b.drop N).take j) 0
        rw [HX4.out]
        unfold Frm.num4
        have h2 : ((b.drop N).take j).length ≤ 3 := by rw [List.length_take]; omega
        have h3 : (256 : Nat) ^ ((b.drop N).take j).length ≤ 256 ^ 3 := Nat.pow_le_pow_right (by omega) h2
        have h4 : (256 : Nat) ^ 3 = 16777216 := by decide
        omega
      have hsn : Frm.num4 ((b.drop N).take (j + 1)) = x * 256 + (b[N + j]'(by rw [HN.out]; omega)).toNat := by
        rw [List.take_succ_eq_append_getElem (by omega), Frm.num4_snoc, HX4.out, List.getElem_drop]
      have hyl := (b[N + j]'(by rw [HN.out]; omega)).toNat_lt
      obtain ⟨y, hy⟩ : ∃ y, y = (b[N + j]'(by rw [HN.out]; omega)).toNat := ⟨_, rfl⟩
      rw [← hy] at hcj hsn hyl
      have HSN := Lib.hid hsn
      have hlt : ((N + j : Nat) : Int) < (N : Int) + 4 := by omega
      have hnj : IntKind.i64.wrap ((N : Int) + (j : Int) + 1) = (N : Int) + (j : Int) + 1 := by rw [IntKind.wrap_i64]; omega
      clear hy hsn hdl
      go_wp2_with fail
      go_round
      case rel => exact ⟨j + 1, x * 256 + y, by omega, by go_num, by go_num, Lib.hid HSN.out.symm⟩
      case measure => simp [intOf]; omega
    · obtain rfl : j = 4 := by omega
      have hm : x = Blk.many b := by rw [HX4.out]; unfold Blk.many; rw [HN.out]; rfl
      have hxl : x < 4294967296 := by
        have h1 := Frm.num4_lt ((b.drop N).take 4) 0
        rw [HX4.out]
        unfold Frm.num4
        have h2 : ((b.drop N).take 4).length = 4 := by rw [List.length_take]; omega
        rw [h2] at h1
        have h4 : (256 : Nat) ^ 4 = 4294967296 := by decide
        omega
      have hlt : ¬ (((N + 4 : Nat) : Int) < (N : Int) + 4) := by omega
      have HM := Lib.hid hm
      clear hm hdl hj4 hj
      by_cases hmu : ((N / 4 : Nat) : Int) < (x : Int)
      · have HG := Lib.hid (parsed_no (b := b) (Below.refl w.heap.size w) 3 (by decide) (Blk.WFb.much (by rw [HN.out, ← HM.out]; omega)))
        have hmu2 : (N : Int) / 4 < (x : Int) := by omega
        go_wp2_with fail
        go_ret2
        exact HG.out
      have hmu2 : ¬ ((N : Int) / 4 < (x : Int)) := by omega
      obtain ⟨Z, hZ⟩ : ∃ Z, Z = N - 4 * x := ⟨_, rfl⟩
      have hZ2 : Z ≤ N := by omega
      have hz1 : IntKind.i64.wrap (4 * (x : Int)) = 4 * (x : Int) := by rw [IntKind.wrap_i64]; omega
      have hz2 : (N : Int) - 4 * (x : Int) = (Z : Int) := by omega
      have HZ : Hid (b.take (b.length - 5 - 4 * Blk.many b) = b.take Z ∧ (b.take Z).length = Z) := Lib.hid ⟨by rw [← HM.out, HN.out, hZ]; rfl, by rw [List.length_take, HN.out]; omega⟩
      clear hZ hmu HX4
      go_wp2_with fail
      have H0 : Hid (HBs w w.heap.size (some ⟨g, off, none⟩) (b.take Z)) := Lib.hid ⟨HH.out.take (by rw [HN.out]; omega), fun _ x hx => .inl (by have : g = x := (by simpa [blk] using hx); omega)⟩
      have HW0 : Hid (Blk.WRel b [] [] (b.take Z)) := Lib.hid (by have := Blk.WRel.start (b := b); rwa [HZ.out.1] at this)
      have hzl := HZ.out.2
      obtain ⟨r0, hr0⟩ : ∃ r0, r0 = b.take Z := ⟨_, rfl⟩
      rw [← hr0] at H0 HW0 hzl
      have hzs : Value.slice (some ⟨g, off, none⟩) Z c = Value.slice (some ⟨g, off, none⟩) r0.length c := by rw [hzl]
      rw [hzs]
      have HZL := Lib.hid hzl
      clear hzs hzl hr0 hz1 hz2
      go_loopw [7, 8, 9] (fun rr oo ll wr => ∃ (B : Option Addr) (d : Nat) (r : List UInt8) (OA : Option Addr) (OC : Nat) (o : List Pv) (LA : Option Addr) (LC : Nat) (last : List UInt8), rr = .slice B r.length d ∧ oo = .slice OA o.length OC ∧ ll = .slice LA last.length LC ∧ r.length ≤ d ∧ d ≤ 9223372036854775807 ∧
        Hid (o.length + r.length ≤ Z ∧ last.length + r.length ≤ Z ∧ ∀ p ∈ o, p.k.length ≤ Z ∧ p.v.length ≤ Z) ∧ Hid (HBs wr w.heap.size B r) ∧ Hid (OwnPv wr w.heap.size OA OC o) ∧ Hid (Own wr w.heap.size 5 LA LC last) ∧ Hid (Below w.heap.size w wr) ∧ Hid (Blk.WRel b (o.map Pv.pr) last r)) (fun rr _ _ _ => (match rr with | .slice _ n _ => n | _ => 0))
      case atStart => exact ⟨_, c, r0, none, 0, [], none, 0, [], rfl, rfl, rfl, by rw [HZL.out]; omega, hcc, Lib.hid ⟨by simp [HZL.out], by simp [HZL.out], fun p hp => by cases hp⟩, H0, Lib.hid OwnPv.nil, Lib.hid (Own.nil _ _ _), Lib.hid (Below.refl _ _), HW0⟩
      case round =>
        obtain ⟨B, d, r, OA, OC, o, LA, LC, last, rfl, rfl, rfl, hrd, hdd, HL, HB, HO, HLS, HBW, HWR⟩ := hrel
        have hL := HL.out
        by_cases hr : r = []
        · subst hr
          have hfin := fun l0 (hw : Blk.WFb b l0) => HWR.out.fin hw
          have HFIN := Lib.hid hfin
          clear hfin
          have KB := Lib.hid (rblkbuild_any (ev : Int) (by omega) OA OC o wr HO.out.rd (by omega) (fun p hp => by have := hL.2.2 p hp; omega))
          have HE16 : Hid (∀ l0, Blk.WFb b l0 → ev = 16) := Lib.hid (fun l0 hw => by
            have h1 := (Blk.tail_of hw).2.2.1
            obtain ⟨x, h2, h3⟩ := HEV.out
            rw [HN.out, show N + 5 - 1 = N + 4 by omega, h2] at h1
            injection h1 with h1
            rw [← h3, h1]; rfl)
          have HOL : Hid (o.length ≤ 65536 ∧ (∀ p ∈ o, p.k.length ≤ 65536 ∧ p.v.length ≤ 65536)) := Lib.hid ⟨by omega, fun p hp => by have := hL.2.2 p hp; omega⟩
          obtain ⟨er, her⟩ : ∃ er, er = Blk.err (ev : Int) (o.map Pv.pr) := ⟨_, rfl⟩
          obtain ⟨bb, hbb⟩ : ∃ bb, bb = Blk.build (ev : Int).toNat (o.map Pv.pr) := ⟨_, rfl⟩
          rw [← her, ← hbb] at KB
          have HER := Lib.hid her
          have HBB := Lib.hid hbb
          have HLZ : Hid (o.length ≤ b.length ∧ ∀ p ∈ o, p.k.length ≤ b.length ∧ p.v.length ≤ b.length) := Lib.hid ⟨by rw [HN.out]; omega, fun p hp => by rw [HN.out]; have := hL.2.2 p hp; omega⟩
          clear her hbb hL
          go_wp2_with fail
          refine KB.out.mono ?_
          rintro e w1 ⟨hb1, ⟨hne, rfl⟩ | ⟨rfl, A1, c1, rfl, ho1⟩⟩
          · have HG := Lib.hid (parsed_no (HBW.out.trans (hb1.mono HBW.out.size)) 3 (by decide) (fun l0 hw => by
              have h1 := HFIN.out l0 hw
              have h2 := HE16.out l0 hw
              have h3 := hw.ok
              rw [h1] at h3
              have h4 := HER.out
              rw [h2] at h4
              exact hne (h4.trans h3)))
            have hne2 : (er == 0) = false := by simpa using hne
            have hne3 : (er != 0) = true := by simpa using hne
            clear hb1 hne
            go_wp2_with fail
            go_ret2
            exact HG.out
          · have s1 := strB_of (c := c1) ho1.rd
            have s2 := strB_of (c := c) (HH.out.below (HBW.out.trans (hb1.mono HBW.out.size)) (Nat.le_refl _))
            unfold StrB at s1 s2
            rw [HN.out] at s2
            obtain ⟨SF, hSF⟩ : ∃ SF : ByteArray, SF = ⟨bb.toArray⟩ := ⟨_, rfl⟩
            obtain ⟨SB, hSB⟩ : ∃ SB : ByteArray, SB = ⟨b.toArray⟩ := ⟨_, rfl⟩
            rw [← hSF] at s1
            rw [← hSB] at s2
            have HB1 := Lib.hid (HBW.out.trans (hb1.mono HBW.out.size))
            have HO1 := Lib.hid (HO.out.call hb1)
            clear hb1 ho1
            by_cases hfx : bb = b
            · have hss : SB = SF := by rw [hSB, hSF, hfx]
              subst hss
              clear hSF hSB hfx
              go_wp2_with fail
              go_ret2
              exact ⟨HB1.out, .inr ⟨o, OA, OC, rfl, HO1.out, HLZ.out.1, HLZ.out.2, HFIN.out⟩⟩
            · have hne := str_ne hSF.symm hSB.symm hfx
              have HG := Lib.hid (parsed_no HB1.out 3 (by decide) (fun l0 hw => hfx (by
                have h1 := HFIN.out l0 hw
                have h2 := HE16.out l0 hw
                have h3 := hw.eq
                rw [HBB.out, h2, h3, h1]; rfl)))
              clear hSF hSB hfx
              go_wp2_with fail
              go_ret2
              exact HG.out
        have hrp : 0 < r.length := List.length_pos_iff.2 hr
        have hlb : last.length < 18446744073709551616 := by omega
        have KT := rtakeF_any B d r wr HB.out.rd (by omega) hrd hdd
        cases ht : Cod.take r with
        | none =>
          rw [ht] at KT
          have HK := Lib.hid KT
          have HNO := Lib.hid (HWR.out.no1 hr hlb ht)
          clear KT ht hr
          go_wp2_with fail
          refine HK.out.mono ?_
          rintro e w1 ⟨hb1, rfl⟩
          have HG := Lib.hid (parsed_no (HBW.out.trans (hb1.mono HBW.out.size)) 3 (by decide) HNO.out)
          clear hb1
          go_wp2_with fail
          go_ret2
          exact HG.out
        | some v1 =>
          obtain ⟨n, R1⟩ := v1
          rw [ht] at KT
          have HK := Lib.hid KT
          have HT1 := Lib.hid ht
          have hn64 := (Cod.take_bound ht).1
          have e1 := Cod.take_number ht
          have hR1 : R1.length + 1 ≤ r.length := by rw [e1, List.length_append]; have : 0 < (Cod.number n).length := (by unfold Cod.number; simp); omega
          have HR := Lib.hid hr
          clear KT ht hr e1
          go_wp2_with fail
          refine HK.out.mono ?_
          rintro e w1 ⟨hb1, B1, d1, rfl, hd1, hdd1, hr1, hf1⟩
          have HB1 := Lib.hid (HB.out.frs HR.out hb1 hf1 hr1)
          have HO1 := Lib.hid (HO.out.call hb1)
          have HLS1 := Lib.hid (HLS.out.below hb1)
          have HBW1 := Lib.hid (HBW.out.trans (hb1.mono HBW.out.size))
          clear hb1 hr1 hf1
          by_cases hnl : (last.length : Int) < (n : Int)
          · have HG := Lib.hid (parsed_no HBW1.out 3 (by decide) (HWR.out.no2 HR.out hlb HT1.out (by omega)))
            go_wp2_with fail
            go_ret2
            exact HG.out
          have KT := rtakeTextS_any B1 d1 R1 w1 HB1.out.rd (by omega) hd1 hdd1
          cases ht : cutT (Cod.take R1) with
          | none =>
            rw [ht] at KT
            have HK := Lib.hid KT
            have HNO := Lib.hid (HWR.out.no3 HR.out hlb HT1.out ht)
            clear KT ht
            go_wp2_with fail
            refine HK.out.mono ?_
            rintro e w2 ⟨hb2, rfl⟩
            have HG := Lib.hid (parsed_no (HBW1.out.trans (hb2.mono HBW1.out.size)) 3 (by decide) HNO.out)
            clear hb2
            go_wp2_with fail
            go_ret2
            exact HG.out
          | some v2 =>
            obtain ⟨k, R2⟩ := v2
            rw [ht] at KT
            have HK := Lib.hid KT
            have HT2 := Lib.hid ht
            have e2 := Frm.cutT_text ht
            have hR2 : R2.length + k.length + 1 ≤ R1.length := by rw [e2, List.length_append]; unfold Cod.text Cod.number; simp; omega
            clear KT ht e2
            go_wp2_with fail
            refine HK.out.mono ?_
            rintro e w2 ⟨hb2, A2, c2, B2, d2, rfl, ho2, hr2, hd2, hdd2, hf2⟩
            have hne1 : R1 ≠ [] := fun e => by have := hR2; rw [e] at this; simp at this
            have HB2 := Lib.hid (HB1.out.frs hne1 hb2 hf2 hr2)
            have HO2 := Lib.hid (HO1.out.call hb2)
            have HLS2 := Lib.hid (HLS1.out.below hb2)
            have HBW2 := Lib.hid (HBW1.out.trans (hb2.mono HBW1.out.size))
            have HK2 := Lib.hid (ho2.mono HBW1.out.size)
            clear hb2 ho2 hr2 hf2 hne1
            have KT := rtakeTextS_any B2 d2 R2 w2 HB2.out.rd (by omega) hd2 hdd2
            cases ht : cutT (Cod.take R2) with
            | none =>
              rw [ht] at KT
              have HK := Lib.hid KT
              have HNO := Lib.hid (HWR.out.no4 HR.out hlb HT1.out HT2.out ht)
              clear KT ht
              go_wp2_with fail
              refine HK.out.mono ?_
              rintro e w3 ⟨hb3, rfl⟩
              have HG := Lib.hid (parsed_no (HBW2.out.trans (hb3.mono HBW2.out.size)) 3 (by decide) HNO.out)
              clear hb3
              go_wp2_with fail
              go_ret2
              exact HG.out
            | some v3 =>
              obtain ⟨v, R3⟩ := v3
              rw [ht] at KT
              have HK := Lib.hid KT
              have HT3 := Lib.hid ht
              have e3 := Frm.cutT_text ht
              have hR3 : R3.length + v.length + 1 ≤ R2.length := by rw [e3, List.length_append]; unfold Cod.text Cod.number; simp; omega
              clear KT ht e3
              go_wp2_with fail
              refine HK.out.mono ?_
              rintro e w3 ⟨hb3, A3, c3, B3, d3, rfl, ho3, hr3, hd3, hdd3, hf3⟩
              have hne2 : R2 ≠ [] := fun e => by have := hR3; rw [e] at this; simp at this
              have HB3 := Lib.hid (HB2.out.frs hne2 hb3 hf3 hr3)
              have HO3 := Lib.hid (HO2.out.call hb3)
              have HLS3 := Lib.hid (HLS2.out.below hb3)
              have HBW3 := Lib.hid (HBW2.out.trans (hb3.mono HBW2.out.size))
              have HK3 := Lib.hid (HK2.out.below hb3)
              have HV3 := Lib.hid (ho3.mono HBW2.out.size)
              clear hb3 ho3 hr3 hf3 hne2
              have HST := Lib.hid (HWR.out.step HR.out hlb HT1.out HT2.out HT3.out)
              have hn0 : (0 : Int) ≤ (n : Int) := by omega
              have hlc := HLS3.out.cap
              have hlcc := HLS3.out.cap_le
              have hn1 : (n : Int) ≤ (LC : Int) := by omega
              have HTK : Hid (RdB w3 w3.heap.size LA (last.take n) ∧ n = (last.take n).length) := Lib.hid ⟨HLS3.out.rd.take (by omega), by rw [List.length_take]; omega⟩
              have htl : (last.take n).length ≤ 65536 := by rw [List.length_take]; omega
              go_wp2_with (at_builtin; refine wpList_append_b _ rfl (.tmp 95) (.tmp 98) bt rfl w3.heap.size (some ⟨w3.heap.size, 0, none⟩) 0 [] rfl (own_empty w3) w3.heap.size LA n LC (last.take n) rfl HTK.out.2 (HTK.out.1.alloc (Nat.le_refl _) _) (by simp only [List.length_nil]; omega) (by simp) ?_)
              intro A4 c4 L4 w4 hL4 ho4 hg4 hat4
              have hb4 : Below w3.heap.size w3 w4 := below_grow ((Below.refl _ _).alloc (Nat.le_refl _) _) hg4 (fun g hg => by simp [blk] at hg; omega) (by simp)
              have hL4' : L4 = last.take n := hL4
              subst hL4'
              have HO4 := Lib.hid ho4
              have HB4 := Lib.hid hb4
              have HK4 := Lib.hid (HK3.out.below hb4)
              clear hL4 ho4 hg4 hat4 hb4
              go_wp2_with (at_builtin; refine wpList_append_b _ rfl (.tmp 99) (.tmp 100) bt rfl w3.heap.size A4 c4 (last.take n) rfl HO4.out w4.heap.size A2 k.length c2 k rfl rfl HK4.out.rd (by omega) HB4.out.size ?_)
              intro A5 c5 L5 w5 hL5 ho5 hg5 hat5
              have hb5 : Below w3.heap.size w3 w5 := below_grow HB4.out hg5 (fun g hg => (HO4.out.blk_ge g hg).1) HB4.out.size
              have HL5 := Lib.hid hL5
              have hl5 : L5.length ≤ 65536 := by rw [hL5, List.length_append, List.length_take]; omega
              have HO5 := Lib.hid (HO3.out.call hb5)
              have HK5 := Lib.hid (ho5.mono HBW3.out.size)
              have HV5 := Lib.hid (HV3.out.below hb5)
              have HB5 := Lib.hid (HB3.out.below hb5)
              have HBW5 := Lib.hid (HBW3.out.trans (hb5.mono HBW3.out.size))
              have hws := HBW5.out.size
              clear hL5 ho5 hg5 hat5 hb5 HO4 HB4 HK4
              go_wp2_with (at_builtin; refine wpList_append_s _ rfl _ _ pairT rfl w.heap.size OA OC o rfl (HO5.out.row.alloc _) (w5.heap.size + 1) (some ⟨w5.heap.size, 0, none⟩) 1 1 [⟨A5, c5, L5, A3, c3, v⟩] rfl rfl (rd_pair_new w5 ⟨A5, c5, L5, A3, c3, v⟩) (by simp; omega) (by unfold maxLen; simp; omega) (by simp; omega) ?_)
              intro OA' OC' o' w6 ho' hoS hgS hatS
              have hba : ∀ ob, Below w5.heap.size w5 (w5.alloc ob) := fun ob => (Below.refl _ _).alloc (Nat.le_refl _) ob
              rw [ho'] at hoS
              have HO6 := Lib.hid ((HO5.out.call (hba _)).app (p := ⟨A5, c5, L5, A3, c3, v⟩) (HK5.out.below (hba _)) (HV5.out.below (hba _)) hoS hgS)
              have hnb := (HO5.out.call (hba (.cells #[.slice A5 L5.length c5, .slice A3 v.length c3] 48))).nob
              have hge : ∀ g, blk OA = some g → w.heap.size ≤ g := fun g hg => (HO5.out.row.blk_ge g hg).1
              have HB6 := Lib.hid ((HB5.out.below (hba _)).grown hgS hnb hge)
              have HK6 := Lib.hid ((HK5.out.below (hba _)).kept_tag hgS hnb)
              have HBW6 := Lib.hid ((HBW5.out.trans ((hba _).mono hws)).grown hgS (by simp; omega) hge)
              obtain ⟨q, hq⟩ : ∃ q : Pv, q = ⟨A5, c5, L5, A3, c3, v⟩ := ⟨_, rfl⟩
              rw [← hq] at ho' HO6
              subst ho'
              have HW6 : Hid (Blk.WRel b ((o ++ [q]).map Pv.pr) L5 R3) := Lib.hid (by rw [List.map_append, hq, HL5.out]; exact HST.out)
              have HL6 : Hid ((o ++ [q]).length + R3.length ≤ Z ∧ L5.length + R3.length ≤ Z ∧ ∀ p ∈ o ++ [q], p.k.length ≤ Z ∧ p.v.length ≤ Z) := Lib.hid (by
                have h5 : L5.length ≤ last.length + k.length := by rw [HL5.out, List.length_append, List.length_take]; omega
                refine ⟨by simp; omega, by omega, fun p hp => ?_⟩
                simp only [List.mem_append, List.mem_singleton] at hp
                rcases hp with hp | hp
                · exact HL.out.2.2 p hp
                · rw [hp, hq]; exact ⟨by show L5.length ≤ Z; omega, by show v.length ≤ Z; omega⟩)
              have hmes : R3.length < r.length := by omega
              clear hq hoS hgS hatS hnb hge hba HO5 HB5 HV5 HK5 HBW5 HO3 HB3 HBW3 HLS3 HK3 HV3 HST HL5 hL
              go_wp2_with fail
              go_roundw
              case rel => exact ⟨B3, d3, R3, OA', OC', o ++ [q], A5, c5, L5, rfl, rfl, rfl, hd3, hdd3, HL6, HB6, HO6, HK6, HBW6, HW6⟩
              case measure => simpa using hmes
end Go.Proofs.YtgafionfojnieaaDoor
