/- Parts of the proof, one behind the other: Contracts: few and awake of the table's law.; The walk of the law TableBack. -/
import Derived.Test.YtgafionfojnieaaGreatDoorMrg50
import Derived.Lib.SlBytesConst
import Derived.Test.YtgafionfojnieaaGreatDoorMrg49
namespace Go.Proofs.YtgafionfojnieaaGreatDoor
open Go.RowKit
open Lib (hid)
def FewP (l : List Rv) (q : Bool) : Prop := q = true → l.length ≤ 600 ∧ ∀ r ∈ l, r.k.length ≤ 1000 ∧ r.v.length ≤ 5000
def FewQ (l : List Rv) (e : Ending) : Prop := ∃ q, e = .returned (.bool q) ∧ FewP l q
theorem few_no (l : List Rv) : FewP l false := fun h => by cases h
set_option maxHeartbeats 2000000 in
set_option maxRecDepth 100000 in
theorem few_any (A : Option Addr) (c : Nat) (l : List Rv) (w : World) (h : RdRv w w.heap.size A l) :
   Calls Tryz.prog 12 #[.slice A l.length c] w fun e w' => FewQ l e ∧ Below w.heap.size w w' := by
 by_cases h6 : (600 : Int) < (l.length : Int)
 · go_enter Tryz.func12, Tryz.ntmps12
   go_wp2_with fail
   go_ret
   exact ⟨⟨false, rfl, few_no l⟩, Below.refl _ _⟩
 · have h600 : l.length ≤ 600 := by omega
   have HR := hid h
   clear h
   go_enter Tryz.func12, Tryz.ntmps12
   go_wp2_with fail
   go_loopw [3, 4] (fun n i wr => ∃ (k : Nat) (N : Int), k ≤ l.length ∧ n = .int .i64 N ∧ 0 ≤ N ∧ N ≤ 100000 ∧ i = .int .i64 (k : Int) ∧ Hid (Below w.heap.size w wr) ∧ Hid (∀ j (hj : j < l.length), j < k → l[j].k.length ≤ 1000 ∧ l[j].v.length ≤ 5000)) (fun _ i _ => l.length - (intOf i).toNat)
   case atStart => exact ⟨0, 0, by omega, rfl, by omega, by omega, rfl, hid (Below.refl _ _), hid (fun j hj hk => by omega)⟩
   case round =>
     obtain ⟨k, N, hk, rfl, hN0, hN1, rfl, HB, HJ⟩ := hrel
     by_cases hlt : k < l.length
     · obtain ⟨b, off, hA, hb, hc⟩ := HR.out.row4 (by omega)
       obtain ⟨c0, _, _, c3⟩ := hc k hlt
       have q0 := (HB.out.cell (p := ⟨b, off + k * 4, none⟩) hb).trans c0
       have q3 := (HB.out.cell (p := ⟨b, off + k * 4 + 3, none⟩) hb).trans c3
       obtain ⟨r, hr⟩ : ∃ r, r = l[k] := ⟨_, rfl⟩
       rw [← hr] at q0 q3
       have HJR : Hid (r.k.length ≤ 1000 → r.v.length ≤ 5000 → ∀ j (hj : j < l.length), j < k + 1 → l[j].k.length ≤ 1000 ∧ l[j].v.length ≤ 5000) := hid (fun h1 h2 j hj hjk => by
         rcases Nat.lt_or_ge j k with h3 | h3
         · exact HJ.out j hj h3
         · obtain rfl : j = k := by omega
           rw [← hr]; exact ⟨h1, h2⟩)
       clear c0 c3 hc hr
       subst hA
       obtain ⟨kA, kc, rk, seq, del, vA, vc, rv⟩ := r
       simp only at q0 q3 HJR
       obtain ⟨K, hK⟩ : ∃ K, K = rk.length := ⟨_, rfl⟩
       obtain ⟨V, hV⟩ : ∃ V, V = rv.length := ⟨_, rfl⟩
       rw [← hK] at q0 HJR
       rw [← hV] at q3 HJR
       clear hK hV
       by_cases t1 : (1000 : Int) < (K : Int)
       · go_wp2_with fail
         go_ret
         exact ⟨⟨false, rfl, few_no l⟩, HB.out⟩
       · by_cases t2 : (5000 : Int) < (V : Int)
         · go_wp2_with fail
           go_ret
           exact ⟨⟨false, rfl, few_no l⟩, HB.out⟩
         · have hK1 : K ≤ 1000 := by omega
           have hV1 : V ≤ 5000 := by omega
           have HJ2 := hid (HJR.out hK1 hV1)
           have w1 : IntKind.i64.wrap (N + (K : Int)) = N + (K : Int) := by rw [IntKind.wrap_i64]; omega
           have w2 : IntKind.i64.wrap (N + (K : Int) + (V : Int)) = N + (K : Int) + (V : Int) := by rw [IntKind.wrap_i64]; omega
           go_wp2_with fail
           go_quiet (fail)
           refine drewN_any ?_
           intro X hbX hX
           have HBX := hid (HB.out.trans (hbX.mono HB.out.size))
           clear hbX hX q0 q3 w1 w2
           by_cases t3 : (100000 : Int) < N + (K : Int) + (V : Int)
           · go_wp2_with fail
             go_ret
             exact ⟨⟨false, rfl, few_no l⟩, HBX.out⟩
           · go_wp2_with fail
             go_roundw
             case rel => exact ⟨k + 1, N + (K : Int) + (V : Int), by omega, rfl, by omega, by omega, by simp, HBX, HJ2⟩
             case measure =>
               show l.length - ((k : Int) + 1).toNat < l.length - ((k : Int)).toNat
               omega
     · have hke : k = l.length := by omega
       have HFE : Hid (FewP l true) := hid (fun _ => ⟨h600, fun r hr => by
         obtain ⟨j, hj, e⟩ := List.getElem_of_mem hr
         have := HJ.out j hj (by omega)
         rw [e] at this
         exact this⟩)
       go_wp2_with fail
       go_ret
       exact ⟨⟨true, rfl, HFE.out⟩, HB.out⟩
set_option maxHeartbeats 2000000 in
set_option maxRecDepth 100000 in
theorem awake_any (w : World) : Calls Tryz.prog 5 #[] w fun e w' => e = .returned (.bool true) ∧ Below w.heap.size w w' := by
 obtain ⟨q, hq⟩ : ∃ q : Rv, q = ⟨some ⟨w.heap.size, 0, none⟩, 1, [97], 2, false, none, 0, []⟩ := ⟨_, rfl⟩
 obtain ⟨W, hW⟩ : ∃ W, (w.alloc (.cells #[.int .u8 97] 5 (1, 2))).alloc (.cells #[.slice (some ⟨w.heap.size, 0, none⟩) 1 1, .int .i64 2, .bool false, .slice none 0 0] 35) = W := ⟨_, rfl⟩
 have hbW : Below w.heap.size w W := by rw [← hW]; exact below_al2 w _ _
 have hsz : W.heap.size = w.heap.size + 2 := by rw [← hW]; simp
 have hrd : RdRv W W.heap.size (some ⟨w.heap.size + 1, 0, none⟩) [q] := by
   refine ⟨?_, fun r hr => ?_⟩
   · have := rd_rec_new2 w (.cells #[.int .u8 97] 5 (1, 2)) q
     rw [hsz, ← hW]
     rw [hq] at this ⊢
     exact this
   · obtain rfl : r = q := by simpa using hr
     have h1 : RdB (w.alloc (.cells #[.int .u8 97] 5 (1, 2))) (w.heap.size + 1) (some ⟨w.heap.size, 0, none⟩) [97] := by
       have := rdB_one (w := w.alloc (.cells #[.int .u8 97] 5 (1, 2))) (g := w.heap.size) (x := 97) (b := 97) (by rw [cell_of_row _ w.heap.size 0 _ _ (1, 2) (heap_alloc_new w _)]; rfl) rfl (by simp)
       simpa using this
     have hb2 : Below (w.heap.size + 1) (w.alloc (.cells #[.int .u8 97] 5 (1, 2))) W := by
       rw [← hW]
       exact (Below.refl _ _).alloc (by simp) _
     have h2 := (h1.below hb2 (Nat.le_refl _)).more (show w.heap.size + 1 ≤ W.heap.size by omega)
     rw [hq]
     exact ⟨h2, Reads.none_, by simp, by simp⟩
 have hbe : Tb.build [q] 64 10 = Tb.build [Tb.one] 64 10 := Tb.build_core (by rw [hq]; rfl) _ _
 have KB := tbuild_any (some ⟨w.heap.size + 1, 0, none⟩) 1 [q] 64 10 W hrd (by simp)
 rw [hbe, Tb.one_built] at KB
 have HIS0 := hid (Tb.is_of Tb.one_built)
 obtain ⟨b, hb⟩ : ∃ b, b = (Tb.build [Tb.one] 64 10).2 := ⟨_, rfl⟩
 rw [← hb] at KB HIS0
 have HLB := hid (HIS0.out.long (by simp))
 have HK := hid KB
 have HBW := hid hbW
 have HSZ := hid hsz
 have HW := hid hW
 clear KB hb hbe hrd hq hsz hbW hW
 have kc := fun (w : World) (C : Array Value) (n c : Nat) => Lib.run_convert_bytes_const (P := Tryz.prog) w 22 5 C n c Tryz.underlying22 Tryz.underlying5
 go_enter Tryz.func5, Tryz.ntmps5
 go_wp2_with fail
 rw [HW.out]
 refine HK.out.mono ?_
 rintro e w1 ⟨hb1, ⟨h0, _⟩ | ⟨_, AA, ac, rfl, hoa⟩⟩
 · exact absurd rfl h0
 have HB1 := hid (HBW.out.trans (hb1.mono HBW.out.size))
 have KO := topen_any AA ac b w1 hoa.rd (by have := HLB.out; omega) hoa.cap hoa.cap_le
 have HK2 := hid KO
 clear KO hb1 hoa
 go_wp2_with fail
 refine HK2.out.mono ?_
 rintro e w2 ⟨hb2, ⟨_, hno⟩ | ⟨R, ti, base, s, t, rfl, _, hat, hR, _, hall⟩⟩
 · exact absurd HIS0.out (hno _ _ _)
 have hlen := congrArg List.length (hall _ _ _ HIS0.out)
 simp only [List.length_map, List.length_singleton] at hlen
 have HB2 := hid (HB1.out.trans (hb2.mono HB1.out.size))
 have hl1 : Calls Tryz.prog 10 #[.pointer (some ⟨ti.gt, 0, none⟩)] w2 fun e w' => e = .returned (.int .i64 1) ∧ w2 = w' := by
   have h1 := tlen_any base (fun _ => False) ti w2 hat
   rw [hR.many, ← hlen] at h1
   exact h1
 have HL := hid hl1
 clear hb2 hlen hat hR hall hl1
 go_wp2_with fail
 refine HL.out.mono ?_
 rintro e w3 ⟨rfl, rfl⟩
 go_wp2_with fail
 go_ret
 exact ⟨rfl, HB2.out⟩
structure BkR (tb : Nat) (ti : Ti) (base : Nat) (hd : Nd) (nds : List Nd) (w : World) (W : World) : Prop where
 tab : TbAt tb NoF ti W
 sk : SkAt base hd nds (Sk.F nds) W
 bel : Below w.heap.size w W
section
variable {tb base : Nat} {ti : Ti} {hd : Nd} {nds : List Nd} {w W W' : World}
theorem BkR.call (h : BkR tb ti base hd nds w W) (hb : Below W.heap.size W W') : BkR tb ti base hd nds w W' := ⟨h.tab.call hb, h.sk.call hb, h.bel.trans (hb.mono h.bel.size)⟩
theorem BkR.step (h : BkR tb ti base hd nds w W) (ht : TbAt tb NoF ti W') (hq : Qry tb ti W W') (hs : w.heap.size ≤ tb) : BkR tb ti base hd nds w W' := ⟨ht, h.sk.qryT hq h.tab, h.bel.trans (hq.below.mono hs)⟩
end
set_option maxHeartbeats 4000000 in
set_option maxRecDepth 100000 in
theorem tableBack_walk (A : Option Addr) (c : Nat) (l : List Rv) (x0 x1 : Int) (B : Option Addr) (d : Nat) (asks : List Rv) (w : World) (h : RdRv w w.heap.size A l) (hq : RdRv w w.heap.size B asks) :
   Calls Tryz.prog 4 #[.slice A l.length c, .agg #[.int .i64 x0, .int .i64 x1], .slice B asks.length d] w fun e w' => e = .returned (.bool true) ∧ Below w.heap.size w w' := by
 have HR := hid h
 have HAS := hid hq
 clear h hq
 go_enter Tryz.func4, Tryz.ntmps4
 go_wp2_with fail
 have hb0 : Below w.heap.size w (w.alloc (.cells #[.int .i64 x0, .int .i64 x1] 43)) := (Below.refl _ _).alloc (Nat.le_refl _) _
 refine (awake_any _).mono ?_
 rintro e w1 ⟨rfl, hb1⟩
 have HX1 : Hid (w1.heap[w.heap.size]? = some (.cells #[.int .i64 x0, .int .i64 x1] 43)) := hid ((hb1.block _ (by simp)).trans (heap_alloc_new w _))
 have HB1 := hid (hb0.trans (hb1.mono hb0.size))
 have HR1 := hid ((HR.out.below HB1.out (Nat.le_refl _)).more HB1.out.size)
 clear hb1 hb0
 go_wp2_with fail
 refine (few_any A c l w1 HR1.out).mono ?_
 rintro e w2 ⟨⟨q, rfl, hq⟩, hb2⟩
 have HB2 := hid (HB1.out.trans (hb2.mono HB1.out.size))
 have HR2 := hid ((HR1.out.below hb2 (Nat.le_refl _)).more hb2.size)
 have hx2 := (hb2.block _ (Array.getElem?_eq_some_iff.1 HX1.out).1).trans HX1.out
 have c0 := cell_of_row w2 w.heap.size 0 _ _ (0, 0) hx2
 have c1 := cell_of_row w2 w.heap.size 1 _ _ (0, 0) hx2
 simp only [List.getElem?_toArray, List.getElem?_cons_zero, List.getElem?_cons_succ] at c0 c1
 clear hb2 hx2
 rcases q with _ | _
 · go_wp2_with fail
   go_ret
   exact ⟨rfl, HB2.out⟩
 have HQ := hid (hq rfl)
 clear hq
 have K1 := tbuild_any A c l x0 x1 w2 HR2.out (by have := HQ.out.1; omega)
 have hee := Tb.build_err l x0 x1
 have HIS0 : Hid ((Tb.build l x0 x1).1 = 0 → Tb.Is (Tb.build l x0 x1).2 l x0 x1) := hid Tb.is_of
 obtain ⟨er, her⟩ : ∃ er, er = (Tb.build l x0 x1).1 := ⟨_, rfl⟩
 obtain ⟨bb, hbb⟩ : ∃ bb, bb = (Tb.build l x0 x1).2 := ⟨_, rfl⟩
 rw [← her] at K1 hee HIS0
 rw [← hbb] at K1 HIS0
 have HK1 := hid K1
 have HEE := hid hee
 clear K1 her hbb hee
 go_wp2_with fail
 refine HK1.out.mono ?_
 rintro e w3 ⟨hb3, hh⟩
 have HB3 := hid (HB2.out.trans (hb3.mono HB2.out.size))
 clear hb3
 rcases hh with ⟨hne, rfl⟩ | ⟨h0, AA, ac, rfl, hoa⟩
 · rcases HEE.out with e | e | e | e
   · exact absurd e hne
   all_goals
     subst e
     clear hne
     go_wp2_with fail
     go_ret
     exact ⟨by simp, HB3.out⟩
 subst h0
 have HIS := hid (HIS0.out rfl)
 have hlb := HIS.out.long (by have := HQ.out.1; omega)
 have hac : bb.length ≤ ac := hoa.cap
 have KO := hid (topen_any AA ac bb w3 hoa.rd (by omega) hac hoa.cap_le)
 clear hoa HIS0 HEE HK1
 go_wp2_with fail
 refine KO.out.mono ?_
 rintro e w4 ⟨hb4, ⟨_, hno⟩ | ⟨R, ti, tb, s, t, rfl, htb, hat, hRR, his, hall⟩⟩
 · exact absurd HIS.out (hno _ _ _)
 have HB4 := hid (HB3.out.trans (hb4.mono HB3.out.size))
 have HAT := hid hat
 have HRR := hid hRR
 have HCO : Hid (l.map Rv.core = R.map Rv.core) := hid (hall _ _ _ HIS.out)
 have HTB : Hid (w.heap.size ≤ tb) := hid (Nat.le_trans HB3.out.size htb)
 have HU := hid HIS.out.unf
 clear hb4 hat hRR his hall htb hlb hac KO
 go_wp2_with fail
 refine (snew_any w4).mono ?_
 rintro e w5 ⟨hd, rfl, hsk5, hb5⟩
 have HSK5 := hid hsk5
 have HBL5 := hid hb5
 clear hsk5 hb5
 go_wp2_with fail
 go_loopw [14] (fun i wr => ∃ (k : Nat) (nds : List Nd), k ≤ l.length ∧ i = .int .i64 (k : Int) ∧ Hid (SkOf nds (l.take k)) ∧ Hid (SkAt w4.heap.size hd nds (Sk.F nds) wr) ∧ Hid (Below w4.heap.size w4 wr)) (fun i _ => l.length - (intOf i).toNat)
 case atStart => exact ⟨0, [], by omega, rfl, hid rfl, HSK5, HBL5⟩
 case round =>
   obtain ⟨k, nds, hk, rfl, HSO, HSK, HBL⟩ := hrel
   by_cases hlt : k < l.length
   · have hl6 : l.length ≤ 600 := HQ.out.1
     have HBW := hid (HB4.out.trans (HBL.out.mono HB4.out.size))
     have hqw := HR.out.below HBW.out (Nat.le_refl _)
     obtain ⟨qb, qo, hA, hqb, hqcl⟩ := hqw.row4 (by omega)
     subst hA
     obtain ⟨a0, a1, a2, a3⟩ := hqcl k hlt
     have hok := (hqw.ok _ (List.getElem_mem hlt)).more HBW.out.size
     have hnl : nds.length = k := by
       have := HSO.out.len
       rw [List.length_take] at this
       omega
     have hfw := HQ.out.2 _ (List.getElem_mem hlt)
     have KP := hid (sput_any w4.heap.size hd nds l[k] (k : Int) (by omega) (by omega) (by omega) wr HSK.out hok.key hok.val (by omega) (by omega) (HU.out.r _ (List.getElem_mem hlt)) (HSO.out.next HU.out.srt hlt))
     obtain ⟨r, hr⟩ : ∃ r, r = l[k] := ⟨_, rfl⟩
     rw [← hr] at a0 a1 a2 a3 KP
     have HRK := hid hr
     obtain ⟨rA, rc, rk, rs, rd, rvA, rvc, rv⟩ := r
     simp only [Rv.val] at a0 a1 a2 a3 KP
     have hqbr : qb < wr.heap.size := by have := HBW.out.size; omega
     clear hqcl hok hqw hr hfw
     go_wp2_with fail
     refine KP.out.mono ?_
     rintro e w6 ⟨rfl, hb6, dd, hdc, hsk6⟩
     have HBL6 := hid (HBL.out.trans hb6)
     have HSK6 := hid hsk6
     have HSO6 := hid (HSO.out.snoc hlt (hdc.trans (congrArg Rv.core HRK.out)))
     clear hb6 hdc hsk6 a0 a1 a2 a3
     go_wp2_with fail
     exact ⟨⟨k + 1, nds ++ [dd], hlt, by simp, HSO6, HSK6, HBL6⟩, by simp only [intOf]; omega⟩
   · have hke : k = l.length := by omega
     subst hke
     have HSA : Hid (SkOf nds l) := hid (by have := HSO.out; rwa [List.take_length] at this)
     have HATR := hid (HAT.out.call HBL.out)
     have KF := hid (tfrom_any tb NoF ti R t.toNat HRR.out none 0 [] 1000 wr HATR.out (hbs_nil wr tb) (Nat.zero_le _) (Nat.le_refl _) (by have := HRR.out.fewp; omega))
     have hl6 : l.length ≤ 600 := HQ.out.1
     have hndl : nds.length = l.length := HSA.out.len
     go_wp2_with fail
     refine KF.out.mono ?_
     rintro e w6 ⟨ht6, hq6, A1, c1, L1, rfl, hrd1, hco1⟩
     have hbW : Below w.heap.size w wr := HB4.out.trans (HBL.out.mono HB4.out.size)
     have HBR6 : Hid (BkR tb ti w4.heap.size hd nds w w6) := hid ((⟨HATR.out, HSK.out, hbW⟩ : BkR tb ti w4.heap.size hd nds w wr).step ht6 hq6 HTB.out)
     have HRD1 := hid hrd1
     have HCO1 := hid hco1
     have KS := hid (sfromV_any w4.heap.size hd HSA.out HU.out.r (by omega) 1000 w6 HBR6.out.sk)
     have hL1 : L1.length ≤ 1000 := by
       have := congrArg List.length hco1
       rw [List.length_map, List.length_map, List.length_take] at this
       have e : (1000 : Int).toNat = 1000 := rfl
       omega
     clear ht6 hq6 hrd1 hco1 hbW
     go_wp2_with fail
     refine KS.out.mono ?_
     rintro e w7 ⟨hb7, A2, c2, L2, rfl, hrd2, hco2⟩
     have HBR7 := hid (HBR6.out.call hb7)
     have KA := hid (sameAll_yes A1 A2 c1 c2 L1 L2 w7 ((HRD1.out.below hb7 (Nat.le_refl _)).more hb7.size) hrd2 (by
       rw [HCO1.out, hco2, Tb.fromL_nil, List.map_take, List.map_take, HCO.out]) (by omega))
     clear hb7 hrd2 hco2
     go_wp2_with fail
     refine KA.out.mono ?_
     rintro e w8 ⟨rfl, hb8⟩
     have HBR8 := hid (HBR7.out.call hb8)
     clear hb8
     go_wp2_with fail
     go_loopw [17] (fun i wr => ∃ k : Nat, k ≤ asks.length ∧ k ≤ 60 ∧ i = .int .i64 (k : Int) ∧ Hid (BkR tb ti w4.heap.size hd nds w wr)) (fun i _ => 60 - (intOf i).toNat)
     case atStart => exact ⟨0, by omega, by omega, rfl, HBR8⟩
     case round =>
       clear HBR8 HBR7 HBR6 HATR HSK HBL
       obtain ⟨k, hk, hk60, rfl, HT⟩ := hrel
       have HRL : Hid (l.length = R.length) := hid (by
         have := congrArg List.length HCO.out
         simpa using this)
       by_cases hlt : k < asks.length
       · by_cases hl60 : k < 60
         · have hqw := (HAS.out.below HT.out.bel (Nat.le_refl _)).more HTB.out
           obtain ⟨qb, qo, hA, hqb, hqcl⟩ := hqw.row4 (by omega)
           subst hA
           obtain ⟨a0, a1, _, _⟩ := hqcl k hlt
           have hok := hqw.ok _ (List.getElem_mem hlt)
           obtain ⟨y, hy⟩ : ∃ y, y = asks[k] := ⟨_, rfl⟩
           rw [← hy] at a0 a1 hok
           obtain ⟨yA, yc, yk, ys, yd, yvA, yvc, yv⟩ := y
           simp only at a0 a1 hok
           have hqbr : qb < wr.heap.size := Nat.lt_of_lt_of_le hqb HT.out.tab.size
           have HKEY : Hid (∀ X, Qry tb ti wr X → HBs X tb yA yk ∧ X.cell? ⟨qb, qo + k * 4, none⟩ = some (.slice yA yk.length yc) ∧ X.cell? ⟨qb, qo + k * 4 + 1, none⟩ = some (.int .i64 ys)) := hid (fun X hX => ⟨⟨(hok.key.below hX.below (Nat.le_refl _)).more (Nat.le_trans HT.out.tab.size hX.below.size), fun hne g hg => .inl (by
               obtain ⟨ad, e, hlt2, _⟩ := hok.key.2 (List.length_pos_iff.2 hne)
               have e' : yA = some ad := e
               have hg' : blk yA = some g := hg
               rw [e'] at hg'
               have : ad.block = g := by simpa [blk] using hg'
               omega)⟩, (hX.below.cell (p := ⟨qb, _, none⟩) hqb).trans a0, (hX.below.cell (p := ⟨qb, _, none⟩) hqb).trans a1⟩)
           have hyc : yk.length ≤ yc := hok.kc
           have hk0 : (0 : Int) ≤ (k : Int) := by omega
           have hk1 : (k : Int) < (asks.length : Int) := by omega
           have hk2 : (k : Int) < 60 := by omega
           clear hqcl hok hy hqw
           by_cases hbig : (2000 : Int) < (yk.length : Int)
           · go_wp2_with fail
             go_ret
             exact ⟨rfl, HT.out.bel⟩
           · have hfewp := HRR.out.fewp
             have KG : Hid (∀ (F : Nat → Prop) X, TbAt tb F ti X → Qry tb ti wr X → Calls Tryz.prog 19 #[.pointer (some ⟨ti.gt, 0, none⟩), .slice yA yk.length yc, .int .i64 ys] X fun e w' => TbAt tb F ti w' ∧ Qry tb ti X w' ∧ ∃ (r : Rv) (is : Bool), e = .returned (.tuple #[r.val, .bool is]) ∧ TgV tb R yk ys r is w') := hid (fun F X h1 h2 => tgetV_any tb F ti R t.toNat HRR.out yA yc yk ys X h1 (HKEY.out X h2).1 (by omega) hyc (by omega))
             have H1 : Hid (TbAt tb NoF ti wr.drew ∧ Qry tb ti wr wr.drew) := hid ⟨HT.out.tab.call ((Below.refl _ _).drew), Qry.of (t := ti) ((Below.refl _ _).drew) HT.out.tab.size⟩
             have hbX : Below wr.heap.size wr (wr.alloc zObj).drew := ((Below.refl _ _).alloc (Nat.le_refl _) _).drew
             have H2 : Hid (TbAt tb (fun g => g = wr.heap.size) ti (wr.alloc zObj).drew ∧ Qry tb ti wr (wr.alloc zObj).drew ∧ (wr.alloc zObj).drew.heap[wr.heap.size]? = some zObj) := hid ⟨HT.out.tab.more (fun g hg => .inr (by omega)) hbX (fun g hg => by simp; omega), Qry.of (t := ti) hbX HT.out.tab.size, heap_alloc_new wr _⟩
             clear hbX hfewp
             go_wp2_with fail
             go_cut [18, 19] (fun v8 v9 wx => ∃ (gx : Nat) (r : Rv) (is : Bool), v8 = .pointer (some ⟨gx, 0, none⟩) ∧ v9 = .bool is ∧ Hid (Got tb R yk ys gx r is wx) ∧ Hid (BkR tb ti w4.heap.size hd nds w wx) ∧ Hid (Qry tb ti wr wx))
             case first =>
               go_region_with (first
                 | (go_at_call 19; (with_reducible refine (KG.out _ _ H1.out.1 H1.out.2).mono ?_); rintro e w5 ⟨ht5, hq5, r, is, rfl, hgv⟩; have HT5 := hid ht5; have HQ5 := hid hq5; have HGV := hid hgv; clear ht5 hq5 hgv; obtain ⟨gA, gc, gk, gs, gd, gvA, gvc, gv⟩ := r; simp only [Rv.val])
                 | (go_at_call 19; refine (KG.out _ _ H2.out.1 H2.out.2.1).mono ?_; rintro e w5 ⟨ht5, hq5, r, is, rfl, hgv⟩; have hz5 := (hq5.tagd _ _ _ _ H2.out.2.2 (by decide) (by decide)).trans H2.out.2.2; obtain ⟨⟨z0, z1, z2, z3⟩, f0, f1, f2, f3⟩ := zfacts hz5; have HZ5 := hid hz5; have HT5 := hid ht5; have HQ5 := hid hq5; have HGV := hid hgv; clear ht5 hq5 hgv hz5; obtain ⟨gA, gc, gk, gs, gd, gvA, gvc, gv⟩ := r; simp only [Rv.val]))
               all_goals
                 go_wp2_with fail
                 go_meet
                 first
                   | (have hq9 := H1.out.2.trans HQ5.out
                      have hb9 : Below w5.heap.size w5 (w5.alloc (.cells #[.slice gA gk.length gc, .int .i64 gs, .bool gd, .slice gvA gv.length gvc] 35)) := (Below.refl _ _).alloc (Nat.le_refl _) _
                      exact ⟨_, ⟨gA, gc, gk, gs, gd, gvA, gvc, gv⟩, is, rfl, rfl, hid (bk_new HGV.out), hid ((HT.out.step HT5.out hq9 HTB.out).call hb9), hid (hq9.trans (Qry.of hb9 HT5.out.size))⟩)
                   | (obtain ⟨W6, hW6, b1, b2, b3⟩ := box_late HT.out.tab.size H2.out.2.1 HZ5.out HT5.out HQ5.out HGV.out
                      subst hW6
                      exact ⟨_, ⟨gA, gc, gk, gs, gd, gvA, gvc, gv⟩, is, rfl, rfl, hid b3, hid (HT.out.step b1 b2 HTB.out), hid b2⟩)
             case rest =>
               obtain ⟨gx, r, is, rfl, rfl, HGX, HTC, HQC⟩ := hcut
               have c0 := (HKEY.out _ HQC.out).2.1
               have c1 := (HKEY.out _ HQC.out).2.2
               have HKC := hid (HKEY.out _ HQC.out).1
               clear H1 H2 a0 a1
               obtain ⟨wd, hwd⟩ : ∃ wd, wd = wc := ⟨_, rfl⟩
               subst hwd
               have hqd : qb < wd.heap.size := Nat.lt_of_lt_of_le hqb HTC.out.tab.size
               have KR : Hid (∀ X, Below wd.heap.size wd X → Calls Tryz.prog 20 #[.pointer (some ⟨hd.g, 0, none⟩), .slice yA yk.length yc, .int .i64 ys] X fun e w' => Below X.heap.size X w' ∧ ∃ (r : Rv) (is : Bool), e = .returned (.tuple #[r.val, .bool is]) ∧ TgV tb l yk ys r is w') := hid (fun X h1 => sgetV_any tb w4.heap.size hd HSA.out HU.out.srt yA yc yk ys X (HTC.out.call h1).sk (HKC.out.below h1).rd)
               have G1 : Hid (Below wd.heap.size wd wd.drew) := hid ((Below.refl _ _).drew)
               have G2 : Hid (Below wd.heap.size wd (wd.alloc zObj).drew ∧ (wd.alloc zObj).drew.heap[wd.heap.size]? = some zObj) := hid ⟨((Below.refl _ _).alloc (Nat.le_refl _) _).drew, heap_alloc_new wd _⟩
               go_wp2_with fail
               go_cut [20, 21] (fun v10 v11 wx => ∃ (gw : Nat) (r2 : Rv) (is2 : Bool), v10 = .pointer (some ⟨gw, 0, none⟩) ∧ v11 = .bool is2 ∧ Hid (Got tb l yk ys gw r2 is2 wx) ∧ Hid (Below wd.heap.size wd wx))
               case first =>
                 go_region_with (first
                   | (go_at_call 20; (with_reducible refine (KR.out _ G1.out).mono ?_); rintro e w5 ⟨hb5, r2, is2, rfl, hgv⟩; have HB5 := hid (G1.out.trans (hb5.mono G1.out.size)); have HGV := hid hgv; clear hb5 hgv; obtain ⟨gA, gc, gk, gs, gd, gvA, gvc, gv⟩ := r2; simp only [Rv.val])
                   | (go_at_call 20; refine (KR.out _ G2.out.1).mono ?_; rintro e w5 ⟨hb5, r2, is2, rfl, hgv⟩; have hz5 := (hb5.block wd.heap.size (Array.getElem?_eq_some_iff.1 G2.out.2).1).trans G2.out.2; obtain ⟨⟨z0, z1, z2, z3⟩, f0, f1, f2, f3⟩ := zfacts hz5; have HZ5 := hid hz5; have HB5 := hid (G2.out.1.trans (hb5.mono G2.out.1.size)); have HGV := hid hgv; clear hb5 hgv hz5; obtain ⟨gA, gc, gk, gs, gd, gvA, gvc, gv⟩ := r2; simp only [Rv.val]))
                 all_goals
                   go_wp2_with fail
                   go_meet
                   first
                     | exact ⟨_, ⟨gA, gc, gk, gs, gd, gvA, gvc, gv⟩, is2, rfl, rfl, hid (bk_new HGV.out), hid (HB5.out.alloc HB5.out.size _)⟩
                     | (obtain ⟨W6, hW6, b1, b2⟩ := bk_late HTC.out.tab.size HB5.out HZ5.out HGV.out
                        subst hW6
                        exact ⟨_, ⟨gA, gc, gk, gs, gd, gvA, gvc, gv⟩, is2, rfl, rfl, hid b2, hid b1⟩)
               case rest =>
                 obtain ⟨gw, r2, is2, rfl, rfl, HGW, HBW⟩ := hcut
                 have HT2 := hid (HTC.out.call HBW.out)
                 have hqo := Qry.of (t := ti) HBW.out HTC.out.tab.size
                 have HGX2 := hid (HGX.out.step hqo)
                 have hgc := get_core HCO.out yk ys
                 have HCR : Hid (r.core = r2.core) := hid (by
                   rw [HGX.out.core, HGW.out.core]
                   revert hgc
                   cases Tb.get l yk ys <;> cases Tb.get R yk ys <;> intro h <;> simp_all)
                 have HIE : is2 = is := by
                   rw [HGX.out.is_, HGW.out.is_]
                   revert hgc
                   cases Tb.get l yk ys <;> cases Tb.get R yk ys <;> intro h <;> simp_all
                 subst HIE
                 obtain ⟨x0, x1, x2, x3⟩ := rfacts HGX2.out.box
                 obtain ⟨y0, y1, y2, y3⟩ := rfacts HGW.out.box
                 have KS := hid (same_yes r r2 wc ⟨HGX2.out.hk.rd, HGX2.out.hval.rd, HGX2.out.kc, HGX2.out.vc⟩ ⟨HGW.out.hk.rd, HGW.out.hval.rd, HGW.out.kc, HGW.out.vc⟩ HCR.out)
                 obtain ⟨gA, gc, gk, gs, gd, gvA, gvc, gv⟩ := r
                 obtain ⟨hA, hc, hk2, hs2, hd2, hvA, hvc, hv2⟩ := r2
                 simp only [Rv.val] at x0 x1 x2 x3 y0 y1 y2 y3 KS
                 clear c0 c1 hqo hgc
                 go_wp2_with fail
                 refine KS.out.mono ?_
                 rintro e w3 ⟨rfl, hb3⟩
                 have HT3 := hid (HT2.out.call hb3)
                 clear hb3 x0 x1 x2 x3 y0 y1 y2 y3
                 go_wp2_with fail
                 exact ⟨⟨k + 1, hlt, by omega, by simp, HT3⟩, by simp only [intOf]; omega⟩
         · have hk6 : ¬ ((k : Int) < 60) := by omega
           have hk7 : (k : Int) < (asks.length : Int) := by omega
           have KL1 := hid (tlen_any tb NoF ti wr HT.out.tab)
           rw [HRR.out.many, ← HRL.out] at KL1
           go_wp2_with fail
           refine KL1.out.mono ?_
           rintro e w9 ⟨rfl, rfl⟩
           have KL2 := hid (slen_any HT.out.sk)
           rw [hndl] at KL2
           go_wp2_with fail
           refine KL2.out.mono ?_
           rintro e w9 ⟨rfl, hb9⟩
           have HB9 := hid (HT.out.bel.trans (hb9.mono HT.out.bel.size))
           clear hb9
           go_wp2_with fail
           go_ret
           exact ⟨by simp, HB9.out⟩
       · have hk7 : ¬ (k : Int) < (asks.length : Int) := by omega
         have KL1 := hid (tlen_any tb NoF ti wr HT.out.tab)
         rw [HRR.out.many, ← HRL.out] at KL1
         go_wp2_with fail
         refine KL1.out.mono ?_
         rintro e w9 ⟨rfl, rfl⟩
         have KL2 := hid (slen_any HT.out.sk)
         rw [hndl] at KL2
         go_wp2_with fail
         refine KL2.out.mono ?_
         rintro e w9 ⟨rfl, hb9⟩
         have HB9 := hid (HT.out.bel.trans (hb9.mono HT.out.bel.size))
         clear hb9
         go_wp2_with fail
         go_ret
         exact ⟨by simp, HB9.out⟩
end Go.Proofs.YtgafionfojnieaaGreatDoor
