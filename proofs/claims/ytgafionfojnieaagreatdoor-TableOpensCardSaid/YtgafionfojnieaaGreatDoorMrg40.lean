/- Parts of the proof, one behind the other: The contract of the reference's Parse of blocks.; The contract of the reference's Open. -/
import Derived.Test.YtgafionfojnieaaGreatDoorMrg38
namespace Go.Proofs.YtgafionfojnieaaGreatDoor
open Go.RowKit
open Lib (hid)
set_option maxHeartbeats 2000000 in
set_option maxRecDepth 100000 in
theorem rparse_any (A : Option Addr) (c : Nat) (b : List UInt8) (w : World) (h : RdB w w.heap.size A b) (hl : b.length ≤ 65536) (hc : b.length ≤ c) (hcc : c ≤ 9223372036854775807) :
   Calls Tryz.prog 30 #[.slice A b.length c] w (ParsedP w b) := by
 by_cases h5 : (b.length : Int) < 5
 · have HG := hid (parsed_no (b := b) (Below.refl w.heap.size w) 3 (by decide) (Blk.WFb.small (by omega)))
   go_enter Tryz.func30, Tryz.ntmps30
   go_wp2_with fail
   go_ret2
   exact HG.out
 obtain ⟨N, hN⟩ : ∃ N, b.length = N + 5 := ⟨b.length - 5, by omega⟩
 have HH := hid h
 have HN := hid hN
 obtain ⟨g, off, rfl, hab, hcl⟩ := h.at_ (k := N + 4) (by omega)
 obtain ⟨ev, hev⟩ : ∃ ev, ev = (b[N + 4]'(by omega)).toNat := ⟨_, rfl⟩
 rw [← hev] at hcl
 have hev2 : ev < 256 := by rw [hev]; exact UInt8.toNat_lt _
 have HEV : Hid (∃ x : UInt8, b[N + 4]? = some x ∧ x.toNat = ev) := hid ⟨_, List.getElem?_eq_getElem (by omega), hev.symm⟩
 rw [hN] at hl hc h5 ⊢
 have h5' : ¬ ((N : Int) + 5 < 5) := by omega
 clear h hN hev h5
 go_enter Tryz.func30, Tryz.ntmps30
 go_wp2_with fail
 go_loop [5, 6] (fun v i => ∃ j x : Nat, j ≤ 4 ∧ i = .int .i64 ((N + j : Nat) : Int) ∧ v = .int .i64 (x : Int) ∧ Hid (x = Frm.num4 ((b.drop N).take j))) (fun _ i => N + 4 - (intOf i).toNat)
 case atStart => exact ⟨0, 0, by omega, rfl, rfl, hid rfl⟩
 case round =>
   obtain ⟨j, x, hj, rfl, rfl, HX4⟩ := hrel
   have hdl : (b.drop N).length = 5 := by rw [List.length_drop, HN.out]; omega
   by_cases hj4 : j < 4
   · obtain ⟨g3, off3, e3, _, hcj⟩ := HH.out.at_ (k := N + j) (by rw [HN.out]; omega)
     injection e3 with e3
     injection e3 with e4 e5
     subst e4 e5
     have hx24 : x < 16777216 := by
       have h1 := Frm.num4_lt ((b.drop N).take j) 0
       rw [HX4.out]
       unfold Frm.num4
       have h2 : ((b.drop N).take j).length ≤ 3 := by rw [List.length_take]; omega
       have h3 : (256 : Nat) ^ ((b.drop N).take j).length ≤ 256 ^ 3 := Nat.pow_le_pow_right (by omega) h2
       have h4 : (256 : Nat) ^ 3 = 16777216 := by decide
       omega
     have hsn : Frm.num4 ((b.drop N).take (j + 1)) = x * 256 + (b[N + j]'(by rw [HN.out]; omega)).toNat := by
       rw [List.take_succ_eq_append_getElem (by omega), Frm.num4_snoc, HX4.out, List.getElem_drop]
     have hyl := (b[N + j]'(by rw [HN.out]; omega)).toNat_lt
     obtain ⟨y, hy⟩ : ∃ y, y = (b[N + j]'(by rw [HN.out]; omega)).toNat := ⟨_, rfl⟩
     rw [← hy] at hcj hsn hyl
     have HSN := hid hsn
     have hlt : ((N + j : Nat) : Int) < (N : Int) + 4 := by omega
     have hnj : IntKind.i64.wrap ((N : Int) + (j : Int) + 1) = (N : Int) + (j : Int) + 1 := by rw [IntKind.wrap_i64]; omega
     clear hy hsn hdl
     go_wp2_with fail
     go_round
     case rel => exact ⟨j + 1, x * 256 + y, by omega, by go_num, by go_num, hid HSN.out.symm⟩
     case measure => simp [intOf]; omega
   · obtain rfl : j = 4 := by omega
     have hm : x = Blk.many b := by rw [HX4.out]; unfold Blk.many; rw [HN.out]; rfl
     have hxl : x < 4294967296 := by
       have h1 := Frm.num4_lt ((b.drop N).take 4) 0
       rw [HX4.out]
       unfold Frm.num4
       have h2 : ((b.drop N).take 4).length = 4 := by rw [List.length_take]; omega
       rw [h2] at h1
       have h4 : (256 : Nat) ^ 4 = 4294967296 := by decide
       omega
     have hlt : ¬ (((N + 4 : Nat) : Int) < (N : Int) + 4) := by omega
     have HM := hid hm
     clear hm hdl hj4 hj
     by_cases hmu : ((N / 4 : Nat) : Int) < (x : Int)
     · have HG := hid (parsed_no (b := b) (Below.refl w.heap.size w) 3 (by decide) (Blk.WFb.much (by rw [HN.out, ← HM.out]; omega)))
       have hmu2 : (N : Int) / 4 < (x : Int) := by omega
       go_wp2_with fail
       go_ret2
       exact HG.out
     have hmu2 : ¬ ((N : Int) / 4 < (x : Int)) := by omega
     obtain ⟨Z, hZ⟩ : ∃ Z, Z = N - 4 * x := ⟨_, rfl⟩
     have hZ2 : Z ≤ N := by omega
     have hz1 : IntKind.i64.wrap (4 * (x : Int)) = 4 * (x : Int) := by rw [IntKind.wrap_i64]; omega
     have hz2 : (N : Int) - 4 * (x : Int) = (Z : Int) := by omega
     have HZ : Hid (b.take (b.length - 5 - 4 * Blk.many b) = b.take Z ∧ (b.take Z).length = Z) := hid ⟨by rw [← HM.out, HN.out, hZ]; rfl, by rw [List.length_take, HN.out]; omega⟩
     clear hZ hmu HX4
     go_wp2_with fail
     have H0 : Hid (HBs w w.heap.size (some ⟨g, off, none⟩) (b.take Z)) := hid ⟨HH.out.take (by rw [HN.out]; omega), fun _ x hx => .inl (by have : g = x := (by simpa [blk] using hx); omega)⟩
     have HW0 : Hid (Blk.WRel b [] [] (b.take Z)) := hid (by have := Blk.WRel.start (b := b); rwa [HZ.out.1] at this)
     have hzl := HZ.out.2
     obtain ⟨r0, hr0⟩ : ∃ r0, r0 = b.take Z := ⟨_, rfl⟩
     rw [← hr0] at H0 HW0 hzl
     have hzs : Value.slice (some ⟨g, off, none⟩) Z c = Value.slice (some ⟨g, off, none⟩) r0.length c := by rw [hzl]
     rw [hzs]
     have HZL := hid hzl
     clear hzs hzl hr0 hz1 hz2
     go_loopw [7, 8, 9] (fun rr oo ll wr => ∃ (B : Option Addr) (d : Nat) (r : List UInt8) (OA : Option Addr) (OC : Nat) (o : List Pv) (LA : Option Addr) (LC : Nat) (last : List UInt8), rr = .slice B r.length d ∧ oo = .slice OA o.length OC ∧ ll = .slice LA last.length LC ∧ r.length ≤ d ∧ d ≤ 9223372036854775807 ∧
       Hid (o.length + r.length ≤ Z ∧ last.length + r.length ≤ Z ∧ ∀ p ∈ o, p.k.length ≤ Z ∧ p.v.length ≤ Z) ∧ Hid (HBs wr w.heap.size B r) ∧ Hid (OwnPv wr w.heap.size OA OC o) ∧ Hid (Own wr w.heap.size 5 LA LC last) ∧ Hid (Below w.heap.size w wr) ∧ Hid (Blk.WRel b (o.map Pv.pr) last r)) (fun rr _ _ _ => (match rr with | .slice _ n _ => n | _ => 0))
     case atStart => exact ⟨_, c, r0, none, 0, [], none, 0, [], rfl, rfl, rfl, by rw [HZL.out]; omega, hcc, hid ⟨by simp [HZL.out], by simp [HZL.out], fun p hp => by cases hp⟩, H0, hid OwnPv.nil, hid (Own.nil _ _ _), hid (Below.refl _ _), HW0⟩
     case round =>
       obtain ⟨B, d, r, OA, OC, o, LA, LC, last, rfl, rfl, rfl, hrd, hdd, HL, HB, HO, HLS, HBW, HWR⟩ := hrel
       have hL := HL.out
       by_cases hr : r = []
       · subst hr
         have hfin := fun l0 (hw : Blk.WFb b l0) => HWR.out.fin hw
         have HFIN := hid hfin
         clear hfin
         have KB := hid (rblkbuild_any (ev : Int) (by omega) OA OC o wr HO.out.rd (by omega) (fun p hp => by have := hL.2.2 p hp; omega))
         have HE16 : Hid (∀ l0, Blk.WFb b l0 → ev = 16) := hid (fun l0 hw => by
           have h1 := (Blk.tail_of hw).2.2.1
           obtain ⟨x, h2, h3⟩ := HEV.out
           rw [HN.out, show N + 5 - 1 = N + 4 by omega, h2] at h1
           injection h1 with h1
           rw [← h3, h1]; rfl)
         have HOL : Hid (o.length ≤ 65536 ∧ (∀ p ∈ o, p.k.length ≤ 65536 ∧ p.v.length ≤ 65536)) := hid ⟨by omega, fun p hp => by have := hL.2.2 p hp; omega⟩
         obtain ⟨er, her⟩ : ∃ er, er = Blk.err (ev : Int) (o.map Pv.pr) := ⟨_, rfl⟩
         obtain ⟨bb, hbb⟩ : ∃ bb, bb = Blk.build (ev : Int).toNat (o.map Pv.pr) := ⟨_, rfl⟩
         rw [← her, ← hbb] at KB
         have HER := hid her
         have HBB := hid hbb
         have HLZ : Hid (o.length ≤ b.length ∧ ∀ p ∈ o, p.k.length ≤ b.length ∧ p.v.length ≤ b.length) := hid ⟨by rw [HN.out]; omega, fun p hp => by rw [HN.out]; have := hL.2.2 p hp; omega⟩
         clear her hbb hL
         go_wp2_with fail
         refine KB.out.mono ?_
         rintro e w1 ⟨hb1, ⟨hne, rfl⟩ | ⟨rfl, A1, c1, rfl, ho1⟩⟩
         · have HG := hid (parsed_no (HBW.out.trans (hb1.mono HBW.out.size)) 3 (by decide) (fun l0 hw => by
             have h1 := HFIN.out l0 hw
             have h2 := HE16.out l0 hw
             have h3 := hw.ok
             rw [h1] at h3
             have h4 := HER.out
             rw [h2] at h4
             exact hne (h4.trans h3)))
           have hne2 : (er == 0) = false := by simpa using hne
           have hne3 : (er != 0) = true := by simpa using hne
           clear hb1 hne
           go_wp2_with fail
           go_ret2
           exact HG.out
         · have s1 := strB_of (c := c1) ho1.rd
           have s2 := strB_of (c := c) (HH.out.below (HBW.out.trans (hb1.mono HBW.out.size)) (Nat.le_refl _))
           unfold StrB at s1 s2
           rw [HN.out] at s2
           obtain ⟨SF, hSF⟩ : ∃ SF : ByteArray, SF = ⟨bb.toArray⟩ := ⟨_, rfl⟩
           obtain ⟨SB, hSB⟩ : ∃ SB : ByteArray, SB = ⟨b.toArray⟩ := ⟨_, rfl⟩
           rw [← hSF] at s1
           rw [← hSB] at s2
           have HB1 := hid (HBW.out.trans (hb1.mono HBW.out.size))
           have HO1 := hid (HO.out.call hb1)
           clear hb1 ho1
           by_cases hfx : bb = b
           · have hss : SB = SF := by rw [hSB, hSF, hfx]
             subst hss
             clear hSF hSB hfx
             go_wp2_with fail
             go_ret2
             exact ⟨HB1.out, .inr ⟨o, OA, OC, rfl, HO1.out, HLZ.out.1, HLZ.out.2, HFIN.out⟩⟩
           · have hne := str_ne hSF.symm hSB.symm hfx
             have HG := hid (parsed_no HB1.out 3 (by decide) (fun l0 hw => hfx (by
               have h1 := HFIN.out l0 hw
               have h2 := HE16.out l0 hw
               have h3 := hw.eq
               rw [HBB.out, h2, h3, h1]; rfl)))
             clear hSF hSB hfx
             go_wp2_with fail
             go_ret2
             exact HG.out
       have hrp : 0 < r.length := List.length_pos_iff.2 hr
       have hlb : last.length < 18446744073709551616 := by omega
       have KT := rtakeF_any B d r wr HB.out.rd (by omega) hrd hdd
       cases ht : Cod.take r with
       | none =>
         rw [ht] at KT
         have HK := hid KT
         have HNO := hid (HWR.out.no1 hr hlb ht)
         clear KT ht hr
         go_wp2_with fail
         refine HK.out.mono ?_
         rintro e w1 ⟨hb1, rfl⟩
         have HG := hid (parsed_no (HBW.out.trans (hb1.mono HBW.out.size)) 3 (by decide) HNO.out)
         clear hb1
         go_wp2_with fail
         go_ret2
         exact HG.out
       | some v1 =>
         obtain ⟨n, R1⟩ := v1
         rw [ht] at KT
         have HK := hid KT
         have HT1 := hid ht
         have hn64 := (Cod.take_bound ht).1
         have e1 := Cod.take_number ht
         have hR1 : R1.length + 1 ≤ r.length := by rw [e1, List.length_append]; have : 0 < (Cod.number n).length := (by unfold Cod.number; simp); omega
         have HR := hid hr
         clear KT ht hr e1
         go_wp2_with fail
         refine HK.out.mono ?_
         rintro e w1 ⟨hb1, B1, d1, rfl, hd1, hdd1, hr1, hf1⟩
         have HB1 := hid (HB.out.frs HR.out hb1 hf1 hr1)
         have HO1 := hid (HO.out.call hb1)
         have HLS1 := hid (HLS.out.below hb1)
         have HBW1 := hid (HBW.out.trans (hb1.mono HBW.out.size))
         clear hb1 hr1 hf1
         by_cases hnl : (last.length : Int) < (n : Int)
         · have HG := hid (parsed_no HBW1.out 3 (by decide) (HWR.out.no2 HR.out hlb HT1.out (by omega)))
           go_wp2_with fail
           go_ret2
           exact HG.out
         have KT := rtakeTextS_any B1 d1 R1 w1 HB1.out.rd (by omega) hd1 hdd1
         cases ht : cutT (Cod.take R1) with
         | none =>
           rw [ht] at KT
           have HK := hid KT
           have HNO := hid (HWR.out.no3 HR.out hlb HT1.out ht)
           clear KT ht
           go_wp2_with fail
           refine HK.out.mono ?_
           rintro e w2 ⟨hb2, rfl⟩
           have HG := hid (parsed_no (HBW1.out.trans (hb2.mono HBW1.out.size)) 3 (by decide) HNO.out)
           clear hb2
           go_wp2_with fail
           go_ret2
           exact HG.out
         | some v2 =>
           obtain ⟨k, R2⟩ := v2
           rw [ht] at KT
           have HK := hid KT
           have HT2 := hid ht
           have e2 := Frm.cutT_text ht
           have hR2 : R2.length + k.length + 1 ≤ R1.length := by rw [e2, List.length_append]; unfold Cod.text Cod.number; simp; omega
           clear KT ht e2
           go_wp2_with fail
           refine HK.out.mono ?_
           rintro e w2 ⟨hb2, A2, c2, B2, d2, rfl, ho2, hr2, hd2, hdd2, hf2⟩
           have hne1 : R1 ≠ [] := fun e => by have := hR2; rw [e] at this; simp at this
           have HB2 := hid (HB1.out.frs hne1 hb2 hf2 hr2)
           have HO2 := hid (HO1.out.call hb2)
           have HLS2 := hid (HLS1.out.below hb2)
           have HBW2 := hid (HBW1.out.trans (hb2.mono HBW1.out.size))
           have HK2 := hid (ho2.mono HBW1.out.size)
           clear hb2 ho2 hr2 hf2 hne1
           have KT := rtakeTextS_any B2 d2 R2 w2 HB2.out.rd (by omega) hd2 hdd2
           cases ht : cutT (Cod.take R2) with
           | none =>
             rw [ht] at KT
             have HK := hid KT
             have HNO := hid (HWR.out.no4 HR.out hlb HT1.out HT2.out ht)
             clear KT ht
             go_wp2_with fail
             refine HK.out.mono ?_
             rintro e w3 ⟨hb3, rfl⟩
             have HG := hid (parsed_no (HBW2.out.trans (hb3.mono HBW2.out.size)) 3 (by decide) HNO.out)
             clear hb3
             go_wp2_with fail
             go_ret2
             exact HG.out
           | some v3 =>
             obtain ⟨v, R3⟩ := v3
             rw [ht] at KT
             have HK := hid KT
             have HT3 := hid ht
             have e3 := Frm.cutT_text ht
             have hR3 : R3.length + v.length + 1 ≤ R2.length := by rw [e3, List.length_append]; unfold Cod.text Cod.number; simp; omega
             clear KT ht e3
             go_wp2_with fail
             refine HK.out.mono ?_
             rintro e w3 ⟨hb3, A3, c3, B3, d3, rfl, ho3, hr3, hd3, hdd3, hf3⟩
             have hne2 : R2 ≠ [] := fun e => by have := hR3; rw [e] at this; simp at this
             have HB3 := hid (HB2.out.frs hne2 hb3 hf3 hr3)
             have HO3 := hid (HO2.out.call hb3)
             have HLS3 := hid (HLS2.out.below hb3)
             have HBW3 := hid (HBW2.out.trans (hb3.mono HBW2.out.size))
             have HK3 := hid (HK2.out.below hb3)
             have HV3 := hid (ho3.mono HBW2.out.size)
             clear hb3 ho3 hr3 hf3 hne2
             have HST := hid (HWR.out.step HR.out hlb HT1.out HT2.out HT3.out)
             have hn0 : (0 : Int) ≤ (n : Int) := by omega
             have hlc := HLS3.out.cap
             have hlcc := HLS3.out.cap_le
             have hn1 : (n : Int) ≤ (LC : Int) := by omega
             have HTK : Hid (RdB w3 w3.heap.size LA (last.take n) ∧ n = (last.take n).length) := hid ⟨HLS3.out.rd.take (by omega), by rw [List.length_take]; omega⟩
             have htl : (last.take n).length ≤ 65536 := by rw [List.length_take]; omega
             go_wp2_with (at_builtin; refine wpList_append_b _ rfl (.tmp 95) (.tmp 98) bt rfl w3.heap.size (some ⟨w3.heap.size, 0, none⟩) 0 [] rfl (own_empty w3) w3.heap.size LA n LC (last.take n) rfl HTK.out.2 (HTK.out.1.alloc (Nat.le_refl _) _) (by simp only [List.length_nil]; omega) (by simp) ?_)
             intro A4 c4 L4 w4 hL4 ho4 hg4 hat4
             have hb4 : Below w3.heap.size w3 w4 := below_grow ((Below.refl _ _).alloc (Nat.le_refl _) _) hg4 (fun g hg => by simp [blk] at hg; omega) (by simp)
             have hL4' : L4 = last.take n := hL4
             subst hL4'
             have HO4 := hid ho4
             have HB4 := hid hb4
             have HK4 := hid (HK3.out.below hb4)
             clear hL4 ho4 hg4 hat4 hb4
             go_wp2_with (at_builtin; refine wpList_append_b _ rfl (.tmp 99) (.tmp 100) bt rfl w3.heap.size A4 c4 (last.take n) rfl HO4.out w4.heap.size A2 k.length c2 k rfl rfl HK4.out.rd (by omega) HB4.out.size ?_)
             intro A5 c5 L5 w5 hL5 ho5 hg5 hat5
             have hb5 : Below w3.heap.size w3 w5 := below_grow HB4.out hg5 (fun g hg => (HO4.out.blk_ge g hg).1) HB4.out.size
             have HL5 := hid hL5
             have hl5 : L5.length ≤ 65536 := by rw [hL5, List.length_append, List.length_take]; omega
             have HO5 := hid (HO3.out.call hb5)
             have HK5 := hid (ho5.mono HBW3.out.size)
             have HV5 := hid (HV3.out.below hb5)
             have HB5 := hid (HB3.out.below hb5)
             have HBW5 := hid (HBW3.out.trans (hb5.mono HBW3.out.size))
             have hws := HBW5.out.size
             clear hL5 ho5 hg5 hat5 hb5 HO4 HB4 HK4
             go_wp2_with (at_builtin; refine wpList_append_s _ rfl _ _ pairT rfl w.heap.size OA OC o rfl (HO5.out.row.alloc _) (w5.heap.size + 1) (some ⟨w5.heap.size, 0, none⟩) 1 1 [⟨A5, c5, L5, A3, c3, v⟩] rfl rfl (rd_pair_new w5 ⟨A5, c5, L5, A3, c3, v⟩) (by simp; omega) (by unfold maxLen; simp; omega) (by simp; omega) ?_)
             intro OA' OC' o' w6 ho' hoS hgS hatS
             have hba : ∀ ob, Below w5.heap.size w5 (w5.alloc ob) := fun ob => (Below.refl _ _).alloc (Nat.le_refl _) ob
             rw [ho'] at hoS
             have HO6 := hid ((HO5.out.call (hba _)).app (p := ⟨A5, c5, L5, A3, c3, v⟩) (HK5.out.below (hba _)) (HV5.out.below (hba _)) hoS hgS)
             have hnb := (HO5.out.call (hba (.cells #[.slice A5 L5.length c5, .slice A3 v.length c3] 77))).nob
             have hge : ∀ g, blk OA = some g → w.heap.size ≤ g := fun g hg => (HO5.out.row.blk_ge g hg).1
             have HB6 := hid ((HB5.out.below (hba _)).grown hgS hnb hge)
             have HK6 := hid ((HK5.out.below (hba _)).kept_tag hgS hnb)
             have HBW6 := hid ((HBW5.out.trans ((hba _).mono hws)).grown hgS (by simp; omega) hge)
             obtain ⟨q, hq⟩ : ∃ q : Pv, q = ⟨A5, c5, L5, A3, c3, v⟩ := ⟨_, rfl⟩
             rw [← hq] at ho' HO6
             subst ho'
             have HW6 : Hid (Blk.WRel b ((o ++ [q]).map Pv.pr) L5 R3) := hid (by rw [List.map_append, hq, HL5.out]; exact HST.out)
             have HL6 : Hid ((o ++ [q]).length + R3.length ≤ Z ∧ L5.length + R3.length ≤ Z ∧ ∀ p ∈ o ++ [q], p.k.length ≤ Z ∧ p.v.length ≤ Z) := hid (by
               have h5 : L5.length ≤ last.length + k.length := by rw [HL5.out, List.length_append, List.length_take]; omega
               refine ⟨by simp; omega, by omega, fun p hp => ?_⟩
               simp only [List.mem_append, List.mem_singleton] at hp
               rcases hp with hp | hp
               · exact HL.out.2.2 p hp
               · rw [hp, hq]; exact ⟨by show L5.length ≤ Z; omega, by show v.length ≤ Z; omega⟩)
             have hmes : R3.length < r.length := by omega
             clear hq hoS hgS hatS hnb hge hba HO5 HB5 HV5 HK5 HBW5 HO3 HB3 HBW3 HLS3 HK3 HV3 HST HL5 hL
             go_wp2_with fail
             go_roundw
             case rel => exact ⟨B3, d3, R3, OA', OC', o ++ [q], A5, c5, L5, rfl, rfl, rfl, hd3, hdd3, HL6, HB6, HO6, HK6, HBW6, HW6⟩
             case measure => simpa using hmes
set_option maxHeartbeats 8000000 in
set_option maxRecDepth 100000 in
theorem rtopen_any (A : Option Addr) (c : Nat) (b : List UInt8) (w : World) (h : RdB w w.heap.size A b) (hl : b.length ≤ 1000000000) (hc : b.length ≤ c) (hcc : c ≤ 9223372036854775807) :
   Calls Tryz.prog 7 #[.slice A b.length c] w (OpenP w b) := by
 have KS := hid (rscan_any A c b w h hl hc hcc)
 have HH := hid h
 clear h
 go_enter Tryz.func7, Tryz.ntmps7
 go_wp2_with fail
 refine KS.out.mono ?_
 rintro e w1 ⟨L, r, FA, FC, hsc, htn, rfl, hfr, hlc, hfc, hb1⟩
 have HSC := hid hsc
 have HTN := hid htn
 have HFR := hid hfr
 have HB1 := hid hb1
 have hlb := hsc.len
 rw [List.length_map] at hlb
 have HG0 : Hid (∀ w', Below w.heap.size w w' → (r ≠ [] ∨ L.length < 4) → OpenP w b (.returned (.tuple #[.slice none 0 0, .int .i64 3])) w') := hid (fun w' hb' hx => openP_no hb' (Tb.scan_no HSC.out HTN.out (by rw [List.length_map]; exact hx)))
 have HGN : Hid (∀ w', Below w1.heap.size w1 w' → (∀ l s t, ¬ Tb.Is b l s t) → OpenP w b (.returned (.tuple #[.slice none 0 0, .int .i64 3])) w') := hid (fun w' hb' hx => openP_no (HB1.out.trans (hb'.mono HB1.out.size)) hx)
 clear KS hsc htn hfr hb1
 by_cases hr : r = []
 case neg =>
   have h1 : 0 < r.length := List.length_pos_iff.2 hr
   have hne : ((b.length : Int) - (r.length : Int) != (b.length : Int)) = true := by simp; omega
   have hwr : IntKind.i64.wrap ((b.length : Int) - (r.length : Int)) = (b.length : Int) - (r.length : Int) := by rw [IntKind.wrap_i64]; omega
   have HR := hid hr
   clear hr
   go_wp2_with fail
   go_ret2
   exact HG0.out _ HB1.out (.inl HR.out)
 subst hr
 have hb0 : (b.length : Int) - (([] : List UInt8).length : Int) = (b.length : Int) := by simp
 rw [hb0]
 clear hb0
 by_cases h4 : (L.length : Int) < 4
 · have HR := hid h4
   go_wp2_with fail
   go_ret2
   exact HG0.out _ HB1.out (.inr (by have := HR.out; omega))
 have h4' : 4 ≤ L.length := by omega
 obtain ⟨n, hn⟩ : ∃ n, n = L.length - 3 := ⟨_, rfl⟩
 have hn3 : L.length = n + 3 := by omega
 obtain ⟨gF, oF, rfl, hgF, hrow⟩ := HFR.out.row2 (by omega)
 have HROW := hid hrow
 obtain ⟨f, hf⟩ : ∃ f, f = L[n + 2]'(by omega) := ⟨_, rfl⟩
 have hfm : f ∈ L := by rw [hf]; exact List.getElem_mem _
 have c1 := (hrow (n + 2) (by omega)).2
 rw [← hf] at c1
 have hok := HFR.out.ok f hfm
 have hft : f.b.length ≤ 65536 := HSC.out.fit f.pr (List.mem_map_of_mem hfm)
 have hNR : Tb.NR b [] f.b := Tb.NR.start HSC.out HTN.out (p := f.pr) (by
   rw [List.length_map, hn3, List.getElem?_map, List.getElem?_eq_getElem (by omega), ← (show f = L[n + 3 - 1]'(by omega) from hf)]; rfl)
 have HNR := hid hNR
 have KT := rtake_any f.A f.c f.b w1 hok.1 (by omega) hok.2.1 hok.2.2
 have HFB := hid hft
 have HN3 := hid hn3
 have ix : IntKind.i64.wrap (((n + 3 : Nat) : Int) - 1) = ((n + 2 : Nat) : Int) := by rw [IntKind.wrap_i64]; omega
 rw [hn3]
 rw [hn3] at hlc hlb
 obtain ⟨fk, fA, fc, fb⟩ := f
 simp only at c1 KT HNR HFB
 have h4n : ¬ (((n + 3 : Nat) : Int) < 4) := by omega
 have hn1 : 1 ≤ n := by omega
 clear hrow hf hfm hok hft hNR hn h4 h4' hn3
 cases ht : Cod.take fb with
 | none =>
   rw [ht] at KT
   have HK := hid KT
   have HNO := hid (HNR.out.no (by simp) ht)
   clear KT ht
   go_wp2_with fail
   refine HK.out.mono ?_
   rintro e w2 ⟨hb2, rfl⟩
   have KT2 : Hid (Calls Tryz.prog 29 #[.slice none 0 0] w2 (Taken w2 none)) := hid (rtake_any none 0 [] w2 RdB.nil (by simp) (by simp) (by simp))
   have HB2 := hid hb2
   clear hb2
   go_wp2_with fail
   refine KT2.out.mono ?_
   rintro e w3 ⟨hb3, rfl⟩
   have HB3 := hid (HB2.out.trans (hb3.mono HB2.out.size))
   clear hb3
   go_wp2_with fail
   go_ret2
   exact HGN.out _ HB3.out HNO.out
 | some v1 =>
   obtain ⟨n1, r1⟩ := v1
   rw [ht] at KT
   have HK := hid KT
   have HNR1 := hid (HNR.out.step (by simp) ht)
   have e1 := Cod.take_number ht
   have hr1 : r1.length ≤ fb.length := by rw [e1, List.length_append]; omega
   clear KT ht e1
   go_wp2_with fail
   refine HK.out.mono ?_
   rintro e w2 ⟨hb2, A1, d1, rfl, hd1, hdd1, hrd1⟩
   have HB2 := hid hb2
   have HRD1 := hid hrd1
   have KT := rtake_any A1 d1 r1 w2 hrd1 (by have := HFB.out; omega) hd1 hdd1
   clear hb2 hrd1
   cases ht : Cod.take r1 with
   | none =>
     rw [ht] at KT
     have HK := hid KT
     have HNO := hid (HNR1.out.no (by simp) ht)
     clear KT ht
     go_wp2_with fail
     refine HK.out.mono ?_
     rintro e w3 ⟨hb3, rfl⟩
     have HB3 := hid (HB2.out.trans (hb3.mono HB2.out.size))
     clear hb3
     go_wp2_with fail
     go_ret2
     exact HGN.out _ HB3.out HNO.out
   | some v2 =>
     obtain ⟨n2, r2⟩ := v2
     rw [ht] at KT
     have HK := hid KT
     have HNR2 := hid (HNR1.out.step (by simp) ht)
     have e1 := Cod.take_number ht
     have hr2 : r2.length ≤ fb.length := by
       have h1 := congrArg List.length e1
       rw [List.length_append] at h1; omega
     clear KT ht e1
     go_wp2_with fail
     refine HK.out.mono ?_
     rintro e w3 ⟨hb3, A2, d2, rfl, hd2, hdd2, hrd2⟩
     have HB3 := hid (HB2.out.trans (hb3.mono HB2.out.size))
     clear hb3 hrd2
     by_cases g1 : (32768 : Int) < (n1 : Int)
     · have HNO : Hid (∀ l s t, ¬ Tb.Is b l s t) := hid (fun l s t hi => by have := (HNR2.out.two hi).2.2.1; omega)
       go_wp2_with fail
       go_ret2
       exact HGN.out _ HB3.out HNO.out
     by_cases g2 : (32 : Int) < (n2 : Int)
     · have HNO : Hid (∀ l s t, ¬ Tb.Is b l s t) := hid (fun l s t hi => by have := (HNR2.out.two hi).2.2.2.1; omega)
       go_wp2_with fail
       go_ret2
       exact HGN.out _ HB3.out HNO.out
     by_cases g3 : (30 : Int) < (r2.length : Int)
     · have HNO : Hid (∀ l s t, ¬ Tb.Is b l s t) := hid (fun l s t hi => by have := (HNR2.out.two hi).2.2.2.2; omega)
       go_wp2_with fail
       go_ret2
       exact HGN.out _ HB3.out HNO.out
     have HNST : Hid (∀ l s t, Tb.Is b l s t → s = (n1 : Int) ∧ t = (n2 : Int)) := hid (fun l s t hi => ⟨(HNR2.out.two hi).1, (HNR2.out.two hi).2.1⟩)
     have hfr3 : RdFv w3 w3.heap.size (some ⟨gF, oF, none⟩) L := (HFR.out.below HB3.out (Nat.le_refl _)).more HB3.out.size
     have HFR3 := hid hfr3
     have hgF3 : gF < w3.heap.size := by have := HB3.out.size; omega
     have HROW3 : Hid (∀ k (hk : k < n) (hk2 : k < L.length), w3.cell? ⟨gF, oF + k * 2 + 1, none⟩ = some (.slice L[k].A L[k].b.length L[k].c)) := hid (fun k hk hk2 => (HB3.out.cell (p := ⟨gF, oF + k * 2 + 1, none⟩) hgF).trans (HROW.out k hk2).2)
     have ixn : IntKind.i64.wrap (((n + 3 : Nat) : Int) - 3) = (n : Int) := by rw [IntKind.wrap_i64]; omega
     have hw1 : IntKind.i64.wrap (n1 : Int) = (n1 : Int) := by rw [IntKind.wrap_i64]; omega
     have hw2 : IntKind.i64.wrap (n2 : Int) = (n2 : Int) := by rw [IntKind.wrap_i64]; omega
     have HW12 := hid (And.intro hw1 hw2)
     clear hfr3 hw1 hw2 HNR HNR1 HNR2 HFR HROW c1
     go_wp2_with fail
     go_loopw [12, 13] (fun al i wr => ∃ (k : Nat) (RA : Option Addr) (RC : Nat) (R : List Rv), k ≤ n ∧ i = .int .i64 (k : Int) ∧ al = .slice RA R.length RC ∧ R.length ≤ 20000 ∧ Hid (OpR w3 w3.heap.size RA RC R wr) ∧ Hid (Tb.TR b (L.map Fv.pr) k 0 R)) (fun _ i _ => n - (intOf i).toNat)
     case atStart => exact ⟨0, none, 0, [], by omega, rfl, rfl, by simp, hid (OpR.start w3), hid (Tb.TR.start _ _)⟩
     case round =>
       obtain ⟨k, RA, RC, R, hk, rfl, rfl, hR, HOP, HTR⟩ := hrel
       by_cases hlt : k < n
       · have hkL : k < L.length := by have := HN3.out; omega
         obtain ⟨f, hf⟩ : ∃ f, f = L[k] := ⟨_, rfl⟩
         have hfm : f ∈ L := by rw [hf]; exact List.getElem_mem _
         have c1 := HROW3.out k hlt hkL
         rw [← hf] at c1
         have r1 := (HOP.out.below.cell (p := ⟨gF, oF + k * 2 + 1, none⟩) hgF3).trans c1
         have hok := HFR3.out.ok f hfm
         have hft : f.b.length ≤ 65536 := HSC.out.fit f.pr (List.mem_map_of_mem hfm)
         have hLk : (L.map Fv.pr)[k]? = some f.pr := by rw [List.getElem?_map, List.getElem?_eq_getElem hkL, ← hf]; rfl
         have hkl : k < (L.map Fv.pr).length - 3 := by rw [List.length_map]; have := HN3.out; omega
         have KP := hid (rparse_any f.A f.c f.b wr ((hok.1.below HOP.out.below (Nat.le_refl _)).more HOP.out.size) hft hok.2.1 hok.2.2)
         have HLK := hid (And.intro hLk hkl)
         have HFT := hid hft
         obtain ⟨fk, fA, fc, fb⟩ := f
         simp only at r1 KP HLK HFT
         clear c1 hok hft hLk hfm hf
         go_wp2_with fail
         refine KP.out.mono ?_
         rintro e w4 ⟨hb4, ⟨x, hx, rfl, hno⟩ | ⟨P, PA, PC, rfl, hop, hpl, hpb, hwf⟩⟩
         · have HNO := hid (Tb.block_no HLK.out.1 HLK.out.2 hno HSC.out HTN.out)
           have HBD := hid (HB3.out.trans ((HOP.out.call hb4).below.mono HB3.out.size))
           have hx2 : (x == 0) = false := by simpa using hx
           have hx3 : (x != 0) = true := by simpa using hx
           clear hb4 hno hx
           go_wp2_with fail
           go_ret2
           exact HGN.out _ HBD.out HNO.out
         · have HBR := hid (Tb.BR.of (b := b) HLK.out.1 HLK.out.2 hwf)
           have HOP4 := hid (HOP.out.call hb4)
           have HPV := hid (hop.mono HOP.out.size)
           have HPB := hid hpb
           have hpl2 : P.length ≤ 65536 := Nat.le_trans hpl HFT.out
           clear hb4 hop hpl hpb hwf
           have hws : IntKind.i64.wrap ((R.length : Int) + (P.length : Int)) = (R.length : Int) + (P.length : Int) := by rw [IntKind.wrap_i64]; omega
           by_cases hmx : (20000 : Int) < (R.length : Int) + (P.length : Int)
           · have HNO : Hid (∀ l s t, ¬ Tb.Is b l s t) := hid (fun l s t hi => by
               have := HTR.out.fewP HBR.out HSC.out HTN.out hi
               rw [List.length_map] at this
               omega)
             have HBD := hid (HB3.out.trans (HOP4.out.below.mono HB3.out.size))
             go_wp2_with fail
             go_ret2
             exact HGN.out _ HBD.out HNO.out
           go_wp2_with fail
           go_loopw [12, 16] (fun al q wx => ∃ (j : Nat) (RA2 : Option Addr) (RC2 : Nat) (R2 : List Rv), j ≤ P.length ∧ q = .int .i64 (j : Int) ∧ al = .slice RA2 R2.length RC2 ∧ R2.length = R.length + j ∧ Hid (OpR w3 w3.heap.size RA2 RC2 R2 wx) ∧ Hid (OwnPv wx w3.heap.size PA PC P) ∧ Hid (Tb.TR b (L.map Fv.pr) k j R2)) (fun _ q _ => P.length - (intOf q).toNat)
           case atStart => exact ⟨0, RA, RC, R, by omega, rfl, rfl, rfl, HOP4, HPV, HTR⟩
           case round =>
             obtain ⟨j, RA2, RC2, R2, hj, rfl, rfl, hR2, HO, HP, HT⟩ := hrel
             by_cases hjl : j < P.length
             · obtain ⟨pb, po, hPA, hpbl, hpc⟩ := RdS.row (f := Pv.cells) (n := 2) (fun _ => rfl) (by omega) HP.out.row.rd (by omega)
               subst hPA
               obtain ⟨p, hp⟩ : ∃ p, p = P[j] := ⟨_, rfl⟩
               have hpm : p ∈ P := by rw [hp]; exact List.getElem_mem hjl
               have s0 := hpc j hjl 0 _ rfl
               have s1 := hpc j hjl 1 _ rfl
               rw [← hp] at s0 s1
               have ho := HP.out.own p hpm
               have hbd := HPB.out p hpm
               have KR := hid (rrecord_any p wr w3.heap.size HO.out.size ho.1.hbs ho.1.cap ho.1.cap_le ho.2.hbs ho.2.cap ho.2.cap_le (by have := HFT.out; omega) (by have := HFT.out; omega))
               have hPj : (P.map Pv.pr)[j]? = some p.pr := by rw [List.getElem?_map, List.getElem?_eq_getElem hjl, ← hp]; rfl
               have HPJ := hid hPj
               have HBD2 : Hid (p.k.length ≤ 70000 ∧ p.v.length ≤ 70000) := hid (by have := HFT.out; omega)
               obtain ⟨pkA, pkc, pk, pvA, pvc, pv⟩ := p
               simp only [Nat.add_zero] at s0 s1 KR HPJ HBD2
               clear hp hpm ho hbd hPj hpc
               go_wp2_with fail
               refine KR.out.mono ?_
               rintro e w5 ⟨hb5, ⟨rfl, hno⟩ | ⟨rc, rfl, hrec, hk1, hk2, hv1, hv2, hkl1, hvl1⟩⟩
               · have HNO := hid (HT.out.no HBR.out HPJ.out hno HSC.out HTN.out)
                 have HO5 := hid (HO.out.call hb5)
                 clear hb5 hno
                 go_wp2_with fail
                 go_ret2
                 exact HGN.out _ (HB3.out.trans ((HO5.out.call ((Below.refl _ _).alloc (Nat.le_refl _) _)).below.mono HB3.out.size)) HNO.out
               · have HO5 := hid (HO.out.call hb5)
                 have HP5 := hid (HP.out.call hb5)
                 have HT5 := hid (HT.out.step HBR.out HPJ.out hrec)
                 obtain ⟨kA, kc, kk, seq, del, vA, vc, vv⟩ := rc
                 simp only at hk1 hk2 hv1 hv2 hkl1 hvl1
                 have HRI : Hid ((HBs w5 w3.heap.size kA kk ∧ kk.length ≤ kc ∧ HBs w5 w3.heap.size vA vv ∧ vv.length ≤ vc) ∧ kk.length ≤ 70000 ∧ vv.length ≤ 70000) := hid ⟨⟨hk1, hk2, hv1, hv2⟩, Nat.le_trans hkl1 HBD2.out.1, Nat.le_trans hvl1 HBD2.out.2⟩
                 have hR2b : R2.length ≤ 100000 := by omega
                 have hz5 := HO5.out.size
                 clear hb5 hrec hk1 hk2 hv1 hv2 hkl1 hvl1
                 simp only [Rv.val]
                 go_wp2_with (at_builtin; refine wpList_append_s _ rfl _ _ recT rfl w3.heap.size RA2 RC2 R2 rfl ((HO5.out.row.alloc _).alloc _) (w5.heap.size + 2) (some ⟨w5.heap.size + 1, 0, none⟩) 1 1 [⟨kA, kc, kk, seq, del, vA, vc, vv⟩] rfl rfl (rd_rec_new2 w5 _ ⟨kA, kc, kk, seq, del, vA, vc, vv⟩) (by simp; omega) (by unfold maxLen; simp; omega) (by simp; omega) ?_)
                 intro RA3 RC3 R3 w6 hR3 hoS hgS hatS
                 have hba : ∀ o o2, Below w5.heap.size w5 ((w5.alloc o).alloc o2) := fun o o2 => below_al2 w5 o o2
                 rw [hR3] at hoS
                 have HO6 := hid ((HO5.out.call (hba _ _)).app (r := ⟨kA, kc, kk, seq, del, vA, vc, vv⟩) ⟨⟨HRI.out.1.1.below (hba _ _), HRI.out.1.2.1, HRI.out.1.2.2.1.below (hba _ _), HRI.out.1.2.2.2⟩, HRI.out.2⟩ hoS hgS)
                 have HP6 := hid ((HP5.out.call (hba _ _)).kept_rec (HO5.out.call (hba _ _)).row hgS)
                 obtain ⟨rr, hrr⟩ : ∃ rr : Rv, rr = ⟨kA, kc, kk, seq, del, vA, vc, vv⟩ := ⟨_, rfl⟩
                 rw [← hrr] at hR3 HO6 HT5
                 subst hR3
                 have hmes : P.length - (j + 1) < P.length - j := by omega
                 have hR3l : (R2 ++ [rr]).length = R.length + (j + 1) := by rw [List.length_append, hR2]; rfl
                 have HR3 := hid hR3l
                 clear hrr hoS hgS hatS hba HO5 HP5 HRI hR3l
                 go_wp2_with fail
                 go_roundw
                 case rel => exact ⟨j + 1, RA3, RC3, R2 ++ [rr], hjl, by simp, rfl, HR3.out, HO6, HP6, HT5⟩
                 case measure =>
                   show P.length - ((j : Int) + 1).toNat < P.length - ((j : Int)).toNat
                   omega
             · have hje : j = P.length := by omega
               have HT2 : Hid (Tb.TR b (L.map Fv.pr) (k + 1) 0 R2) := hid (by
                 have h1 := HT.out
                 rw [hje] at h1
                 exact Tb.TR.block (P := P.map Pv.pr) (by rw [List.length_map]; exact h1) HBR.out)
               have hmes : n - (k + 1) < n - k := by omega
               have hR2b : R2.length ≤ 20000 := by omega
               go_wp2_with fail
               go_roundw
               case rel => exact ⟨k + 1, RA2, RC2, R2, hlt, by simp, rfl, hR2b, HO, HT2⟩
               case measure =>
                 show n - ((k : Int) + 1).toNat < n - ((k : Int)).toNat
                 omega
       · have hke : k = n := by omega
         have HTE : Hid (Tb.TR b (L.map Fv.pr) ((L.map Fv.pr).length - 3) 0 R) := hid (by
           have h1 := HTR.out
           have e : (L.map Fv.pr).length - 3 = k := by rw [List.length_map]; have := HN3.out; omega
           rw [e]; exact h1)
         have KB := rtbuild_any RA RC R (n1 : Int) (n2 : Int) wr HOP.out.rd (by omega) (fun r hr => by have := (HOP.out.inn r hr).2; omega)
         obtain ⟨er, her⟩ : ∃ er, er = (Tb.build R (n1 : Int) (n2 : Int)).1 := ⟨_, rfl⟩
         obtain ⟨bb, hbb⟩ : ∃ bb, bb = (Tb.build R (n1 : Int) (n2 : Int)).2 := ⟨_, rfl⟩
         have HBE : Hid (Tb.build R (n1 : Int) (n2 : Int) = (er, bb)) := hid (by rw [her, hbb])
         rw [← her, ← hbb] at KB
         have hw1 := HW12.out.1
         have hw2 := HW12.out.2
         have HK := hid KB
         have HLAST : Hid ((er, bb) ≠ (0, b) → ∀ l s t, ¬ Tb.Is b l s t) := hid (fun hne => Tb.last_no HTE.out HSC.out HTN.out HNST.out (by rw [HBE.out]; exact hne))
         clear KB her hbb
         go_wp2_with fail
         refine HK.out.mono ?_
         rintro e w4 ⟨hb4, ⟨hne, rfl⟩ | ⟨rfl, AA, ac, rfl, hoa⟩⟩
         · have HNO := hid (HLAST.out (fun e => hne (by injection e)))
           have HBD := hid (HB3.out.trans ((HOP.out.call hb4).below.mono HB3.out.size))
           have hx2 : (er == 0) = false := by simpa using hne
           have hx3 : (er != 0) = true := by simpa using hne
           clear hb4 hne
           go_wp2_with fail
           go_ret2
           exact HGN.out _ HBD.out HNO.out
         · have HBD := hid (HB3.out.trans ((HOP.out.call hb4).below.mono HB3.out.size))
           have s1 := strB_of (c := ac) hoa.rd
           have s2 := strB_of (c := c) (HH.out.below (HB1.out.trans (HBD.out.mono HB1.out.size)) (Nat.le_refl _))
           unfold StrB at s1 s2
           obtain ⟨SF, hSF⟩ : ∃ SF : ByteArray, SF = ⟨bb.toArray⟩ := ⟨_, rfl⟩
           obtain ⟨SB, hSB⟩ : ∃ SB : ByteArray, SB = ⟨b.toArray⟩ := ⟨_, rfl⟩
           rw [← hSF] at s1
           rw [← hSB] at s2
           have HRD := hid (HOP.out.call hb4).rd
           clear hb4 hoa
           by_cases hfx : bb = b
           · have hss : SB = SF := by rw [hSB, hSF, hfx]
             have HIS : Hid (Tb.Is b R (n1 : Int) (n2 : Int)) := hid (by unfold Tb.Is; rw [HBE.out, hfx])
             have HALL : Hid (∀ l s t, Tb.Is b l s t → l.map Rv.core = R.map Rv.core) := hid (fun l s t hi => HTE.out.all HSC.out HTN.out hi)
             subst hss
             clear hSF hSB hfx
             go_wp2_with fail
             go_ret2
             exact ⟨HB1.out.trans (HBD.out.mono HB1.out.size), .inr ⟨R, RA, RC, (n1 : Int), (n2 : Int), rfl, HRD.out, HIS.out, HALL.out⟩⟩
           · have hne := str_ne hSF.symm hSB.symm hfx
             have HNO := hid (HLAST.out (fun e => hfx (by injection e)))
             clear hSF hSB hfx
             go_wp2_with fail
             go_ret2
             exact HGN.out _ HBD.out HNO.out
end Go.Proofs.YtgafionfojnieaaGreatDoor
