/- Parts of the proof, one behind the other: The contract of the program's block.Build.; The contract of the reference's Build of blocks (written by gen_blkc.py). -/
import Derived.Test.YtgafionfojnieaaGreatDoorMrg17
import Derived.Test.YtgafionfojnieaaGreatDoorMrg12
import Derived.StillTailTactics
import Derived.Test.YtgafionfojnieaaGreatDoorMrg21
namespace Go.Proofs.YtgafionfojnieaaGreatDoor
open Go.RowKit
open Lib (hid)
set_option maxHeartbeats 4000000 in
set_option maxRecDepth 100000 in
theorem blkbuild_any (E : Nat) (hE : 1 ≤ E) (hE2 : E ≤ 64) (A : Option Addr) (c : Nat) (l : List Pv) (w : World) (h : RdPv w w.heap.size A l) (hln : l.length ≤ 1000000) (hsz : ∀ p ∈ l, p.k.length ≤ 100000 ∧ p.v.length ≤ 100000) :
   Calls Tryz.prog 44 #[.slice A l.length c, .int .i64 (E : Int)] w (GivesR w (Blk.err (E : Int) (l.map Pv.pr)) (Blk.build E (l.map Pv.pr))) := by
 by_cases hbig : 20000 < l.length
 · have e0 : Blk.err (E : Int) (l.map Pv.pr) = 1 := by unfold Blk.err; rw [if_pos (.inr (.inr (by simpa using hbig)))]
   rw [e0]
   go_enter Tryz.func44, Tryz.ntmps44
   go_wp2_with fail
   go_ret2
   exact ⟨Below.refl _ _, .inl ⟨by decide, rfl⟩⟩
 have hl : l.length ≤ 20000 := by omega
 clear hbig hln
 have herr : Hid (Blk.err (E : Int) (l.map Pv.pr) = if Blk.srt (l.map Pv.pr) then 0 else 10) := hid (by unfold Blk.err; rw [if_neg (by simp; omega)])
 obtain ⟨M, hM⟩ : ∃ M, M = l.map Pv.pr := ⟨_, rfl⟩
 have hml : M.length = l.length := by rw [hM]; simp
 have hMk : ∀ k (hk : k < l.length) (hk' : k < M.length), M[k] = l[k].pr := fun k hk hk' => by subst hM; simp
 have HML := hid hml; have HMK := hid hMk
 have HLN : Hid (∀ k, k ≤ l.length → (Blk.run E (M.take k)).out.length ≤ k * 200030 ∧ (Blk.run E (M.take k)).heads.length ≤ k) := hid fun k hk => Blk.run_len E M (fun p hp => by
   rw [hM] at hp
   obtain ⟨q, hq, rfl⟩ := List.mem_map.1 hp
   exact hsz q hq) k (by omega)
 have HSZ := hid hsz
 rw [← hM] at herr ⊢
 have HR := hid h
 clear hM hml hMk hsz h
 have dE1 : decide ((E : Int) < 1) = false := by rw [decide_eq_false_iff_not]; omega
 have dE2 : decide (64 < (E : Int)) = false := by rw [decide_eq_false_iff_not]; omega
 have dE3 : decide (20000 < (l.length : Int)) = false := by rw [decide_eq_false_iff_not]; omega
 go_enter Tryz.func44, Tryz.ntmps44
 go_wp2_with fail
 go_loopw [6, 7, 8, 25] (fun uo uh ul ui wr => ∃ (k : Nat) (A1 : Option Addr) (c1 : Nat) (o : List UInt8) (A2 : Option Addr) (c2 : Nat) (hh : List UInt8) (LA : Option Addr) (lc : Nat) (Ls : List UInt8), k ≤ l.length ∧ ui = .int .i64 (k : Int) ∧ uo = .slice A1 o.length c1 ∧ uh = .slice A2 hh.length c2 ∧ ul = .slice LA Ls.length lc ∧
   Hid (o = (Blk.run E (M.take k)).out ∧ hh = Blk.hb (Blk.run E (M.take k)).heads ∧ Ls = (Blk.run E (M.take k)).last ∧ Blk.Srt M k) ∧ Hid (Two w w.heap.size A1 c1 o A2 c2 hh wr) ∧ Hid (RdB wr w.heap.size LA Ls) ∧ Hid (Ls.length ≤ 4611686018427387904)) (fun _ _ _ i _ => l.length - (intOf i).toNat)
 case atStart =>
   exact ⟨0, none, 0, [], none, 0, [], none, 0, [], by omega, rfl, rfl, rfl, rfl, hid ⟨rfl, rfl, rfl, fun i _ _ h => absurd h (by omega)⟩, hid ⟨Own.nil _ _ _, Own.nil _ _ _, (fun g h => by cases h), Below.refl _ _, Nat.le_refl _⟩, hid RdB.nil, hid (by simp)⟩
 case round =>
   obtain ⟨k, A1, c1, o, A2, c2, hh, LA, lc, Ls, hk, rfl, rfl, rfl, rfl, HS, HT, HLs, HLn⟩ := hrel
   have hzr : w.heap.size ≤ wr.heap.size := HT.out.size
   have hol : o.length ≤ 4000600000 := by rw [HS.out.1]; have := (HLN.out k hk).1; have : k * 200030 ≤ 20000 * 200030 := Nat.mul_le_mul_right _ (by omega); omega
   have hhl : hh.length ≤ 80000 := by rw [HS.out.2.1, Blk.hb_len]; have := (HLN.out k hk).2; omega
   by_cases hlt : k < l.length
   · obtain ⟨b, off, rfl, _, hc⟩ := (HR.out.below HT.out.below (Nat.le_refl _)).row2 (by omega)
     obtain ⟨x0, x1⟩ := hc k hlt
     have HP : Hid (Pv.Ok w w.heap.size l[k]) := hid (HR.out.ok _ (List.getElem_mem hlt))
     have HLL : Hid (Ls.length ≤ 4611686018427387904) := HLn
     have HSP := hid (HSZ.out _ (List.getElem_mem hlt))
     have HMP := hid (HMK.out k hlt (by rw [HML.out]; exact hlt))
     have HRS : Hid (Blk.run E (M.take (k + 1)) = Blk.step E (Blk.run E (M.take k)) l[k].pr) := hid (by rw [Blk.run_succ E M k (by rw [HML.out]; exact hlt), HMP.out])
     obtain ⟨p, hp⟩ : ∃ p, p = l[k] := ⟨_, rfl⟩
     rw [← hp] at x0 x1 HP HSP HMP HRS
     clear hc hp
     obtain ⟨kA, kc, K, vA, vc, V⟩ := p
     simp only at x0 x1
     have hK := HSP.out.1; have hV := HSP.out.2
     simp only at hK hV
     -- WAYS
     -- WAYS
     -- WAYS
     -- WAYS
     -- WAYS
     by_cases hk0 : k = 0
     · subst hk0
       simp only [Nat.zero_mul, Nat.add_zero] at x0 x1
       have HMOD : Hid (0 % E = 0) := hid (Nat.zero_mod _)
       have HSRT : Hid (Blk.Srt M (0 + 1)) := hid (fun i _ h0 h1 => absurd h0 (by omega))
       have TT0 := hid (HT.out.alloc (.cells #[.slice kA K.length kc, .slice vA V.length vc] 77))
       have BB0 := hid (BoxAt.new HT.out (.cells #[.slice kA K.length kc, .slice vA V.length vc] 77))
       go_wp2_with fail
       refine (word_any o.length _).mono ?_
       rintro e w1 ⟨Ax, cx, rfl, hox, hbx⟩
       have T1 := hid (TT0.out.call hbx); have B1 := hid (BB0.out.call hbx)
       have HOX := hid hox.rd
       have hz1 := T1.out.size
       clear hox hbx
       go_wp2_with (at_builtin; refine wpList_append_b _ rfl _ _ bt rfl w.heap.size A2 c2 hh rfl T1.out.own2 _ Ax (Frm.be4 o.length).length cx (Frm.be4 o.length) rfl rfl HOX.out (by simp [Frm.be4]; omega) hz1 ?_)
       intro A3 c3 h3 w2 hL2 ho2 hg2 hat2
       have T2 := hid (T1.out.app2 ho2 hg2 hat2); have B2 := hid (B1.out.app2 hg2 hat2)
       have HH : Hid (h3 = Blk.hb ((Blk.run E (M.take 0)).heads ++ [(Blk.run E (M.take 0)).out.length])) := hid (by rw [hL2, Blk.hb_snoc, ← HS.out.1, ← HS.out.2.1])
       clear hL2 ho2 hg2 hat2
       have HSTEP : Hid (Blk.run E (M.take (0 + 1)) = ⟨(Blk.run E (M.take 0)).out ++ Blk.entry 0 ⟨K, V⟩, (Blk.run E (M.take 0)).heads ++ [(Blk.run E (M.take 0)).out.length], K, (Blk.run E (M.take 0)).i + 1⟩) := hid (by rw [HRS.out]; unfold Blk.step; rw [if_pos (by rw [Blk.run_i E M 0 (by rw [HML.out]; omega)]; exact HMOD.out)]; rfl)
       have KN : Hid (∀ w, Calls Tryz.prog 81 #[.int .u64 0] w (GivesB w (Cod.number 0))) := hid (fun w => number_any 0 (by omega) w)
       go_wp2_with fail
       have HNB := hid (Cod.number_len (n := 0) (by omega))
       refine (KN.out _).mono ?_
       rintro e w3 ⟨Ay, cy, rfl, hoy, hby⟩
       have T3 := hid (T2.out.call hby); have B3 := hid (B2.out.call hby)
       have HOY := hid hoy.rd
       have hz3 := T3.out.size
       clear hoy hby
       go_wp2_with (at_builtin; refine wpList_append_b _ rfl _ _ bt rfl w.heap.size A1 c1 o rfl T3.out.own1 _ Ay (Cod.number 0).length cy (Cod.number 0) rfl rfl HOY.out (by have := HNB.out; omega) hz3 ?_)
       intro A4 c4 o4 w4 hL4 ho4 hg4 hat4
       have T4 := hid (T3.out.app1 ho4 hg4 hat4); have B4 := hid (B3.out.app1 hg4 hat4)
       have HL4 := hid hL4
       have hl4 : o4.length ≤ 4000600010 := by rw [hL4, List.length_append]; have := HNB.out; omega
       clear hL4 ho4 hg4 hat4
       have y0 := B4.out.cell0
       have HRK4 : Hid (RdB w4 w4.heap.size kA K) := hid ((HP.out.key.below (T4.out.below) (Nat.le_refl _)).more T4.out.size)
       have HKD : Hid (K.length ≤ 100000) := hid hK
       have KT := hid (text_any kA kc K w4 HRK4.out (by omega))
       go_wp2_with fail
       refine KT.out.mono ?_
       rintro e w5 ⟨Az, cz, rfl, hoz, hbz⟩
       have T5 := hid (T4.out.call hbz); have B5 := hid (B4.out.call hbz)
       have HOZ := hid hoz.rd
       have HTB := hid (Cod.number_len (n := (K).length) (by have := HKD.out; omega))
       have htl : (Cod.text (K)).length ≤ 100010 := by unfold Cod.text; rw [List.length_append]; have := HTB.out; have := HKD.out; omega
       have hz5 := T5.out.size
       clear hoz hbz y0
       go_wp2_with (at_builtin; refine wpList_append_b _ rfl _ _ bt rfl w.heap.size A4 c4 o4 rfl T5.out.own1 _ Az (Cod.text (K)).length cz (Cod.text (K)) rfl rfl HOZ.out (by omega) hz5 ?_)
       intro A6 c6 o6 w6 hL6 ho6 hg6 hat6
       have T6 := hid (T5.out.app1 ho6 hg6 hat6); have B6 := hid (B5.out.app1 hg6 hat6)
       have HL6 := hid hL6
       have hl6 : o6.length ≤ 4000800030 := by rw [hL6, List.length_append]; omega
       clear hL6 ho6 hg6 hat6
       have y1 := B6.out.cell1
       have KV := hid (text_any vA vc V w6 ((HP.out.val.below T6.out.below (Nat.le_refl _)).more T6.out.size) (by omega))
       have HVB := hid (Cod.number_len (n := V.length) (by omega))
       have hvl : (Cod.text V).length ≤ 100010 := by unfold Cod.text; rw [List.length_append]; have := HVB.out; omega
       go_wp2_with fail
       refine KV.out.mono ?_
       rintro e w7 ⟨Au, cu, rfl, hou, hbu⟩
       have T7 := hid (T6.out.call hbu); have B7 := hid (B6.out.call hbu)
       have HOU := hid hou.rd
       have hz7 := T7.out.size
       clear hou hbu y1
       go_wp2_with (at_builtin; refine wpList_append_b _ rfl _ _ bt rfl w.heap.size A6 c6 o6 rfl T7.out.own1 _ Au (Cod.text V).length cu (Cod.text V) rfl rfl HOU.out (by omega) hz7 ?_)
       intro A8 c8 o8 w8 hL8 ho8 hg8 hat8
       have T8 := hid (T7.out.app1 ho8 hg8 hat8); have B8 := hid (B7.out.app1 hg8 hat8)
       have HNEW : Hid (o8 = (Blk.run E (M.take (0 + 1))).out ∧ h3 = Blk.hb (Blk.run E (M.take (0 + 1))).heads ∧ K = (Blk.run E (M.take (0 + 1))).last ∧ Blk.Srt M (0 + 1)) := hid ⟨by rw [HSTEP.out, hL8, HL6.out, HL4.out, HS.out.1]; simp [Blk.entry, List.append_assoc], by rw [HSTEP.out, HH.out], by rw [HSTEP.out], HSRT.out⟩
       clear hL8 ho8 hg8 hat8
       have y0 := B8.out.cell0
       go_wp2_with fail
       go_round
       case rel => exact ⟨0 + 1, A8, c8, o8, A3, c3, h3, kA, _, K, by omega, by go_num, rfl, rfl, rfl, HNEW, T8, hid (HP.out.key.below T8.out.below (Nat.le_refl _)), hid (by omega)⟩
       case measure => simp [intOf]; omega
     · have hkp : 0 < k := by omega
       have hkm : k - 1 < M.length := by rw [HML.out]; omega
       have HLK : Hid (Ls = (M[k - 1]'hkm).k) := hid (by
         have := Blk.run_last E M (k - 1) hkm
         rw [show k - 1 + 1 = k by omega] at this
         rw [HS.out.2.2.1, this])
       have HMK2 : Hid (M[k]'(by rw [HML.out]; omega) = ⟨K, V⟩) := HMP
       have KC := hid (bcmp_any w.heap.size kA kc K w.heap.size LA lc Ls (wr.alloc (.cells #[.slice kA K.length kc, .slice vA V.length vc] 77)) ((HP.out.key.below HT.out.below (Nat.le_refl _)).alloc hzr _) (HLs.out.alloc hzr _))
       have HC := hid (compareBytes_le K Ls)
       obtain ⟨C, hC⟩ : ∃ C, C = Lib.compareBytes K Ls := ⟨_, rfl⟩
       rw [← hC] at KC HC
       clear hC
       by_cases hless : Op.bytesLess Ls K = true
       · have hc0 : ¬ C ≤ 0 := fun h => by have := HC.out.1 h; rw [hless] at this; cases this
         have HSRT : Hid (Blk.Srt M (k + 1)) := hid (HS.out.2.2.2.step (by rw [HML.out]; omega) (fun _ => by rw [← HLK.out, HMK2.out]; exact hless))
         clear hless
         have TT0 := hid (HT.out.alloc (.cells #[.slice kA K.length kc, .slice vA V.length vc] 77))
         have BB0 := hid (BoxAt.new HT.out (.cells #[.slice kA K.length kc, .slice vA V.length vc] 77))
         by_cases hmod : k % E = 0
         · have HMOD := hid hmod
           have dm : (((k : Int) % (E : Int)) == 0) = true := by rw [beq_iff_eq]; omega
           clear hmod
           go_wp2_with fail
           refine KC.out.mono ?_
           rintro e w0 ⟨rfl, rfl⟩
           go_wp2_with fail
           refine (word_any o.length _).mono ?_
           rintro e w1 ⟨Ax, cx, rfl, hox, hbx⟩
           have T1 := hid (TT0.out.call hbx); have B1 := hid (BB0.out.call hbx)
           have HOX := hid hox.rd
           have hz1 := T1.out.size
           clear hox hbx
           go_wp2_with (at_builtin; refine wpList_append_b _ rfl _ _ bt rfl w.heap.size A2 c2 hh rfl T1.out.own2 _ Ax (Frm.be4 o.length).length cx (Frm.be4 o.length) rfl rfl HOX.out (by simp [Frm.be4]; omega) hz1 ?_)
           intro A3 c3 h3 w2 hL2 ho2 hg2 hat2
           have T2 := hid (T1.out.app2 ho2 hg2 hat2); have B2 := hid (B1.out.app2 hg2 hat2)
           have HH : Hid (h3 = Blk.hb ((Blk.run E (M.take k)).heads ++ [(Blk.run E (M.take k)).out.length])) := hid (by rw [hL2, Blk.hb_snoc, ← HS.out.1, ← HS.out.2.1])
           clear hL2 ho2 hg2 hat2
           have HSTEP : Hid (Blk.run E (M.take (k + 1)) = ⟨(Blk.run E (M.take k)).out ++ Blk.entry 0 ⟨K, V⟩, (Blk.run E (M.take k)).heads ++ [(Blk.run E (M.take k)).out.length], K, (Blk.run E (M.take k)).i + 1⟩) := hid (by rw [HRS.out]; unfold Blk.step; rw [if_pos (by rw [Blk.run_i E M k (by rw [HML.out]; omega)]; exact HMOD.out)]; rfl)
           have KN : Hid (∀ w, Calls Tryz.prog 81 #[.int .u64 0] w (GivesB w (Cod.number 0))) := hid (fun w => number_any 0 (by omega) w)
           go_wp2_with fail
           have HNB := hid (Cod.number_len (n := 0) (by omega))
           refine (KN.out _).mono ?_
           rintro e w3 ⟨Ay, cy, rfl, hoy, hby⟩
           have T3 := hid (T2.out.call hby); have B3 := hid (B2.out.call hby)
           have HOY := hid hoy.rd
           have hz3 := T3.out.size
           clear hoy hby
           go_wp2_with (at_builtin; refine wpList_append_b _ rfl _ _ bt rfl w.heap.size A1 c1 o rfl T3.out.own1 _ Ay (Cod.number 0).length cy (Cod.number 0) rfl rfl HOY.out (by have := HNB.out; omega) hz3 ?_)
           intro A4 c4 o4 w4 hL4 ho4 hg4 hat4
           have T4 := hid (T3.out.app1 ho4 hg4 hat4); have B4 := hid (B3.out.app1 hg4 hat4)
           have HL4 := hid hL4
           have hl4 : o4.length ≤ 4000600010 := by rw [hL4, List.length_append]; have := HNB.out; omega
           clear hL4 ho4 hg4 hat4
           have y0 := B4.out.cell0
           have HRK4 : Hid (RdB w4 w4.heap.size kA K) := hid ((HP.out.key.below (T4.out.below) (Nat.le_refl _)).more T4.out.size)
           have HKD : Hid (K.length ≤ 100000) := hid hK
           have KT := hid (text_any kA kc K w4 HRK4.out (by omega))
           go_wp2_with fail
           refine KT.out.mono ?_
           rintro e w5 ⟨Az, cz, rfl, hoz, hbz⟩
           have T5 := hid (T4.out.call hbz); have B5 := hid (B4.out.call hbz)
           have HOZ := hid hoz.rd
           have HTB := hid (Cod.number_len (n := (K).length) (by have := HKD.out; omega))
           have htl : (Cod.text (K)).length ≤ 100010 := by unfold Cod.text; rw [List.length_append]; have := HTB.out; have := HKD.out; omega
           have hz5 := T5.out.size
           clear hoz hbz y0
           go_wp2_with (at_builtin; refine wpList_append_b _ rfl _ _ bt rfl w.heap.size A4 c4 o4 rfl T5.out.own1 _ Az (Cod.text (K)).length cz (Cod.text (K)) rfl rfl HOZ.out (by omega) hz5 ?_)
           intro A6 c6 o6 w6 hL6 ho6 hg6 hat6
           have T6 := hid (T5.out.app1 ho6 hg6 hat6); have B6 := hid (B5.out.app1 hg6 hat6)
           have HL6 := hid hL6
           have hl6 : o6.length ≤ 4000800030 := by rw [hL6, List.length_append]; omega
           clear hL6 ho6 hg6 hat6
           have y1 := B6.out.cell1
           have KV := hid (text_any vA vc V w6 ((HP.out.val.below T6.out.below (Nat.le_refl _)).more T6.out.size) (by omega))
           have HVB := hid (Cod.number_len (n := V.length) (by omega))
           have hvl : (Cod.text V).length ≤ 100010 := by unfold Cod.text; rw [List.length_append]; have := HVB.out; omega
           go_wp2_with fail
           refine KV.out.mono ?_
           rintro e w7 ⟨Au, cu, rfl, hou, hbu⟩
           have T7 := hid (T6.out.call hbu); have B7 := hid (B6.out.call hbu)
           have HOU := hid hou.rd
           have hz7 := T7.out.size
           clear hou hbu y1
           go_wp2_with (at_builtin; refine wpList_append_b _ rfl _ _ bt rfl w.heap.size A6 c6 o6 rfl T7.out.own1 _ Au (Cod.text V).length cu (Cod.text V) rfl rfl HOU.out (by omega) hz7 ?_)
           intro A8 c8 o8 w8 hL8 ho8 hg8 hat8
           have T8 := hid (T7.out.app1 ho8 hg8 hat8); have B8 := hid (B7.out.app1 hg8 hat8)
           have HNEW : Hid (o8 = (Blk.run E (M.take (k + 1))).out ∧ h3 = Blk.hb (Blk.run E (M.take (k + 1))).heads ∧ K = (Blk.run E (M.take (k + 1))).last ∧ Blk.Srt M (k + 1)) := hid ⟨by rw [HSTEP.out, hL8, HL6.out, HL4.out, HS.out.1]; simp [Blk.entry, List.append_assoc], by rw [HSTEP.out, HH.out], by rw [HSTEP.out], HSRT.out⟩
           clear hL8 ho8 hg8 hat8
           have y0 := B8.out.cell0
           go_wp2_with fail
           go_round
           case rel => exact ⟨k + 1, A8, c8, o8, A3, c3, h3, kA, _, K, by omega, by go_num, rfl, rfl, rfl, HNEW, T8, hid (HP.out.key.below T8.out.below (Nat.le_refl _)), hid (by omega)⟩
           case measure => simp [intOf]; omega
         · have HMOD := hid hmod
           have dm : (((k : Int) % (E : Int)) == 0) = false := by rw [beq_eq_false_iff_ne]; omega
           clear hmod
           have HCL := hid (Blk.common_le Ls K)
           have KM := hid (common_any LA lc Ls kA kc K (wr.alloc (.cells #[.slice kA K.length kc, .slice vA V.length vc] 77)) ((HLs.out.alloc hzr _).more (by simp; omega)) (((HP.out.key.below HT.out.below (Nat.le_refl _)).alloc hzr _).more (by simp; omega)) HLL.out (by omega))
           have HSTEP : Hid (Blk.run E (M.take (k + 1)) = ⟨(Blk.run E (M.take k)).out ++ Blk.entry (Blk.common Ls K) ⟨K, V⟩, (Blk.run E (M.take k)).heads, K, (Blk.run E (M.take k)).i + 1⟩) := hid (by rw [HRS.out]; unfold Blk.step; rw [if_neg (by rw [Blk.run_i E M k (by rw [HML.out]; omega)]; exact HMOD.out), ← HS.out.2.2.1]; rfl)
           obtain ⟨N, hN⟩ : ∃ N, N = Blk.common Ls K := ⟨_, rfl⟩
           rw [← hN] at KM HSTEP HCL
           have hNK : N ≤ K.length := HCL.out.2
           clear hN
           have HH : Hid (hh = Blk.hb (Blk.run E (M.take k)).heads) := hid HS.out.2.1
           have KN : Hid (∀ w, Calls Tryz.prog 81 #[.int .u64 (N : Int)] w (GivesB w (Cod.number N))) := hid (fun w => number_any N (by omega) w)
           go_wp2_with fail
           refine KC.out.mono ?_
           rintro e w0 ⟨rfl, rfl⟩
           go_wp2_with fail
           refine KM.out.mono ?_
           rintro e w2 ⟨rfl, hbm⟩
           have T2 := hid (TT0.out.call hbm); have B2 := hid (BB0.out.call hbm)
           clear hbm
           go_wp2_with fail
           have HNB := hid (Cod.number_len (n := N) (by omega))
           refine (KN.out _).mono ?_
           rintro e w3 ⟨Ay, cy, rfl, hoy, hby⟩
           have T3 := hid (T2.out.call hby); have B3 := hid (B2.out.call hby)
           have HOY := hid hoy.rd
           have hz3 := T3.out.size
           clear hoy hby
           go_wp2_with (at_builtin; refine wpList_append_b _ rfl _ _ bt rfl w.heap.size A1 c1 o rfl T3.out.own1 _ Ay (Cod.number N).length cy (Cod.number N) rfl rfl HOY.out (by have := HNB.out; omega) hz3 ?_)
           intro A4 c4 o4 w4 hL4 ho4 hg4 hat4
           have T4 := hid (T3.out.app1 ho4 hg4 hat4); have B4 := hid (B3.out.app1 hg4 hat4)
           have HL4 := hid hL4
           have hl4 : o4.length ≤ 4000600010 := by rw [hL4, List.length_append]; have := HNB.out; omega
           clear hL4 ho4 hg4 hat4
           have y0 := B4.out.cell0
           have HRK4 : Hid (RdB w4 w4.heap.size kA K) := hid ((HP.out.key.below (T4.out.below) (Nat.le_refl _)).more T4.out.size)
           have HKD : Hid ((K.drop N).length ≤ 100000) := hid (by rw [List.length_drop]; omega)
           have KT := hid (text_any (if kc = N then kA else kA.map (·.add N)) (kc - N) (K.drop N) w4 (HRK4.out.drop hNK HP.out.kc) (by rw [List.length_drop]; omega))
           rw [List.length_drop] at KT
           by_cases hcN : kc = N
           · have hcN2 := hcN.symm
             subst hcN2
             rw [if_pos rfl, Nat.sub_self] at KT
             go_wp2_with fail
             refine KT.out.mono ?_
             rintro e w5 ⟨Az, cz, rfl, hoz, hbz⟩
             have T5 := hid (T4.out.call hbz); have B5 := hid (B4.out.call hbz)
             have HOZ := hid hoz.rd
             have HTB := hid (Cod.number_len (n := (K.drop N).length) (by have := HKD.out; omega))
             have htl : (Cod.text (K.drop N)).length ≤ 100010 := by unfold Cod.text; rw [List.length_append]; have := HTB.out; have := HKD.out; omega
             have hz5 := T5.out.size
             clear hoz hbz y0
             go_wp2_with (at_builtin; refine wpList_append_b _ rfl _ _ bt rfl w.heap.size A4 c4 o4 rfl T5.out.own1 _ Az (Cod.text (K.drop N)).length cz (Cod.text (K.drop N)) rfl rfl HOZ.out (by omega) hz5 ?_)
             intro A6 c6 o6 w6 hL6 ho6 hg6 hat6
             have T6 := hid (T5.out.app1 ho6 hg6 hat6); have B6 := hid (B5.out.app1 hg6 hat6)
             have HL6 := hid hL6
             have hl6 : o6.length ≤ 4000800030 := by rw [hL6, List.length_append]; omega
             clear hL6 ho6 hg6 hat6
             have y1 := B6.out.cell1
             have KV := hid (text_any vA vc V w6 ((HP.out.val.below T6.out.below (Nat.le_refl _)).more T6.out.size) (by omega))
             have HVB := hid (Cod.number_len (n := V.length) (by omega))
             have hvl : (Cod.text V).length ≤ 100010 := by unfold Cod.text; rw [List.length_append]; have := HVB.out; omega
             go_wp2_with fail
             refine KV.out.mono ?_
             rintro e w7 ⟨Au, cu, rfl, hou, hbu⟩
             have T7 := hid (T6.out.call hbu); have B7 := hid (B6.out.call hbu)
             have HOU := hid hou.rd
             have hz7 := T7.out.size
             clear hou hbu y1
             go_wp2_with (at_builtin; refine wpList_append_b _ rfl _ _ bt rfl w.heap.size A6 c6 o6 rfl T7.out.own1 _ Au (Cod.text V).length cu (Cod.text V) rfl rfl HOU.out (by omega) hz7 ?_)
             intro A8 c8 o8 w8 hL8 ho8 hg8 hat8
             have T8 := hid (T7.out.app1 ho8 hg8 hat8); have B8 := hid (B7.out.app1 hg8 hat8)
             have HNEW : Hid (o8 = (Blk.run E (M.take (k + 1))).out ∧ hh = Blk.hb (Blk.run E (M.take (k + 1))).heads ∧ K = (Blk.run E (M.take (k + 1))).last ∧ Blk.Srt M (k + 1)) := hid ⟨by rw [HSTEP.out, hL8, HL6.out, HL4.out, HS.out.1]; simp [Blk.entry, List.append_assoc], by rw [HSTEP.out, HH.out], by rw [HSTEP.out], HSRT.out⟩
             clear hL8 ho8 hg8 hat8
             have y0 := B8.out.cell0
             go_wp2_with fail
             go_round
             case rel => exact ⟨k + 1, A8, c8, o8, A2, c2, hh, kA, _, K, by omega, by go_num, rfl, rfl, rfl, HNEW, T8, hid (HP.out.key.below T8.out.below (Nat.le_refl _)), hid (by omega)⟩
             case measure => simp [intOf]; omega
           · rw [if_neg hcN] at KT
             go_wp2_with fail
             refine KT.out.mono ?_
             rintro e w5 ⟨Az, cz, rfl, hoz, hbz⟩
             have T5 := hid (T4.out.call hbz); have B5 := hid (B4.out.call hbz)
             have HOZ := hid hoz.rd
             have HTB := hid (Cod.number_len (n := (K.drop N).length) (by have := HKD.out; omega))
             have htl : (Cod.text (K.drop N)).length ≤ 100010 := by unfold Cod.text; rw [List.length_append]; have := HTB.out; have := HKD.out; omega
             have hz5 := T5.out.size
             clear hoz hbz y0
             go_wp2_with (at_builtin; refine wpList_append_b _ rfl _ _ bt rfl w.heap.size A4 c4 o4 rfl T5.out.own1 _ Az (Cod.text (K.drop N)).length cz (Cod.text (K.drop N)) rfl rfl HOZ.out (by omega) hz5 ?_)
             intro A6 c6 o6 w6 hL6 ho6 hg6 hat6
             have T6 := hid (T5.out.app1 ho6 hg6 hat6); have B6 := hid (B5.out.app1 hg6 hat6)
             have HL6 := hid hL6
             have hl6 : o6.length ≤ 4000800030 := by rw [hL6, List.length_append]; omega
             clear hL6 ho6 hg6 hat6
             have y1 := B6.out.cell1
             have KV := hid (text_any vA vc V w6 ((HP.out.val.below T6.out.below (Nat.le_refl _)).more T6.out.size) (by omega))
             have HVB := hid (Cod.number_len (n := V.length) (by omega))
             have hvl : (Cod.text V).length ≤ 100010 := by unfold Cod.text; rw [List.length_append]; have := HVB.out; omega
             go_wp2_with fail
             refine KV.out.mono ?_
             rintro e w7 ⟨Au, cu, rfl, hou, hbu⟩
             have T7 := hid (T6.out.call hbu); have B7 := hid (B6.out.call hbu)
             have HOU := hid hou.rd
             have hz7 := T7.out.size
             clear hou hbu y1
             go_wp2_with (at_builtin; refine wpList_append_b _ rfl _ _ bt rfl w.heap.size A6 c6 o6 rfl T7.out.own1 _ Au (Cod.text V).length cu (Cod.text V) rfl rfl HOU.out (by omega) hz7 ?_)
             intro A8 c8 o8 w8 hL8 ho8 hg8 hat8
             have T8 := hid (T7.out.app1 ho8 hg8 hat8); have B8 := hid (B7.out.app1 hg8 hat8)
             have HNEW : Hid (o8 = (Blk.run E (M.take (k + 1))).out ∧ hh = Blk.hb (Blk.run E (M.take (k + 1))).heads ∧ K = (Blk.run E (M.take (k + 1))).last ∧ Blk.Srt M (k + 1)) := hid ⟨by rw [HSTEP.out, hL8, HL6.out, HL4.out, HS.out.1]; simp [Blk.entry, List.append_assoc], by rw [HSTEP.out, HH.out], by rw [HSTEP.out], HSRT.out⟩
             clear hL8 ho8 hg8 hat8
             have y0 := B8.out.cell0
             go_wp2_with fail
             go_round
             case rel => exact ⟨k + 1, A8, c8, o8, A2, c2, hh, kA, _, K, by omega, by go_num, rfl, rfl, rfl, HNEW, T8, hid (HP.out.key.below T8.out.below (Nat.le_refl _)), hid (by omega)⟩
             case measure => simp [intOf]; omega
       · have hc0 : C ≤ 0 := HC.out.2 (by simpa using hless)
         have HE : Hid (Blk.srt M = false) := hid (Blk.srt_no (i := k) (by rw [HML.out]; omega) hkp (by rw [← HLK.out, HMK2.out]; simpa using hless))
         have HFB : Hid (Below w.heap.size w (wr.alloc (.cells #[.slice kA K.length kc, .slice vA V.length vc] 77))) := hid (HT.out.below.alloc hzr _)
         clear hless
         go_wp2_with fail
         refine KC.out.mono ?_
         rintro e w1 ⟨rfl, rfl⟩
         go_wp2_with fail
         go_ret2
         rw [herr.out, HE.out]
         exact ⟨HFB.out, .inl ⟨by decide, rfl⟩⟩
   · have hk2 : k = l.length := by omega
     subst hk2
     have HEQ : Hid (M.take l.length = M) := hid (by rw [List.take_of_length_le (by rw [HML.out]; exact Nat.le_refl _)])
     have HOK : Hid (Blk.srt M = true) := hid ((Blk.srt_iff M).2 (by rw [HML.out]; exact HS.out.2.2.2))
     have HHL : Hid (hh.length = (Blk.run E M).heads.length * 4) := hid (by rw [HS.out.2.1, HEQ.out, Blk.hb_len])
     obtain ⟨H, hH⟩ : ∃ H, H = (Blk.run E M).heads.length := ⟨_, rfl⟩
     have HB4 : Hid (Blk.build E M = o ++ hh ++ Frm.be4 H ++ [UInt8.ofNat E]) := hid (by rw [hH, HS.out.1, HS.out.2.1, HEQ.out]; rfl)
     have eH : (hh.length : Int) / 4 = (H : Int) := by have := HHL.out; rw [← hH] at this; omega
     clear hH
     go_wp2_with fail
     refine (word_any H _).mono ?_
     rintro e w1 ⟨Ax, cx, rfl, hox, hbx⟩
     have T1 := hid (HT.out.call hbx)
     have hz1 := T1.out.size
     have HOX := hid hox.rd
     clear hox hbx
     have KC := hid (concat_any (some ⟨w1.heap.size, 0, none⟩) 3 [⟨A1, c1, o⟩, ⟨A2, c2, hh⟩, ⟨Ax, cx, Frm.be4 H⟩] (w1.alloc (.cells #[.slice A1 o.length c1, .slice A2 hh.length c2, .slice Ax 4 cx] 22)) ⟨RdS.of (f := Bs.cells) (n := 1) (fun _ => rfl) w1.heap.size 0 (by simp) (fun j hj i u hu => by
         match j, hj, i, hu with
         | 0, _, 0, hu => simp [Bs.cells] at hu; subst hu; simp
         | 1, _, 0, hu => simp [Bs.cells] at hu; subst hu; simp
         | 2, _, 0, hu => simp [Bs.cells, Frm.be4] at hu; subst hu; simp
         | 0, _, i + 1, hu => simp [Bs.cells] at hu
         | 1, _, i + 1, hu => simp [Bs.cells] at hu
         | 2, _, i + 1, hu => simp [Bs.cells] at hu), fun b hb => by
         simp only [List.mem_cons, List.not_mem_nil, or_false] at hb
         rcases hb with rfl | rfl | rfl
         · exact (T1.out.own1.rd.alloc (Nat.le_refl _) _).more (by simp)
         · exact (T1.out.own2.rd.alloc (Nat.le_refl _) _).more (by simp)
         · exact (HOX.out.alloc (Nat.le_refl _) _).more (by simp)⟩ (by simp) (by simp [cat, Frm.be4]; omega))
     have e3 : cat [⟨A1, c1, o⟩, ⟨A2, c2, hh⟩, ⟨Ax, cx, Frm.be4 H⟩] = o ++ hh ++ Frm.be4 H := by simp [cat]
     rw [e3] at KC
     obtain ⟨R, hR⟩ : ∃ R, R = o ++ hh ++ Frm.be4 H := ⟨_, rfl⟩
     have hRl : R.length ≤ 4000700000 := by rw [hR]; simp [Frm.be4]; omega
     rw [← hR] at KC HB4
     clear e3 hR
     go_wp2_with fail
     refine KC.out.mono ?_
     rintro e w2 ⟨A5, c5, rfl, ho5, hb5⟩
     have HO5 : Hid (Own w2 w.heap.size 5 A5 c5 R) := hid (ho5.mono (by simp; omega))
     have HB5 : Hid (Below w.heap.size w w2) := hid ((T1.out.below.alloc hz1 _).trans (hb5.mono (by simp; omega)))
     have hz2 : w.heap.size ≤ w2.heap.size := HB5.out.size
     clear ho5 hb5
     go_wp2_with (at_builtin; refine wpList_append_b _ rfl _ _ bt rfl w.heap.size A5 c5 R rfl (HO5.out.alloc _) (w2.heap.size + 1) (some ⟨w2.heap.size, 0, none⟩) 1 1 [UInt8.ofNat E] rfl rfl (by exact rd_byte _ _ _ (by rw [UInt8.toNat_ofNat']; first | omega | (rw [IntKind.wrap_u8]; omega)) _ rfl) (by simp; omega) (by simp; omega) ?_)
     intro A6 c6 o6 w6 hL6 ho6 hg6 _
     have HL6 : Hid (o6 = Blk.build E M) := hid (by rw [hL6, HB4.out])
     have HO6 := hid ho6
     have HB6 : Hid (Below w.heap.size w w6) := hid (below_grow (HB5.out.alloc hz2 _) hg6 (fun g hg => (HO5.out.blk_ge g hg).1) (by simp; omega))
     clear hL6 ho6 hg6
     obtain ⟨n, hn⟩ : ∃ n, n = o6.length := ⟨_, rfl⟩
     rw [← hn]
     have HN := hid hn; clear hn
     go_wp2_with fail
     go_ret2
     rw [herr.out, HOK.out]
     refine ⟨HB6.out, .inr ⟨rfl, A6, c6, ?_, ?_⟩⟩
     · rw [← HL6.out, HN.out]; rfl
     · rw [← HL6.out]; exact HO6.out
end Go.Proofs.YtgafionfojnieaaGreatDoor
