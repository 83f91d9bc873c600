/- Parts of the proof, one behind the other: slices.BinarySearchFunc, over pointers and over records.; The contract of seek.; The contract of a table's Get.; The skip list in memory: its nodes, their rows of pointers; who comes next on a level.; Plain: what the statements ask of a table's bytes. -/
import Derived.Test.YtgafionfojnieaaGreatDoorMrg44
namespace Go.Proofs.YtgafionfojnieaaGreatDoor
open Go.RowKit
open Lib (hid)
def BsQ (n : Nat) (F : Nat → Prop) (e : Ending) : Prop := ∃ (i : Nat) (b : Bool), e = .returned (.tuple #[.int .i64 (i : Int), .bool b]) ∧ i ≤ n ∧ (∀ k, k < i → F k) ∧ (∀ k, i ≤ k → k < n → ¬ F k)
set_option maxHeartbeats 2000000 in
set_option maxRecDepth 100000 in
theorem bsearchP_any (A tA : Option Addr) (c tc : Nat) (gs : List Nat) (tl : List UInt8) (K : Nat → Int) (F : Nat → Prop) (hF : ∀ k, F k ↔ K k < 0) (w : World) (hrow : RdS Ptc 1 w w.heap.size A gs) (hl : gs.length ≤ 1000000)
   (hcall : ∀ h (hh : h < gs.length), Calls Tryz.prog 86 #[.pointer (some ⟨gs[h], 0, none⟩), .slice tA tl.length tc] w fun e w' => e = .returned (.int .i64 (K h)) ∧ w = w')
   (hmono : ∀ a b, a ≤ b → b < gs.length → F b → F a) :
   Calls Tryz.prog 85 #[.slice A gs.length c, .slice tA tl.length tc, .func (.func 86) #[] #[]] w fun e w' => BsQ gs.length F e ∧ w = w' := by
 have HF := hid hF
 clear hF
 have HC := hid hcall
 have HM := hid hmono
 have HR := hid hrow
 obtain ⟨n, hn⟩ : ∃ n, n = gs.length := ⟨_, rfl⟩
 have HN := hid hn
 rw [← hn] at hl ⊢
 clear hcall hmono hrow hn
 go_enter Tryz.func85, Tryz.ntmps85
 go_wp2_with fail
 go_loop [9, 10] (fun i j => ∃ a b : Nat, a ≤ b ∧ b ≤ n ∧ i = .int .i64 (a : Int) ∧ j = .int .i64 (b : Int) ∧ Hid (∀ k, k < a → F k) ∧ Hid (∀ k, b ≤ k → k < n → ¬ F k)) (fun i j => (intOf j).toNat - (intOf i).toNat)
 case atStart => exact ⟨0, n, by omega, by omega, rfl, rfl, hid (fun k hk => by omega), hid (fun k h1 h2 => by omega)⟩
 case round =>
   obtain ⟨a, b, hab, hbn, rfl, rfl, HLO, HHI⟩ := hrel
   by_cases hlt : a < b
   · obtain ⟨pb, po, hA, hpbl, hpc⟩ := RdS.row (f := Ptc) (n := 1) (fun _ => rfl) (by omega) HR.out (by have := HN.out; omega)
     subst hA
     have hml : (a + b) / 2 < gs.length := by have := HN.out; omega
     have hml2 : (a + b) / 2 < n := by omega
     have s0 := hpc ((a + b) / 2) hml 0 _ rfl
     have KC := hid (HC.out ((a + b) / 2) hml)
     obtain ⟨gm, hgm⟩ : ∃ gm, gm = gs[(a + b) / 2] := ⟨_, rfl⟩
     simp only [Nat.mul_one, Nat.add_zero] at s0
     rw [← hgm] at s0 KC
     obtain ⟨km, hkm⟩ : ∃ km, km = K ((a + b) / 2) := ⟨_, rfl⟩
     rw [← hkm] at KC
     have HKM := hid hkm
     have HML := hid hml
     clear hpc hgm hkm hml
     by_cases hk : km < 0
     · have HL2 : Hid (∀ k, k < (a + b) / 2 + 1 → F k) := hid (fun k h1 => HM.out k _ (by omega) HML.out (by rw [HF.out, ← HKM.out]; exact hk))
       go_wp2_with fail
       refine KC.out.mono ?_
       rintro e w' ⟨rfl, rfl⟩
       go_wp2_with fail
       go_round
       case rel => exact ⟨(a + b) / 2 + 1, b, by omega, hbn, by simp, rfl, HL2, HHI⟩
       case measure => simp [intOf]; omega
     · have HH2 : Hid (∀ k, (a + b) / 2 ≤ k → k < n → ¬ F k) := hid (fun k h1 h2 h3 => hk (by rw [HKM.out, ← HF.out]; exact HM.out _ k h1 (by have := HN.out; omega) h3))
       go_wp2_with fail
       refine KC.out.mono ?_
       rintro e w' ⟨rfl, rfl⟩
       go_wp2_with fail
       go_round
       case rel => exact ⟨a, (a + b) / 2, by omega, by omega, rfl, by simp, HLO, HH2⟩
       case measure => simp [intOf]; omega
   · have hae : a = b := by omega
     subst hae
     by_cases han : a < n
     · obtain ⟨pb, po, hA, hpbl, hpc⟩ := RdS.row (f := Ptc) (n := 1) (fun _ => rfl) (by omega) HR.out (by have := HN.out; omega)
       subst hA
       have hml : a < gs.length := by have := HN.out; omega
       have s0 := hpc a hml 0 _ rfl
       have KC := hid (HC.out a hml)
       obtain ⟨gm, hgm⟩ : ∃ gm, gm = gs[a] := ⟨_, rfl⟩
       simp only [Nat.mul_one, Nat.add_zero] at s0
       rw [← hgm] at s0 KC
       clear hpc hgm hml
       go_wp2_with fail
       refine KC.out.mono ?_
       rintro e w' ⟨rfl, rfl⟩
       go_wp2_with fail
       go_ret2
       exact ⟨⟨a, _, rfl, hbn, HLO.out, HHI.out⟩, rfl⟩
     · go_wp2_with fail
       go_ret2
       exact ⟨⟨a, _, rfl, hbn, HLO.out, HHI.out⟩, rfl⟩
set_option maxHeartbeats 1000000 in
set_option maxRecDepth 100000 in
theorem bsearchR_any (A : Option Addr) (c : Nat) (l : List Rv) (q : Rv) (F : Nat → Prop) (hF : ∀ k (h : k < l.length), F k ↔ Tb.ordI l[k] q < 0) (w : World) (hr : RdRv w w.heap.size A l) (hq : Rv.Ok w w.heap.size q) (hl : l.length ≤ 1000000)
   (hmono : ∀ a b, a ≤ b → b < l.length → F b → F a) :
   Calls Tryz.prog 87 #[.slice A l.length c, q.val, .func (.func 40) #[] #[]] w fun e w' => BsQ l.length F e ∧ Below w.heap.size w w' := by
 have HM := hid hmono
 have HR := hid hr
 have HQ := hid hq
 obtain ⟨n, hn⟩ : ∃ n, n = l.length := ⟨_, rfl⟩
 have HN := hid hn
 rw [← hn] at hl ⊢
 have HF := hid hF
 clear hmono hr hq hn hF
 have HBX : Hid (∀ o, Below w.heap.size w (w.alloc o)) := hid (fun o => (Below.refl _ _).alloc (Nat.le_refl _) o)
 have HCELL : Hid (∀ W, Below (w.heap.size + 1) (w.alloc (.cells q.cells.toArray 35)) W → W.heap[w.heap.size]? = some (.cells q.cells.toArray 35)) := hid (fun W hb => (hb.block _ (by omega)).trans (heap_alloc_new w _))
 have HCALL : Hid (∀ a, (h : a < l.length) → ∀ W, Below w.heap.size w W → Calls Tryz.prog 40 #[(l[a]).val, q.val] W fun e w' => e = .returned (.int .i64 (Tb.ordI l[a] q)) ∧ Below W.heap.size W w') := hid (fun a h W hb =>
   orderT_any l[a] q W (((HR.out.ok _ (List.getElem_mem h)).below hb (Nat.le_refl _)).more hb.size) ((HQ.out.below hb (Nat.le_refl _)).more hb.size))
 obtain ⟨qA, qc, qk, qs, qd, qvA, qvc, qv⟩ := q
 simp only [Rv.cells, Rv.val] at HCALL HCELL ⊢
 go_enter Tryz.func87, Tryz.ntmps87
 go_wp2_with fail
 go_loopw [9, 10] (fun i j wr => ∃ a b : Nat, a ≤ b ∧ b ≤ n ∧ i = .int .i64 (a : Int) ∧ j = .int .i64 (b : Int) ∧ Hid (∀ k, k < a → F k) ∧ Hid (∀ k, b ≤ k → k < n → ¬ F k) ∧ Hid (Below (w.heap.size + 1) (w.alloc (.cells [.slice qA qk.length qc, .int .i64 qs, .bool qd, .slice qvA qv.length qvc].toArray 35)) wr)) (fun i j _ => (intOf j).toNat - (intOf i).toNat)
 case atStart => exact ⟨0, n, by omega, by omega, rfl, rfl, hid (fun k hk => by omega), hid (fun k h1 h2 => by omega), hid (Below.refl _ _)⟩
 case round =>
   obtain ⟨a, b, hab, hbn, rfl, rfl, HLO, HHI, HW⟩ := hrel
   have hzz : w.heap.size + 1 ≤ wr.heap.size := by have := HW.out.size; simp at this; omega
   have hbw : Below w.heap.size w wr := (HBX.out _).trans (HW.out.mono (by omega))
   have hbox := HCELL.out wr HW.out
   by_cases hlt : a < b
   · obtain ⟨pb, po, hA, hpbl, hpc⟩ := (HR.out.below hbw (Nat.le_refl _)).row4 (by have := HN.out; omega)
     subst hA
     obtain ⟨m, hm⟩ : ∃ m, m = (a + b) / 2 := ⟨_, rfl⟩
     have hm1 : a ≤ m ∧ m < b := by omega
     have hml : m < l.length := by have := HN.out; omega
     have hml2 : m < n := by omega
     have e3 : ((a : Int) + (b : Int)) / 2 = (m : Int) := by omega
     obtain ⟨V, hV⟩ : ∃ V, wr.drew = V := ⟨_, rfl⟩
     have hbV : Below wr.heap.size wr V := by rw [← hV]; exact (Below.refl _ _).drew
     have KC := hid (HCALL.out (m) hml V (hbw.trans (hbV.mono hbw.size)))
     obtain ⟨s0, s1, s2, s3⟩ := hpc (m) hml
     obtain ⟨r, hr⟩ : ∃ r, r = l[m] := ⟨_, rfl⟩
     rw [← hr] at s0 s1 s2 s3 KC
     have HF1 : Hid (F (m) ↔ Tb.ordI r ⟨qA, qc, qk, qs, qd, qvA, qvc, qv⟩ < 0) := hid (by
       rw [HF.out _ hml, hr])
     obtain ⟨km, hkm⟩ : ∃ km, km = Tb.ordI r ⟨qA, qc, qk, qs, qd, qvA, qvc, qv⟩ := ⟨_, rfl⟩
     rw [← hkm] at KC HF1
     obtain ⟨rA, rc, rk, rs, rd, rvA, rvc, rv⟩ := r
     simp only at s0 s1 s2 s3 KC
     have v0 := (hbV.cell (p := ⟨pb, po + m * 4, none⟩) (by simp; omega)).trans s0
     have v1 := (hbV.cell (p := ⟨pb, po + m * 4 + 1, none⟩) (by simp; omega)).trans s1
     have v2 := (hbV.cell (p := ⟨pb, po + m * 4 + 2, none⟩) (by simp; omega)).trans s2
     have v3 := (hbV.cell (p := ⟨pb, po + m * 4 + 3, none⟩) (by simp; omega)).trans s3
     have hbx2 := (hbV.block w.heap.size (by omega)).trans hbox
     have c0 := cell_of_row V w.heap.size 0 _ _ (0, 0) hbx2
     have c1 := cell_of_row V w.heap.size 1 _ _ (0, 0) hbx2
     have c2 := cell_of_row V w.heap.size 2 _ _ (0, 0) hbx2
     have c3 := cell_of_row V w.heap.size 3 _ _ (0, 0) hbx2
     simp only [List.getElem?_toArray, List.getElem?_cons_zero, List.getElem?_cons_succ] at c0 c1 c2 c3
     have HBV := hid (HW.out.trans (hbV.mono (by omega)))
     have hzV : wr.heap.size ≤ V.heap.size := hbV.size
     have HML := hid hml
     clear hpc hml hr hkm hm s0 s1 s2 s3 hbx2 hbox hbw hbV
     by_cases hk : km < 0
     · have HL2 : Hid (∀ k, k < m + 1 → F k) := hid (fun k h1 => HM.out k _ (by omega) HML.out (HF1.out.2 hk))
       go_wp2_with fail
       refine region_still_tail 6 (by kernel_rfl) (by kernel_rfl) hV ?_
       clear hV
       simp only [List.take_succ_cons, List.take_zero, List.drop_succ_cons, List.drop_zero]
       repeat still_step
       refine wpStill_nil ?_
       go_wp2_with fail
       refine KC.out.mono ?_
       rintro e w' ⟨rfl, hb'⟩
       have HB' := hid (HBV.out.trans (hb'.mono (by omega)))
       clear hb' v0 v1 v2 v3 c0 c1 c2 c3
       go_wp2_with fail
       go_roundw
       case rel => exact ⟨m + 1, b, by omega, hbn, by simp, rfl, HL2, HHI, HB'⟩
       case measure => simp [intOf]; omega
     · have HH2 : Hid (∀ k, m ≤ k → k < n → ¬ F k) := hid (fun k h1 h2 h3 => hk (HF1.out.1 (HM.out _ k h1 (by have := HN.out; omega) h3)))
       go_wp2_with fail
       refine region_still_tail 6 (by kernel_rfl) (by kernel_rfl) hV ?_
       clear hV
       simp only [List.take_succ_cons, List.take_zero, List.drop_succ_cons, List.drop_zero]
       repeat still_step
       refine wpStill_nil ?_
       go_wp2_with fail
       refine KC.out.mono ?_
       rintro e w' ⟨rfl, hb'⟩
       have HB' := hid (HBV.out.trans (hb'.mono (by omega)))
       clear hb' v0 v1 v2 v3 c0 c1 c2 c3
       go_wp2_with fail
       go_roundw
       case rel => exact ⟨a, m, by omega, by omega, rfl, by simp, HLO, HH2, HB'⟩
       case measure => simp [intOf]; omega
   · have hae : a = b := by omega
     subst hae
     have HWV := hid hbw
     by_cases han : a < n
     · obtain ⟨pb, po, hA, hpbl, hpc⟩ := (HR.out.below hbw (Nat.le_refl _)).row4 (by have := HN.out; omega)
       subst hA
       have hml : a < l.length := by have := HN.out; omega
       have KO : Hid (∀ wx, Below wr.heap.size wr wx → Calls Tryz.prog 40 #[(l[a]).val, .agg #[.slice qA qk.length qc, .int .i64 qs, .bool qd, .slice qvA qv.length qvc]] wx fun e w' => e = .returned (.int .i64 (Tb.ordI l[a] ⟨qA, qc, qk, qs, qd, qvA, qvc, qv⟩)) ∧ Below wx.heap.size wx w') := hid (fun wx hx => HCALL.out a hml wx (hbw.trans (hx.mono hbw.size)))
       obtain ⟨v0, v1, v2, v3⟩ := hpc a hml
       obtain ⟨r, hr⟩ : ∃ r, r = l[a] := ⟨_, rfl⟩
       rw [← hr] at v0 v1 v2 v3 KO
       obtain ⟨km, hkm⟩ : ∃ km, km = Tb.ordI r ⟨qA, qc, qk, qs, qd, qvA, qvc, qv⟩ := ⟨_, rfl⟩
       rw [← hkm] at KO
       obtain ⟨rA, rc, rk, rs, rd, rvA, rvc, rv⟩ := r
       simp only [Rv.val] at v0 v1 v2 v3 KO
       have c0 := cell_of_row wr w.heap.size 0 _ _ (0, 0) hbox
       have c1 := cell_of_row wr w.heap.size 1 _ _ (0, 0) hbox
       have c2 := cell_of_row wr w.heap.size 2 _ _ (0, 0) hbox
       have c3 := cell_of_row wr w.heap.size 3 _ _ (0, 0) hbox
       simp only [List.getElem?_toArray, List.getElem?_cons_zero, List.getElem?_cons_succ] at c0 c1 c2 c3
       have hpb2 : pb < wr.heap.size := by omega
       have hbx2 : w.heap.size < wr.heap.size := by omega
       have HKEEP : Hid (∀ Y, Below wr.heap.size wr Y → Y.cell? ⟨pb, po + a * 4, none⟩ = some (.slice rA rk.length rc) ∧ Y.cell? ⟨pb, po + a * 4 + 1, none⟩ = some (.int .i64 rs) ∧ Y.cell? ⟨pb, po + a * 4 + 2, none⟩ = some (.bool rd) ∧ Y.cell? ⟨pb, po + a * 4 + 3, none⟩ = some (.slice rvA rv.length rvc) ∧ Y.cell? ⟨w.heap.size, 0, none⟩ = some (.slice qA qk.length qc) ∧ Y.cell? ⟨w.heap.size, 1, none⟩ = some (.int .i64 qs) ∧ Y.cell? ⟨w.heap.size, 2, none⟩ = some (.bool qd) ∧ Y.cell? ⟨w.heap.size, 3, none⟩ = some (.slice qvA qv.length qvc) ∧ Below wr.heap.size wr Y) :=
         hid (fun Y hy => ⟨(hy.cell (p := ⟨pb, _, none⟩) hpb2).trans v0, (hy.cell (p := ⟨pb, _, none⟩) hpb2).trans v1, (hy.cell (p := ⟨pb, _, none⟩) hpb2).trans v2, (hy.cell (p := ⟨pb, _, none⟩) hpb2).trans v3, (hy.cell (p := ⟨w.heap.size, _, none⟩) hbx2).trans c0, (hy.cell (p := ⟨w.heap.size, _, none⟩) hbx2).trans c1, (hy.cell (p := ⟨w.heap.size, _, none⟩) hbx2).trans c2, (hy.cell (p := ⟨w.heap.size, _, none⟩) hbx2).trans c3, hy⟩)
       have hd : decide ((a : Int) < (n : Int)) = true := by simpa using han
       have hd2 : (a : Int) < (n : Int) := by omega
       have h0a : (0 : Int) ≤ (a : Int) := by omega
       clear hpc hml hr hkm hbox hbw
       go_wp2_with fail
       go_region_held (fun w' => w'.cell? ⟨pb, po + a * 4, none⟩ = some (.slice rA rk.length rc) ∧ w'.cell? ⟨pb, po + a * 4 + 1, none⟩ = some (.int .i64 rs) ∧ w'.cell? ⟨pb, po + a * 4 + 2, none⟩ = some (.bool rd) ∧ w'.cell? ⟨pb, po + a * 4 + 3, none⟩ = some (.slice rvA rv.length rvc) ∧ w'.cell? ⟨w.heap.size, 0, none⟩ = some (.slice qA qk.length qc) ∧ w'.cell? ⟨w.heap.size, 1, none⟩ = some (.int .i64 qs) ∧ w'.cell? ⟨w.heap.size, 2, none⟩ = some (.bool qd) ∧ w'.cell? ⟨w.heap.size, 3, none⟩ = some (.slice qvA qv.length qvc) ∧ Below wr.heap.size wr w')
         (first | exact HKEEP.out _ ((Below.refl _ _).drew) | exact HKEEP.out _ B3)
         (first | (go_at_call 40; refine (KO.out _ (by go_split_ands; assumption)).mono ?_; rintro e w1 ⟨rfl, hb1⟩; have B3 := Below.trans (b := _) (by go_split_ands; assumption : Below wr.heap.size wr _) (hb1.mono (by go_split_ands; exact Below.size (by assumption)))))
       go_wp2_with fail
       go_ret2
       exact ⟨⟨a, _, rfl, hbn, HLO.out, HHI.out⟩, HWV.out.trans (B3.mono HWV.out.size)⟩
     · obtain rfl : n = a := by omega
       clear hbox hbw
       go_wp2_with fail
       go_quiet (fail)
       refine drewN_any ?_
       intro X hbX hX
       have HBX2 := hid hbX
       clear hbX hX
       go_wp2_with fail
       go_ret2
       exact ⟨⟨n, _, rfl, hbn, HLO.out, HHI.out⟩, HWV.out.trans (HBX2.out.mono HWV.out.size)⟩
theorem PqA.cell {w : World} {base : Nat} {F : Nat → Prop} {p : Pq} {rs : List Rv} (h : PqA w base F p rs) : w.cell? ⟨p.g, 1, none⟩ = some (.slice p.kA p.k.length p.kc) := by
 rcases h.st with h1 | ⟨A, c, l, h1, _⟩
 · rw [cell_of_row w p.g 1 _ _ (0, 0) h1]; rfl
 · rw [cell_of_row w p.g 1 _ _ (0, 0) h1]; rfl
set_option maxRecDepth 100000 in
theorem seek1_any (p : Pq) (rs : List Rv) (w : World) (base : Nat) (F : Nat → Prop) (h : PqA w base F p rs) (kA : Option Addr) (kc : Nat) (k : List UInt8) (hk : RdB w w.heap.size kA k) :
   Calls Tryz.prog 86 #[.pointer (some ⟨p.g, 0, none⟩), .slice kA k.length kc] w fun e w' => e = .returned (.int .i64 (Lib.compareBytes p.k k)) ∧ w = w' := by
 have c1 := h.cell
 have KB := hid (bcmp_any w.heap.size p.kA p.kc p.k w.heap.size kA kc k w h.mem.hk.rd hk)
 clear h hk
 obtain ⟨x, hx⟩ : ∃ x, x = Lib.compareBytes p.k k := ⟨_, rfl⟩
 rw [← hx] at KB ⊢
 clear hx
 go_enter Tryz.func86, Tryz.ntmps86
 go_wp2_with fail
 refine KB.out.mono ?_
 rintro e w' ⟨rfl, rfl⟩
 go_wp2_with fail
 go_ret
 exact ⟨rfl, rfl⟩
def SeekP (base : Nat) (F : Nat → Prop) (t : Ti) (R : List Rv) (q : Rv) (w : World) (e : Ending) (w' : World) : Prop := TbAt base F t w' ∧ Qry base t w w' ∧ ∃ at_ i : Nat, e = .returned (.tuple #[.int .i64 (at_ : Int), .int .i64 (i : Int)]) ∧ SeekQ t R q at_ i
theorem core_at {l m : List Rv} (h : l.map Rv.core = m.map Rv.core) {i : Nat} (hi : i < l.length) (hj : i < m.length) : l[i].core = m[i].core := by
 have h1 : (l.map Rv.core)[i]? = (m.map Rv.core)[i]? := by rw [h]
 rw [List.getElem?_map, List.getElem?_map, List.getElem?_eq_getElem hi, List.getElem?_eq_getElem hj] at h1
 simpa using h1
theorem TbR.rise {t : Ti} {R : List Rv} {bits : Nat} (h : TbR t R bits) {j : Nat} {x : Pq × List Rv} (hx : t.ps[j]? = some x) {l : List Rv} (hco : l.map Rv.core = x.2.map Rv.core) : l.length = x.2.length ∧ l.length ≤ 20000 ∧ ∀ a b (h1 : a < l.length) (h2 : b < l.length), a < b → Tb.ahead l[a] l[b] = true := by
 obtain ⟨hj, rfl⟩ := List.getElem?_eq_some_iff.1 hx
 have hll : l.length = t.ps[j].2.length := by
   have := congrArg List.length hco
   simpa using this
 refine ⟨hll, ?_, fun a b h1 h2 hlt => ?_⟩
 · have h1 := h.off_all
   have h2 := t.off_succ hj
   have h3 := t.off_le (i := j + 1) (j := t.ps.length) (by omega) (Nat.le_refl _)
   have h4 := h.len
   omega
 · obtain ⟨a1, a2⟩ := h.at_ hj (m := a) (by omega)
   obtain ⟨b1, b2⟩ := h.at_ hj (m := b) (by omega)
   rw [Tb.ahead_core (core_at hco h1 (by omega)) (core_at hco h2 (by omega)), ← a2, ← b2]
   exact Tb.sorted_any h.srt (by omega) b1
theorem TbR.hit {t : Ti} {R : List Rv} {bits : Nat} (h : TbR t R bits) (k : List UInt8) (seq : Int) (h1 : 1 ≤ seq) (h2 : seq ≤ 1099511627776) {a i : Nat} {x : Pq × List Rv} (hx : t.ps[a]? = some x) {l : List Rv} (hco : l.map Rv.core = x.2.map Rv.core)
   (hlo : ∀ j, j < a → if h : j < t.ps.length then Lib.compareBytes t.ps[j].1.k (Tb.ikey k seq) < 0 else False) (hhi : ¬ (if h : a < t.ps.length then Lib.compareBytes t.ps[a].1.k (Tb.ikey k seq) < 0 else False)) (hi : i ≤ l.length)
   (ilo : ∀ m, m < i → ∃ h : m < l.length, Tb.ahead l[m] (Tb.ask k seq) = true) (ihi : ∀ m, i ≤ m → m < l.length → ¬ ∃ h : m < l.length, Tb.ahead l[m] (Tb.ask k seq) = true) : SeekQ t R (Tb.ask k seq) a i := by
 have hll := (h.rise hx hco).1
 obtain ⟨ha, rfl⟩ := List.getElem?_eq_some_iff.1 hx
 refine h.found k seq h1 h2 ha (fun j hj hlt => ?_) ?_ (by omega) (fun m hm hlt => ?_) (fun m hm hge => ?_)
 · have h3 := hlo j hlt
   simp only [dif_pos hj] at h3
   exact h3
 · simp only [dif_pos ha] at hhi
   exact hhi
 · obtain ⟨hml, h3⟩ := ilo m hlt
   rw [Tb.ahead_core (core_at hco hml hm) rfl] at h3
   exact h3
 · have hml : m < l.length := by omega
   have h3 := ihi m hge hml
   cases hx3 : Tb.ahead t.ps[a].2[m] (Tb.ask k seq) with
   | false => rfl
   | true => exact absurd ⟨hml, by rw [Tb.ahead_core (core_at hco hml hm) rfl]; exact hx3⟩ h3
set_option maxHeartbeats 4000000 in
set_option maxRecDepth 100000 in
theorem seek_any (base : Nat) (F : Nat → Prop) (t : Ti) (R : List Rv) (bits : Nat) (hR : TbR t R bits) (kA : Option Addr) (kc : Nat) (k : List UInt8) (seq : Int) (w : World) (h : TbAt base F t w) (hk : HBs w base kA k) (hkl : k.length ≤ 10000) (hkc : k.length ≤ kc) (hs1 : 1 ≤ seq) (hs2 : seq ≤ 1099511627776) (hn : t.ps.length ≤ 100000) :
   Calls Tryz.prog 52 #[.pointer (some ⟨t.gt, 0, none⟩), .slice kA k.length kc, .int .i64 seq] w (SeekP base F t R (Tb.ask k seq) w) := by
 have KI := hid (ikeyT_any kA kc k seq w hk.rd (by omega) hs1 hs2)
 have HR := hid hR
 have HT := hid h
 have HK := hid hk
 clear hR h hk
 go_enter Tryz.func52, Tryz.ntmps52
 go_wp2_with fail
 refine KI.out.mono ?_
 rintro e w1 ⟨iA, ic, rfl, hoi, hb1⟩
 have HT1 := hid (HT.out.call hb1)
 have HQ1 := hid (Qry.of (t := t) hb1 HT.out.size)
 have HK1 := hid (HK.out.below hb1)
 obtain ⟨z, hz⟩ := HT1.out.box
 have c0 : w1.cell? ⟨t.gt, 0, none⟩ = some (.slice t.PA t.ps.length t.PC) := by rw [cell_of_row w1 t.gt 0 _ _ (0, 0) hz]; rfl
 have HOI := hid hoi
 have KB := bsearchP_any t.PA iA t.PC ic (t.ps.map (·.1.g)) (Tb.ikey k seq) (fun j => if h : j < t.ps.length then Lib.compareBytes t.ps[j].1.k (Tb.ikey k seq) else 0) (fun j => if h : j < t.ps.length then Lib.compareBytes t.ps[j].1.k (Tb.ikey k seq) < 0 else False)
   (fun j => by by_cases hj : j < t.ps.length <;> simp [hj]) w1 HT1.out.row.rd (by rw [List.length_map]; omega) (fun j hj => by
     have hj' : j < t.ps.length := by rw [List.length_map] at hj; exact hj
     have h1 := seek1_any t.ps[j].1 t.ps[j].2 w1 base F (HT1.out.parts _ (List.getElem_mem hj')) iA ic (Tb.ikey k seq) hoi.rd
     rw [dif_pos hj', List.getElem_map]
     exact h1) (fun a b hab hb hF => by
     have hb' : b < t.ps.length := by rw [List.length_map] at hb; exact hb
     have ha' : a < t.ps.length := by omega
     rw [dif_pos hb'] at hF
     rw [dif_pos ha']
     rw [HR.out.cmp k seq hs1 hs2 hb'] at hF
     rw [HR.out.cmp k seq hs1 hs2 ha']
     intro m hm hlt
     exact hF m hm (Nat.lt_of_lt_of_le hlt (t.off_le (by omega) (by omega))))
 rw [List.length_map] at KB
 have KB := hid KB
 obtain ⟨ikn, hikn⟩ : ∃ ikn, ikn = (Tb.ikey k seq).length := ⟨_, rfl⟩
 rw [← hikn] at KB ⊢
 clear hoi hb1 hz hikn
 go_wp2_with fail
 refine KB.out.mono ?_
 rintro e w' ⟨⟨at_, bb, rfl, hat, hlo, hhi⟩, rfl⟩
 have HLO := hid hlo
 have HHI := hid hhi
 clear hlo hhi
 by_cases hae : at_ = t.ps.length
 · have HS : Hid (SeekQ t R (Tb.ask k seq) t.ps.length 0) := hid (HR.out.behind k seq hs1 hs2 (fun j hj => by
     have h1 := HLO.out j (by omega)
     simp only [dif_pos hj] at h1
     exact h1))
   subst hae
   go_wp2_with fail
   go_ret2
   exact ⟨HT1.out, HQ1.out, _, 0, rfl, HS.out⟩
 · have hal : at_ < t.ps.length := by omega
   obtain ⟨pb, po, hA, hpbl, hpc⟩ := RdS.row (f := Ptc) (n := 1) (fun _ => rfl) (by omega) HT1.out.row.rd (by rw [List.length_map]; omega)
   have s0o := hpc at_ (by rw [List.length_map]; exact hal) 0 _ rfl
   simp only [Nat.mul_one, Nat.add_zero, List.getElem_map] at s0o
   have hxm : t.ps[at_] ∈ t.ps := List.getElem_mem hal
   have KAo := hid (all_any base F t t.ps[at_] hxm w1 HT1.out (HR.out.prt _ hxm))
   have HAL := hid hal
   obtain ⟨n, hnn⟩ : ∃ n, n = t.ps.length := ⟨_, rfl⟩
   obtain ⟨x, hx, s0, KA⟩ : ∃ x, t.ps[at_]? = some x ∧ w1.cell? ⟨pb, po + at_, none⟩ = some (.pointer (some ⟨x.1.g, 0, none⟩)) ∧ Hid (Calls Tryz.prog 33 #[.pointer (some ⟨x.1.g, 0, none⟩)] w1 (AllQ base F t x.2 w1)) := ⟨_, List.getElem?_eq_getElem hal, s0o, KAo⟩
   clear s0o KAo
   rw [← hnn] at c0 hal hae ⊢
   rw [hA] at c0 ⊢
   have HX := hid hx
   have HNN := hid hnn
   have hnb : n ≤ 100000 := by omega
   have hd : (at_ == n) = false := by simpa using hae
   have hd2 : ((at_ : Int) == (n : Int)) = false := by simp; omega
   clear hpc hxm hx hnn hA hat hae
   go_wp2_with fail
   refine KA.out.mono ?_
   rintro e w3 ⟨hT3, hQ3, lA, lc, l, rfl, hrec, hco, _⟩
   have HT3 := hid hT3
   have HQ3 := hid (HQ1.out.trans hQ3)
   have HK3 := hQ3.hbs (Nat.le_refl _) HK1.out
   obtain ⟨hll, hl20, HFA⟩ := HR.out.rise HX.out hco
   have KR := hid (bsearchR_any lA lc l ⟨kA, kc, k, seq, false, none, 0, []⟩ (fun m => ∃ h : m < l.length, Tb.ahead l[m] (Tb.ask k seq) = true) (fun m hm => by
       rw [Tb.ordI_neg]
       exact ⟨fun ⟨_, h⟩ => h, fun h => ⟨hm, h⟩⟩) w3 hrec.rd ⟨HK3.rd, RdB.nil, hkc, Nat.le_refl _⟩ (by omega) (fun a b hab hb ⟨_, hF⟩ => by
       refine ⟨by omega, ?_⟩
       rcases Nat.lt_or_ge a b with h1 | h1
       · exact Tb.ahead_trans (HFA a b (by omega) hb h1) hF
       · have : a = b := by omega
         subst this; exact hF))
   have HCO := hid hco
   have HLL := hid hll
   have HHT3 := hid hT3.size
   clear hT3 hQ3 HK3 hrec hco hll HFA c0 s0
   simp only [Rv.val, List.length_nil] at KR
   go_wp2_with fail
   refine KR.out.mono ?_
   rintro e w4 ⟨⟨i, b2, rfl, hi, hilo, hihi⟩, hb4⟩
   have HS : Hid (SeekQ t R (Tb.ask k seq) at_ i) := hid (HR.out.hit k seq hs1 hs2 HX.out HCO.out HLO.out (HHI.out at_ (Nat.le_refl _) HAL.out) hi hilo hihi)
   have HFIN := hid (And.intro (HT3.out.call hb4) (HQ3.out.trans (Qry.of (t := t) hb4 HHT3.out)))
   clear hb4 hilo hihi
   go_wp2_with fail
   go_ret2
   exact ⟨HFIN.out.1, HFIN.out.2, at_, i, rfl, HS.out⟩
theorem passed_any (g : Nat) (z : Int) (w : World) (hc : w.cell? ⟨g, 5, none⟩ = some (.int .i64 z)) (hz : w.frozen? ⟨g, 5, none⟩ = false) :
   Calls Tryz.prog 55 #[.pointer (some ⟨g, 5, none⟩), .int .i64 1] w fun e w' => ∃ v : Int, e = .returned (.int .i64 v) ∧ w.setCell ⟨g, 5, none⟩ (.int .i64 v) = w' := by
 have hadd := run_call_add (P := Tryz.prog) Tryz.func89 (by kernel_rfl) (by kernel_rfl) (by kernel_rfl) .i64 (by kernel_rfl) (y := 1) (s := IntKind.i64.wrap (z + 1)) hc hz (by simp [go_sem])
 go_enter Tryz.func55, Tryz.ntmps55
 go_wp2
 go_ret
 exact ⟨_, rfl, rfl⟩
theorem TbR.hitAt {t : Ti} {R : List Rv} {bits : Nat} (h : TbR t R bits) {key : List UInt8} {s : Int} {a i : Nat} (hq : SeekQ t R (Tb.ask key s) a i) {x : Pq × List Rv} (hx : t.ps[a]? = some x) {l : List Rv} (hco : l.map Rv.core = x.2.map Rv.core) :
   ∃ (hi : i < l.length) (r : Rv), r.core = l[i].core ∧ Tb.get R key s = if l[i].k = key then some r else none := by
 obtain ⟨hll, _, _⟩ := h.rise hx hco
 obtain ⟨ha, rfl⟩ := List.getElem?_eq_some_iff.1 hx
 rcases hq with ⟨_, hi, hp⟩ | ⟨h1, _, _⟩
 · obtain ⟨h3, h4⟩ := h.at_ ha hi
   have hil : i < l.length := by omega
   have hc := core_at hco hil hi
   refine ⟨hil, R[t.off a + i], by rw [h4, hc], ?_⟩
   rw [hp.get h.srt, List.getElem?_eq_getElem h3]
   have hk : R[t.off a + i].k = l[i].k := by
     have h5 : R[t.off a + i].core = l[i].core := by rw [h4, hc]
     unfold Rv.core at h5
     injection h5
   simp only [hk]
 · omega
theorem TbR.hitEnd {t : Ti} {R : List Rv} {bits : Nat} (h : TbR t R bits) {key : List UInt8} {s : Int} {i : Nat} (hq : SeekQ t R (Tb.ask key s) t.ps.length i) : Tb.get R key s = none := by
 rcases hq with ⟨h1, _⟩ | ⟨_, _, hp⟩
 · omega
 · rw [hp.get h.srt, List.getElem?_eq_none (Nat.le_refl _)]
def TgQ (base : Nat) (F : Nat → Prop) (t : Ti) (R : List Rv) (key : List UInt8) (seq : Int) (w : World) (e : Ending) (w' : World) : Prop := TbAt base F t w' ∧ Qry base t w w' ∧ ((Tb.get R key seq = none ∧ e = .returned (.tuple #[zeroRec, .bool false])) ∨
 ∃ r r' : Rv, Tb.get R key seq = some r ∧ r'.core = r.core ∧ e = .returned (.tuple #[r'.val, .bool true]) ∧ Own w' base 5 r'.kA r'.kc r'.k ∧ Own w' base 5 r'.vA r'.vc r'.v)
def zObj : Obj := .cells #[.slice none 0 0, .int .i64 0, .bool false, .slice none 0 0] 35
structure GtR (base : Nat) (F : Nat → Prop) (t : Ti) (w : World) (W : World) : Prop where
 tab : TbAt base (fun g => F g ∨ g = w.heap.size) t W
 qry : Qry base t w W
 res : W.heap[w.heap.size]? = some zObj
theorem GtR.start {base : Nat} {F : Nat → Prop} {t : Ti} {w : World} (h : TbAt base F t w) : GtR base F t w (w.alloc zObj) :=
 ⟨h.more (fun g hg => hg.imp id (fun e => by omega)) ((Below.refl _ _).alloc (Nat.le_refl _) _) (fun g hg => by
   rcases hg with h1 | h1
   · have := h.frn g h1; simp; omega
   · simp; omega), Qry.of (t := t) ((Below.refl _ _).alloc (Nat.le_refl _) _) h.size, heap_alloc_new w _⟩
theorem GtR.step {base : Nat} {F : Nat → Prop} {t : Ti} {w W W' : World} (h : GtR base F t w W) (ht : TbAt base (fun g => F g ∨ g = w.heap.size) t W') (hq : Qry base t W W') : GtR base F t w W' := ⟨ht, h.qry.trans hq, (hq.tagd _ _ _ _ h.res (by decide) (by decide)).trans h.res⟩
theorem grownBy_set4 (W : World) (b : Nat) (x y z u : Value) : W.grownBy ((((W.setCell ⟨b, 0, none⟩ x).setCell ⟨b, 1, none⟩ y).setCell ⟨b, 2, none⟩ z).setCell ⟨b, 3, none⟩ u) (some b) :=
 grownBy_new (grownBy_new (grownBy_new (grownBy_set W ⟨b, 0, none⟩ x) (grownBy_set _ ⟨b, 1, none⟩ y) (fun _ e => .inr e)) (grownBy_set _ ⟨b, 2, none⟩ z) (fun _ e => .inr e)) (grownBy_set _ ⟨b, 3, none⟩ u) (fun _ e => .inr e)
theorem GtR.fin {base : Nat} {F : Nat → Prop} {t : Ti} {w W : World} (h : GtR base F t w W) (hs : base ≤ w.heap.size) (x y z u : Value) : ∃ W5, (((W.setCell ⟨w.heap.size, 0, none⟩ x).setCell ⟨w.heap.size, 1, none⟩ y).setCell ⟨w.heap.size, 2, none⟩ z).setCell ⟨w.heap.size, 3, none⟩ u = W5 ∧
   W5.heap[w.heap.size]? = some (.cells #[x, y, z, u] 35) ∧ TbAt base F t W5 ∧ Qry base t w W5 ∧ W.grownBy W5 (some w.heap.size) := by
 have hg := grownBy_set4 W w.heap.size x y z u
 refine ⟨_, rfl, heap_set4 h.res, ?_, h.qry.new hg hs (fun g e => by injection e with e; omega), hg⟩
 exact (h.tab.foreign hg (fun g e => by
   injection e with e
   subst e
   exact ⟨.inr rfl, hs, _, _, h.res⟩)).less (fun g hg => .inl hg)
theorem TbAt.fcell {base : Nat} {F : Nat → Prop} {t : Ti} {w : World} (h : TbAt base F t w) : w.cell? ⟨t.gt, 0, none⟩ = some (.slice t.PA t.ps.length t.PC) ∧ w.cell? ⟨t.gt, 1, none⟩ = some (.slice t.fA t.f.length t.fc) ∧ w.cell? ⟨t.gt, 2, none⟩ = some (.int .i64 t.many) ∧
   w.cell? ⟨t.gt, 3, none⟩ = some (.int .i64 t.low) ∧ w.cell? ⟨t.gt, 4, none⟩ = some (.int .i64 t.high) ∧ ∃ z : Int, w.cell? ⟨t.gt, 5, none⟩ = some (.int .i64 z) ∧ w.frozen? ⟨t.gt, 5, none⟩ = false := by
 obtain ⟨z, hz⟩ := h.box
 refine ⟨?_, ?_, ?_, ?_, ?_, z, ?_, frozen_of_row w t.gt 5 _ _ hz⟩
 · rw [cell_of_row w t.gt 0 _ _ (0, 0) hz]; rfl
 · rw [cell_of_row w t.gt 1 _ _ (0, 0) hz]; rfl
 · rw [cell_of_row w t.gt 2 _ _ (0, 0) hz]; rfl
 · rw [cell_of_row w t.gt 3 _ _ (0, 0) hz]; rfl
 · rw [cell_of_row w t.gt 4 _ _ (0, 0) hz]; rfl
 · rw [cell_of_row w t.gt 5 _ _ (0, 0) hz]; rfl
theorem TbR.filt {t : Ti} {R : List Rv} {bits : Nat} (h : TbR t R bits) : 9 ≤ t.f.length ∧ 1 ≤ (t.f.getD 0 0).toNat ∧ (t.f.getD 0 0).toNat ≤ 12 ∧ ∀ key, Blm.Miss t.f key → ∀ seq, Tb.get R key seq = none := by
 have hp := Blm.probes_le bits
 have hp1 : 1 ≤ Blm.probes bits := by unfold Blm.probes; omega
 have hh : (t.f.getD 0 0).toNat = Blm.probes bits := by
   rw [h.f, Blm.build_head]
   simp; omega
 refine ⟨?_, by omega, by omega, fun key hm seq => Tb.get_no key seq (fun r hr e => ?_)⟩
 · rw [h.f, Blm.build_len]
   unfold Blm.size; omega
 · rw [h.f] at hm
   exact Blm.build_no_miss bits (R.map Rv.k) key (List.mem_map.2 ⟨r, hr, e⟩) hm
theorem TgQ.none_ {base : Nat} {F : Nat → Prop} {t : Ti} {R : List Rv} {key : List UInt8} {seq : Int} {w W5 : World} (h1 : TbAt base F t W5) (h2 : Qry base t w W5) (hg : Tb.get R key seq = none) : TgQ base F t R key seq w (.returned (.tuple #[zeroRec, .bool false])) W5 := ⟨h1, h2, .inl ⟨hg, rfl⟩⟩
theorem zfacts {W : World} {b : Nat} (h : W.heap[b]? = some zObj) : (W.cell? ⟨b, 0, none⟩ = some (.slice none 0 0) ∧ W.cell? ⟨b, 1, none⟩ = some (.int .i64 0) ∧ W.cell? ⟨b, 2, none⟩ = some (.bool false) ∧ W.cell? ⟨b, 3, none⟩ = some (.slice none 0 0)) ∧
   (W.frozen? ⟨b, 0, none⟩ = false ∧ W.frozen? ⟨b, 1, none⟩ = false ∧ W.frozen? ⟨b, 2, none⟩ = false ∧ W.frozen? ⟨b, 3, none⟩ = false) := by
 refine ⟨⟨?_, ?_, ?_, ?_⟩, frozen_of_row W b 0 _ _ h, frozen_of_row W b 1 _ _ h, frozen_of_row W b 2 _ _ h, frozen_of_row W b 3 _ _ h⟩
 · rw [cell_of_row W b 0 _ _ (0, 0) h]; rfl
 · rw [cell_of_row W b 1 _ _ (0, 0) h]; rfl
 · rw [cell_of_row W b 2 _ _ (0, 0) h]; rfl
 · rw [cell_of_row W b 3 _ _ (0, 0) h]; rfl
theorem rfacts {W : World} {b : Nat} {x y z u : Value} {T : TypeId} (h : W.heap[b]? = some (.cells #[x, y, z, u] T)) : W.cell? ⟨b, 0, none⟩ = some x ∧ W.cell? ⟨b, 1, none⟩ = some y ∧ W.cell? ⟨b, 2, none⟩ = some z ∧ W.cell? ⟨b, 3, none⟩ = some u := by
 refine ⟨?_, ?_, ?_, ?_⟩
 · rw [cell_of_row W b 0 _ _ (0, 0) h]; rfl
 · rw [cell_of_row W b 1 _ _ (0, 0) h]; rfl
 · rw [cell_of_row W b 2 _ _ (0, 0) h]; rfl
 · rw [cell_of_row W b 3 _ _ (0, 0) h]; rfl
set_option maxHeartbeats 4000000 in
set_option maxRecDepth 100000 in
theorem tget_any (base : Nat) (F : Nat → Prop) (t : Ti) (R : List Rv) (bits : Nat) (hR : TbR t R bits) (kA : Option Addr) (kc : Nat) (key : List UInt8) (seq : Int) (w : World) (h : TbAt base F t w) (hk : HBs w base kA key) (hkl : key.length ≤ 10000) (hkc : key.length ≤ kc) (hn : t.ps.length ≤ 100000) :
   Calls Tryz.prog 19 #[.pointer (some ⟨t.gt, 0, none⟩), .slice kA key.length kc, .int .i64 seq] w (TgQ base F t R key seq w) := by
 have hs := h.size
 have HR := hid hR
 have HG0 := hid (GtR.start h)
 have HQ0 := hid (Qry.of (t := t) ((Below.refl w.heap.size w).alloc (Nat.le_refl _) zObj) hs)
 have HK0 := hid (HQ0.out.hbs (Nat.le_refl _) hk)
 have hgtl : t.gt < w.heap.size := by
   obtain ⟨z, hz⟩ := h.box
   exact (Array.getElem?_eq_some_iff.1 hz).1
 have HZ0 : Hid ((w.alloc zObj).heap.size = w.heap.size + 1) := hid (by simp)
 clear hR h hk
 by_cases hlow : seq < 1
 · have HN := hid (Tb.get_low HR.out.rt key seq hlow)
   obtain ⟨⟨z0, z1, z2, z3⟩, f0, f1, f2, f3⟩ := zfacts HG0.out.res
   unfold zObj at z0 z1 z2 z3 f0 f1 f2 f3
   go_enter Tryz.func19, Tryz.ntmps19
   go_wp2_with fail
   exact bodyPost_ret (v := .tuple #[zeroRec, .bool false]) (by simp [zeroRec, results, Tryz.results19, go_sem, z0, z1, z2, z3]) rfl (TgQ.none_ (HG0.out.tab.less (fun g hg => .inl hg)) HG0.out.qry HN.out)
 obtain ⟨s, hsm⟩ : ∃ s, s = min seq 1099511627776 := ⟨_, rfl⟩
 have hs1 : 1 ≤ s ∧ s ≤ 1099511627776 := by omega
 have HSM : Hid (Tb.get R key seq = Tb.get R key s) := hid (by rw [hsm]; exact Tb.get_min HR.out.rt key seq)
 obtain ⟨hf9, hf1, hf2, hmiss⟩ := HR.out.filt
 have HMS := hid hmiss
 obtain ⟨fb, fo, hfA, hfb, hfc⟩ := HG0.out.tab.filt.rd.at_ (k := 0) (by omega)
 clear hfc
 have KM := may_any fb fo t.fc t.f kA kc key (w.alloc zObj) (by rw [← hfA]; exact HG0.out.tab.filt.rd) HK0.out.rd (by omega) hf9 (by have := HG0.out.tab.f3; omega) hf1 hf2
 have c1 := HG0.out.tab.fcell.2.1
 rw [hfA] at c1
 have KM := hid KM
 have HFA := hid hfA
 unfold zObj at KM c1
 clear hmiss hfA
 obtain ⟨fl, hfl⟩ : ∃ fl, fl = t.f.length := ⟨_, rfl⟩
 rw [← hfl] at KM c1
 clear hf9 hfl
 go_enter Tryz.func19, Tryz.ntmps19
 go_wp2_with fail
 refine KM.out.mono ?_
 rintro e w2 ⟨hb2, rfl | ⟨rfl, hms⟩⟩
 · have HG2 : Hid (GtR base F t w w2) := hid (HG0.out.step (HG0.out.tab.call hb2) (Qry.of (t := t) hb2 HG0.out.tab.size))
   have HK2 := hid (HK0.out.below hb2)
   obtain ⟨d0, _, _, _, _, z, dz, fz⟩ := HG2.out.tab.fcell
   have KA := hid (passed_any t.gt z w2 dz fz)
   clear hb2 c1 d0
   go_wp2_with fail
   refine KA.out.mono ?_
   rintro e w3 ⟨v, rfl, hw3⟩
   have HG3 : Hid (GtR base F t w w3) := hid (by rw [← hw3]; exact HG2.out.step (HG2.out.tab.count v).1 (HG2.out.tab.count v).2)
   have HK3 : Hid (HBs w3 base kA key) := hid (by rw [← hw3]; exact (HG2.out.tab.count v).2.hbs (Nat.le_refl _) HK2.out)
   clear hw3 dz fz
   go_wp2_with fail
   have KS := hid (seek_any base _ t R bits HR.out kA kc key s w3 HG3.out.tab HK3.out hkl hkc hs1.1 hs1.2 hn)
   rw [← hsm]
   refine KS.out.mono ?_
   rintro e w4 ⟨ht4, hq4, at_, i, rfl, hsk⟩
   have HG4 := hid (HG3.out.step ht4 hq4)
   have HK4 := hid (hq4.hbs (Nat.le_refl _) HK3.out)
   have HSK := hid hsk
   have c4 := HG4.out.tab.fcell.1
   clear ht4 hq4 hsk KS KA
   by_cases hae : at_ = t.ps.length
   · have HN : Hid (Tb.get R key seq = none) := hid (by
       rw [HSM.out]
       exact HR.out.hitEnd (i := i) (by rw [← hae]; exact HSK.out))
     subst hae
     obtain ⟨⟨z0, z1, z2, z3⟩, f0, f1, f2, f3⟩ := zfacts HG4.out.res
     obtain ⟨W5, hW5, hx5, ht5, hq5, _⟩ := HG4.out.fin hs (.slice none 0 0) (.int .i64 0) (.bool false) (.slice none 0 0)
     obtain ⟨e0, e1, e2, e3⟩ := rfacts hx5
     have HT5 := hid ht5
     have HQ5 := hid hq5
     have HW5 := hid hW5
     clear hx5 ht5 hq5 hW5
     go_wp2_with fail
     rw [HW5.out]
     exact bodyPost_ret (v := .tuple #[zeroRec, .bool false]) (by simp [zeroRec, results, Tryz.results19, go_sem, e0, e1, e2, e3]) rfl (TgQ.none_ HT5.out HQ5.out HN.out)
   · have hal : at_ < t.ps.length := by
       rcases HSK.out with ⟨h1, _⟩ | ⟨h1, _⟩
       · exact h1
       · exact absurd h1 hae
     obtain ⟨pb, po, hA, hpbl, hpc⟩ := RdS.row (f := Ptc) (n := 1) (fun _ => rfl) (by omega) HG4.out.tab.row.rd (by rw [List.length_map]; omega)
     have s0o := hpc at_ (by rw [List.length_map]; exact hal) 0 _ rfl
     simp only [Nat.mul_one, Nat.add_zero, List.getElem_map] at s0o
     have hxm : t.ps[at_] ∈ t.ps := List.getElem_mem hal
     have KAo := hid (all_any base _ t t.ps[at_] hxm w4 HG4.out.tab (HR.out.prt _ hxm))
     obtain ⟨x, hx, s0, KA⟩ : ∃ x, t.ps[at_]? = some x ∧ w4.cell? ⟨pb, po + at_, none⟩ = some (.pointer (some ⟨x.1.g, 0, none⟩)) ∧ Hid (Calls Tryz.prog 33 #[.pointer (some ⟨x.1.g, 0, none⟩)] w4 (AllQ base (fun g => F g ∨ g = w.heap.size) t x.2 w4)) := ⟨_, List.getElem?_eq_getElem hal, s0o, KAo⟩
     clear s0o KAo hpc hxm
     obtain ⟨n, hnn⟩ : ∃ n, n = t.ps.length := ⟨_, rfl⟩
     rw [← hnn] at c4 hal hae hn
     rw [hA] at c4
     have HX := hid hx
     have HA := hid hA
     have hd2 : ((at_ : Int) == (n : Int)) = false := by simp; omega
     clear hx hnn hA hae
     go_wp2_with fail
     refine KA.out.mono ?_
     rintro e w5 ⟨ht5, hq5, lA, lc, l, rfl, hrec, hco, _⟩
     have HG5 := hid (HG4.out.step ht5 hq5)
     have HK5 := hid (hq5.hbs (Nat.le_refl _) HK4.out)
     obtain ⟨hi, r, hrc, hget⟩ := HR.out.hitAt HSK.out HX.out hco
     obtain ⟨lb, lo, hlA, hlb, hlc⟩ := hrec.rd.row4 (by omega)
     subst hlA
     obtain ⟨a0, a1, a2, a3⟩ := hlc i hi
     have hin := hrec.inn l[i] (List.getElem_mem hi)
     have hbaw : ∀ o, Below w5.heap.size w5 (w5.alloc o) := fun o => (Below.refl _ _).alloc (Nat.le_refl _) o
     obtain ⟨y, hy⟩ : ∃ y, y = l[i] := ⟨_, rfl⟩
     rw [← hy] at a0 a1 a2 a3 hin hrc hget
     have hil : i < l.length := hi
     have HGET := hid hget
     have HRC := hid hrc
     obtain ⟨yA, yc, yk, ys, yd, yvA, yvc, yv⟩ := y
     simp only at a0 a1 a2 a3 hin HGET
     have HRY : Hid (HBs w5 base yA yk ∧ HBs w5 base yvA yv ∧ yk.length ≤ 70000 ∧ yv.length ≤ 70000) := hid ⟨hin.1.1, hin.1.2.2.1, hin.2⟩
     have KE := hid (bytesEq_any yA kA yc kc yk key (w5.alloc (.cells #[.slice yA yk.length yc, .int .i64 ys, .bool yd, .slice yvA yv.length yvc] 35)) ((HRY.out.1.below (hbaw _)).rd) ((HK5.out.below (hbaw _)).rd))
     clear ht5 hq5 hrec hco hlc hin hy hi hrc hget hbaw s0 c4 KA
     obtain ⟨q, hq⟩ : ∃ q, q = (yk == key) := ⟨_, rfl⟩
     rw [← hq] at KE
     have HQE := hid hq
     clear hq
     rcases q with _ | _
     · have HN : Hid (Tb.get R key seq = none) := hid (by
         have h1 := HQE.out
         rw [HSM.out, HGET.out, if_neg (by simpa using h1.symm)])
       go_wp2_with fail
       refine KE.out.mono ?_
       rintro e w6 ⟨rfl, rfl⟩
       have HG6 : Hid (GtR base F t w (w5.alloc (.cells #[.slice yA yk.length yc, .int .i64 ys, .bool yd, .slice yvA yv.length yvc] 35))) := hid (HG5.out.step (HG5.out.tab.call ((Below.refl _ _).alloc (Nat.le_refl _) _)) (Qry.of (t := t) ((Below.refl _ _).alloc (Nat.le_refl _) _) HG5.out.tab.size))
       obtain ⟨V, hV⟩ : ∃ V, w5.alloc (.cells #[.slice yA yk.length yc, .int .i64 ys, .bool yd, .slice yvA yv.length yvc] 35) = V := ⟨_, rfl⟩
       rw [hV] at HG6 ⊢
       clear hV a0 a1 a2 a3
       obtain ⟨⟨z0, z1, z2, z3⟩, f0, f1, f2, f3⟩ := zfacts HG6.out.res
       obtain ⟨W5, hW5, hx5, ht5, hq5, _⟩ := HG6.out.fin hs (.slice none 0 0) (.int .i64 0) (.bool false) (.slice none 0 0)
       obtain ⟨e0, e1, e2, e3⟩ := rfacts hx5
       have HT5 := hid ht5
       have HQ5 := hid hq5
       have HW5 := hid hW5
       clear hx5 ht5 hq5 hW5
       go_wp2_with fail
       rw [HW5.out]
       exact bodyPost_ret (v := .tuple #[zeroRec, .bool false]) (by simp [zeroRec, results, Tryz.results19, go_sem, e0, e1, e2, e3]) rfl (TgQ.none_ HT5.out HQ5.out HN.out)
     · have HN : Hid (Tb.get R key seq = some r) := hid (by
         have h1 := HQE.out
         rw [HSM.out, HGET.out, if_pos (by simpa using h1.symm)])
       go_wp2_with fail
       refine KE.out.mono ?_
       rintro e w6 ⟨rfl, rfl⟩
       have hbw6 : Below w5.heap.size w5 (w5.alloc (.cells #[.slice yA yk.length yc, .int .i64 ys, .bool yd, .slice yvA yv.length yvc] 35)) := (Below.refl _ _).alloc (Nat.le_refl _) _
       have KC := hid (copied_any ⟨yA, yc, yk, ys, yd, yvA, yvc, yv⟩ (w5.alloc (.cells #[.slice yA yk.length yc, .int .i64 ys, .bool yd, .slice yvA yv.length yvc] 35)) (HRY.out.1.below hbw6).rd (HRY.out.2.1.below hbw6).rd (by have := HRY.out.2.2.1; simp only; omega) (by have := HRY.out.2.2.2; simp only; omega))
       have HG6 : Hid (GtR base F t w (w5.alloc (.cells #[.slice yA yk.length yc, .int .i64 ys, .bool yd, .slice yvA yv.length yvc] 35))) := hid (HG5.out.step (HG5.out.tab.call hbw6) (Qry.of (t := t) hbw6 HG5.out.tab.size))
       simp only [Rv.val] at KC
       clear hbw6 a0 a1 a2 a3
       go_wp2_with fail
       refine KC.out.mono ?_
       rintro e w7 ⟨hb7, r', rfl, hcr, hok, hov⟩
       have HG7 : Hid (GtR base F t w w7) := hid (HG6.out.step (HG6.out.tab.call hb7) (Qry.of (t := t) hb7 HG6.out.tab.size))
       obtain ⟨⟨z0, z1, z2, z3⟩, f0, f1, f2, f3⟩ := zfacts HG7.out.res
       have HCR : Hid (r'.core = r.core) := hid (hcr.trans HRC.out.symm)
       have hszz := HG6.out.tab.size
       have HOK : Hid (Own w7 base 5 r'.kA r'.kc r'.k) := hid (hok.mono hszz)
       have HOV : Hid (Own w7 base 5 r'.vA r'.vc r'.v) := hid (hov.mono hszz)
       obtain ⟨W5, hW5, hx5, ht5, hq5, hg5⟩ := HG7.out.fin hs (.slice r'.kA r'.k.length r'.kc) (.int .i64 r'.seq) (.bool r'.del) (.slice r'.vA r'.v.length r'.vc)
       obtain ⟨e0, e1, e2, e3⟩ := rfacts hx5
       have HT5 := hid ht5
       have HQ5 := hid hq5
       have HW5 := hid hW5
       have HO5 : Hid (∀ (A : Option Addr) (c : Nat) (l : List UInt8), Own w7 base 5 A c l → Own W5 base 5 A c l) := hid (fun A c l ho => ho.kept hg5 (by
         rcases hA : blk A with _ | g
         · exact .inl rfl
         · refine .inr (fun e => ?_)
           injection e with e
           subst e
           obtain ⟨_, cs, fr, h1⟩ := own_tag ho hA
           exact tag_ne2 h1 HG7.out.res (by decide) rfl))
       clear hx5 ht5 hq5 hW5 hg5 hb7 hcr hok hov
       obtain ⟨rA, rc, rk, rs, rd, rvA, rvc, rv⟩ := r'
       simp only [Rv.val] at e0 e1 e2 e3 HW5 ⊢
       go_wp2_with fail
       rw [HW5.out]
       exact bodyPost_ret (v := .tuple #[.agg #[.slice rA rk.length rc, .int .i64 rs, .bool rd, .slice rvA rv.length rvc], .bool true]) (by simp [results, Tryz.results19, go_sem, e0, e1, e2, e3]) rfl
         ⟨HT5.out, HQ5.out, .inr ⟨r, ⟨rA, rc, rk, rs, rd, rvA, rvc, rv⟩, HN.out, HCR.out, rfl, HO5.out _ _ _ HOK.out, HO5.out _ _ _ HOV.out⟩⟩
 · have HN := hid (HMS.out key hms seq)
   have HG2 : Hid (GtR base F t w w2) := hid (HG0.out.step (HG0.out.tab.call hb2) (Qry.of (t := t) hb2 HG0.out.tab.size))
   obtain ⟨⟨z0, z1, z2, z3⟩, f0, f1, f2, f3⟩ := zfacts HG2.out.res
   obtain ⟨W5, hW5, hx5, ht5, hq5, _⟩ := HG2.out.fin hs (.slice none 0 0) (.int .i64 0) (.bool false) (.slice none 0 0)
   obtain ⟨e0, e1, e2, e3⟩ := rfacts hx5
   have HT5 := hid ht5
   have HQ5 := hid hq5
   have HW5 := hid hW5
   clear hx5 ht5 hq5 hW5 hb2 hms
   go_wp2_with fail
   rw [HW5.out]
   exact bodyPost_ret (v := .tuple #[zeroRec, .bool false]) (by simp [zeroRec, results, Tryz.results19, go_sem, e0, e1, e2, e3]) rfl (TgQ.none_ HT5.out HQ5.out HN.out)
structure Nd where
 g : Nat
 nb : Nat
 h : Nat
 r : Rv
def ptrV : Option Nat → Value
 | none => .pointer none
 | some g => .pointer (some ⟨g, 0, none⟩)
namespace Sk
def nx (l : List Nd) (lv : Nat) : Option Nat := (l.find? (fun d => decide (lv < d.h))).map Nd.g
def F (l : List Nd) (p lv : Nat) : Option Nat := nx (l.drop p) lv
theorem nx_snoc (l : List Nd) (d : Nd) (lv : Nat) : nx (l ++ [d]) lv = match nx l lv with | some g => some g | none => if lv < d.h then some d.g else none := by
 unfold nx
 rw [List.find?_append]
 cases h : l.find? (fun d => decide (lv < d.h)) with
 | some x => rfl
 | none =>
   by_cases hd : lv < d.h
   · simp [hd]
   · simp [hd]
theorem nx_none {l : List Nd} {lv : Nat} (h : nx l lv = none) : ∀ d ∈ l, d.h ≤ lv := fun d hd => by
 unfold nx at h
 rw [Option.map_eq_none_iff, List.find?_eq_none] at h
 have := h d hd
 simp at this
 omega
theorem F_some {l : List Nd} {p lv g : Nat} (h : F l p lv = some g) : ∃ q, p ≤ q ∧ ∃ hq : q < l.length, l[q].g = g ∧ lv < l[q].h ∧ ∀ m (hm : m < l.length), p ≤ m → m < q → l[m].h ≤ lv := by
 unfold F nx at h
 rw [Option.map_eq_some_iff] at h
 obtain ⟨d, hd, e⟩ := h
 rw [List.find?_eq_some_iff_getElem] at hd
 obtain ⟨h1, i, hi, e2, h3⟩ := hd
 have hi2 : p + i < l.length := by rw [List.length_drop] at hi; omega
 rw [List.getElem_drop] at e2
 refine ⟨p + i, by omega, hi2, by rw [e2]; exact e, by rw [e2]; simpa using h1, fun m hm hpm hmq => ?_⟩
 obtain ⟨j, rfl⟩ : ∃ j, m = p + j := ⟨m - p, by omega⟩
 have := h3 j (by omega)
 rw [List.getElem_drop] at this
 simp at this
 omega
theorem F_none {l : List Nd} {p lv : Nat} (h : F l p lv = none) : ∀ m (hm : m < l.length), p ≤ m → l[m].h ≤ lv := fun m hm hpm => by
 refine nx_none h _ ?_
 rw [List.mem_iff_getElem]
 exact ⟨m - p, by rw [List.length_drop]; omega, by rw [List.getElem_drop]; congr 1; omega⟩
end Sk
structure SkAt (base : Nat) (hd : Nd) (l : List Nd) (f : Nat → Nat → Option Nat) (w : World) : Prop where
 size : base ≤ w.heap.size
 list : ∃ hgt sz : Int, w.heap[hd.g]? = some (.cells #[.slice none 0 0, .int .i64 0, .bool false, .slice none 0 0, .slice (some ⟨hd.nb, 0, none⟩) 12 12, .int .i64 hgt, .int .i64 (l.length : Int), .int .i64 sz] 115)
 h12 : hd.h = 12
 ge : base ≤ hd.g
 node : ∀ d ∈ l, base ≤ d.g ∧ w.heap[d.g]? = some (.cells #[.slice d.r.kA d.r.k.length d.r.kc, .int .i64 d.r.seq, .bool d.r.del, .slice d.r.vA d.r.v.length d.r.vc, .slice (some ⟨d.nb, 0, none⟩) d.h d.h] 113) ∧
   HBs w base d.r.kA d.r.k ∧ HBs w base d.r.vA d.r.v ∧ d.r.k.length ≤ d.r.kc ∧ d.r.v.length ≤ d.r.vc ∧ 1 ≤ d.h ∧ d.h ≤ 12 ∧ d.r.k.length ≤ 70000 ∧ d.r.v.length ≤ 70000
 rows : ∀ p (hp : p < (hd :: l).length), base ≤ ((hd :: l)[p]).nb ∧ ∃ cs : Array Value, w.heap[((hd :: l)[p]).nb]? = some (.cells cs 116) ∧ cs.size = ((hd :: l)[p]).h ∧ ∀ lv, lv < ((hd :: l)[p]).h → cs[lv]? = some (ptrV (f p lv))
 nd : ((hd :: l).map Nd.nb).Nodup
section
variable {base : Nat} {hd : Nd} {l : List Nd} {f : Nat → Nat → Option Nat} {w w' : World}
theorem SkAt.call (h : SkAt base hd l f w) (hb : Below w.heap.size w w') : SkAt base hd l f w' := by
 have key : ∀ k o, w.heap[k]? = some o → w'.heap[k]? = some o := fun k o e => (hb.block k (Array.getElem?_eq_some_iff.1 e).1).trans e
 refine ⟨Nat.le_trans h.size hb.size, ?_, h.h12, h.ge, fun d hd2 => ?_, fun p hp => ?_, h.nd⟩
 · obtain ⟨a, b, e⟩ := h.list
   exact ⟨a, b, key _ _ e⟩
 · obtain ⟨h1, h2, h3, h4, h5⟩ := h.node d hd2
   exact ⟨h1, key _ _ h2, h3.below hb, h4.below hb, h5⟩
 · obtain ⟨h1, cs, h2, h3⟩ := h.rows p hp
   exact ⟨h1, cs, key _ _ h2, h3⟩
theorem SkAt.qry {b2 : Nat} {t : Ti} (h : SkAt base hd l f w) (hq : Qry b2 t w w') (hb : base ≤ b2) : SkAt base hd l f w' := by
 have key : ∀ (k : Nat) (cs : Array Value) (T : TypeId), w.heap[k]? = some (Obj.cells cs T) → T ≠ 72 → T ≠ 91 → w'.heap[k]? = some (Obj.cells cs T) := fun k cs T e h1 h2 => (hq.tagd k cs T _ e h1 h2).trans e
 refine ⟨Nat.le_trans h.size hq.below.size, ?_, h.h12, h.ge, fun d hd2 => ?_, fun p hp => ?_, h.nd⟩
 · obtain ⟨a, b, e⟩ := h.list
   exact ⟨a, b, key _ _ _ e (by decide) (by decide)⟩
 · obtain ⟨h1, h2, h3, h4, h5⟩ := h.node d hd2
   exact ⟨h1, key _ _ _ h2 (by decide) (by decide), hq.hbs hb h3, hq.hbs hb h4, h5⟩
 · obtain ⟨h1, cs, h2, h3⟩ := h.rows p hp
   exact ⟨h1, cs, key _ _ _ h2 (by decide) (by decide), h3⟩
end
namespace Tb
theorem Is.first {b : List UInt8} {l : List Rv} {s t : Int} (h : Is b l s t) : b.head? = some 68 := by
 obtain ⟨gs, fs, hf⟩ := h.frames
 obtain ⟨f, ix, e⟩ := hf.form
 obtain ⟨g, gs', rfl⟩ := List.exists_cons_of_ne_nil hf.ne
 have hb := hf.scan.1
 rw [e] at hb
 rw [hb]; rfl
theorem Is.pos {b : List UInt8} {l : List Rv} {s t : Int} (h : Is b l s t) : 0 < b.length := by
 have := h.first
 cases b with
 | nil => cases this
 | cons a b => simp
theorem Is.long {b : List UInt8} {l : List Rv} {s t : Int} (h : Is b l s t) (hl : l.length ≤ 2000) : b.length ≤ 900000000 := by
 have u := h.unf
 have hb := run_bnd s l u.r u.l2 l.length (Nat.le_refl _)
 rw [List.take_length] at hb
 have h1 := (bnd_close hb (by omega)).1
 have h2 := hb.out
 rw [u.eq, List.length_append]
 unfold ends
 simp only [List.flatMap_cons, List.flatMap_nil, List.append_nil, List.length_append]
 have p1 := putL_len 70 (Blm.build t.toNat (l.map Rv.k))
 have p2 := putL_len 73 (blkB 16 (close (run s l)).index)
 have p3 := putL_len 90 (nums [s.toNat, t.toNat, l.length, (low l).toNat, (high l).toNat])
 omega
theorem build_err (l : List Rv) (s t : Int) : (build l s t).1 = 0 ∨ (build l s t).1 = 1 ∨ (build l s t).1 = 2 ∨ (build l s t).1 = 10 := by
 unfold build
 split
 · simp
 · split
   · simp
   · simp only
     split <;> simp
theorem is_of {l : List Rv} {s t : Int} (h : (build l s t).1 = 0) : Is (build l s t).2 l s t := by
 unfold Is
 rw [← h]
def one : Rv := ⟨none, 0, [97], 2, false, none, 0, []⟩
theorem one_built : (build [one] 64 10).1 = 0 := by decide +kernel
end Tb
end Go.Proofs.YtgafionfojnieaaGreatDoor
