/- Parts of the proof, one behind the other: Contracts of the reference's log: its files, what a file tells.; Contracts of the reference's log: what there is.; The reference's log as it lies in memory; contracts: Next, Waiting, make.; Contracts of the reference's log: Open.; The statement WalOpens, walked.; Contracts of the reference's log: Add.; Contracts of the reference's log: broke, Skip.; Contracts of the reference's log: Commit.; The plain log: what removing a file leaves of what the others tell.; Contracts of the reference's log: Retire. -/
import Derived.Test.YtaiokogbhfliiaaGreatDoorSrg04
import Derived.Test.YtaiokogbhfliiaaGreatDoorMrg36
import Derived.Test.YtaiokogbhfliiaaGreatDoorSrg06
import Derived.Test.YtaiokogbhfliiaaGreatDoorMrg05
import Derived.BigQuiet
import Derived.Test.YtaiokogbhfliiaaGreatDoorMrg39
import Derived.Test.YtaiokogbhfliiaaGreatDoorSrg01
import Derived.Test.YtaiokogbhfliiaaGreatDoorSrg05
import Derived.Test.YtaiokogbhfliiaaGreatDoorMrg40
import Derived.Test.YtaiokogbhfliiaaGreatDoorMrg38
import Derived.Test.YtaiokogbhfliiaaGreatDoorMrg25
namespace Go.Proofs.YtaiokogbhfliiaaGreatDoor
open Go.RowKit Go.Maps

namespace Ref
theorem inT : RT Tryz.prog 58 3 Wal.N1 1 8 (.int .i64 0) :=
  ⟨Tryz.underlying58, by kernel_rfl, fun _ => rfl, fun v u hu => by simp [Wal.N1] at hu; subst hu; rfl, by omega, rfl⟩
theorem rbT : RT Tryz.prog 93 99 Wal.Bv.cells 2 32 (.agg #[.int .i64 0, .slice none 0 0]) :=
  ⟨Tryz.underlying93, by kernel_rfl, fun _ => rfl, fun _ u hu => by simp [Wal.Bv.cells] at hu; rcases hu with h | h <;> (subst h; rfl), by omega, rfl⟩
set_option maxHeartbeats 1000000 in
set_option maxRecDepth 100000 in
theorem files_any {w : World} {base g : Nat} {s : Sto.St} {m : Mem} (h : StAt w base g s m) (hf : s.files.length ≤ 1000000) :
    Calls Tryz.prog 49 #[.pointer (some ⟨g, 0, none⟩)] w fun e w' => ∃ A c, e = .returned (.slice A (Wal.files s).length c) ∧ OwnS Wal.N1 1 w' w.heap.size 3 A c (Wal.files s) ∧ Below w.heap.size w w' := by
  have hnl : (Sto.names s).length ≤ 1000000 := by
    unfold Sto.names
    rw [List.length_map]
    exact Nat.le_trans h.r.ok.gnow.len hf
  have KN := Lib.hid (names_any h hf)
  have HE : Hid (Wal.files s = Wal.filesOf (Sto.names s)) := Lib.hid rfl
  obtain ⟨l, hl⟩ : ∃ l, l = Sto.names s := ⟨_, rfl⟩
  rw [← hl] at KN HE hnl
  rw [HE.out]
  clear h hl
  go_enter Tryz.func49, Tryz.ntmps49
  go_wp2_with fail
  refine KN.out.mono ?_
  rintro e w1 ⟨A, c, rfl, ho, hb1⟩
  have HO := Lib.hid ho
  have HB1 := Lib.hid hb1
  clear ho hb1
  go_wp2_with fail
  go_loopw [3, 5] (fun o i wr => ∃ (k oc : Nat) (OA : Option Addr) (L : List Nat), k ≤ l.length ∧ i = .int .i64 (k : Int) ∧ o = .slice OA L.length oc ∧ L.length ≤ k ∧ Hid (L = Wal.filesOf (l.take k)) ∧ Hid (OwnS Wal.N1 1 wr w.heap.size 3 OA oc L) ∧ Hid (OwnS Sto.S1 1 wr w.heap.size 9 A c l) ∧ Hid (Below w.heap.size w wr)) (fun _ i _ => l.length - (intOf i).toNat)
  case atStart => exact ⟨0, 0, none, [], by omega, rfl, rfl, Nat.le_refl _, Lib.hid rfl, Lib.hid (OwnS.nil _ _ _), HO, HB1⟩
  case round =>
    obtain ⟨k, oc, OA, L, hk, rfl, rfl, hLk, HL, HOL, HON, HB⟩ := hrel
    by_cases hlt : k < l.length
    · obtain ⟨b, off, hA, hb, hc⟩ := RdS.row (f := Sto.S1) (n := 1) (fun _ => rfl) (by omega) HON.out.rd (by omega)
      have c0 := hc k hlt 0 _ rfl
      rw [Nat.add_zero, Nat.mul_one] at c0
      have KM := Lib.hid (number_any l[k] wr)
      have HSN : Hid (Wal.filesOf (l.take (k + 1)) = if 0 < Wal.numbered l[k] then L ++ [Wal.numbered l[k]] else L) := Lib.hid (by
        rw [List.take_succ_eq_append_getElem hlt, Wal.filesOf_snoc, HL.out])
      have hnb := Wal.numbered_bd l[k]
      obtain ⟨S, hS⟩ : ∃ S, S = (⟨(l[k]).toArray⟩ : ByteArray) := ⟨_, rfl⟩
      obtain ⟨z, hz⟩ : ∃ z, z = Wal.numbered l[k] := ⟨_, rfl⟩
      have c0' : wr.cell? ⟨b, off + k, none⟩ = some (.string S) := by rw [hS]; exact c0
      unfold Sto.str at KM
      rw [← hS, ← hz] at KM
      rw [← hz] at HSN hnb
      subst hA
      clear c0 hc hS hz
      go_wp2_with fail
      refine KM.out.mono ?_
      rintro e w2 ⟨rfl, rfl⟩
      have hb2 : Below w2.heap.size w2 w2 := Below.refl _ _
      have HB2 := Lib.hid (HB.out.trans (hb2.mono HB.out.size))
      have HON2 := Lib.hid (HON.out.below hb2)
      have HOL2 := Lib.hid (HOL.out.below hb2)
      clear hb2 c0'
      by_cases hz0 : (0 : Int) < (z : Int)
      · have hws := HB2.out.size
        go_wp2_with (at_builtin; refine wpList_append_s _ rfl _ _ inT rfl w.heap.size OA oc L rfl (HOL2.out.alloc _) (w2.heap.size + 1) (some ⟨w2.heap.size, 0, none⟩) 1 1 [z] rfl rfl (rd_one (f := Wal.N1) (n := 1) (fun _ => rfl) w2 z 3) (by simp; omega) (by unfold maxLen; simp; omega) (by simp; omega) ?_; intro A3 c3 L3 w8 hl3 ho3 hg3 hat3)
        have hl3 : L3 = L ++ [z] := hl3
        subst hl3
        have HON8 : Hid (OwnS Sto.S1 1 w8 w.heap.size 9 (some ⟨b, off, none⟩) c l) := Lib.hid (HON2.out.keep (fun k e => by
          have t1 := Sto.ownTagS HON2.out e
          rw [hg3.block k (by simp; have := t1.lt; omega) (fun e2 => (Sto.ownTagS HOL2.out e2.symm).ne t1 (by decide) rfl), Below.heap_alloc _ _ _ t1.lt]))
        have HB8 : Hid (Below w.heap.size w w8) := Lib.hid ((HB2.out.alloc hws _).grown hg3 (by simp; omega) (fun g e => (HOL2.out.blk_ge g e).1))
        exact ⟨⟨k + 1, c3, A3, L ++ [z], hlt, by simp, by simp, by simp; omega, Lib.hid (by rw [HSN.out, if_pos (by omega)]), Lib.hid ho3, HON8, HB8⟩, by simp only [intOf]; omega⟩
      · have HLN : Hid (L = Wal.filesOf (l.take (k + 1))) := Lib.hid (by rw [HSN.out, if_neg (by omega)])
        go_wp2_with fail
        exact ⟨⟨k + 1, oc, OA, L, hlt, by simp, rfl, by omega, HLN, HOL2, HON2, HB2⟩, by simp only [intOf]; omega⟩
    · have hke : k = l.length := by omega
      subst hke
      have HLE : Hid (L = Wal.filesOf l) := Lib.hid (by rw [HL.out, List.take_length])
      go_wp2_with fail
      go_ret
      rw [← HLE.out]
      exact ⟨OA, oc, rfl, HOL.out, HB.out⟩
/-- Batches of the call's own. -/
def BtsP (w : World) (l : List Wal.Bt) (e : Ending) (w' : World) : Prop := ∃ A c L, e = .returned (.slice A l.length c) ∧ L.map Wal.Bv.bt = l ∧ OwnS Wal.Bv.cells 2 w' w.heap.size 99 A c L ∧ Wal.Bys w' w.heap.size L ∧ Below w.heap.size w w'
theorem BtsP.of {w w' : World} {T : List Wal.Bt} {QA : Option Addr} {oc k : Nat} {Q : List Wal.Bv} (hk : Q.length = k) (hT : T = Q.map Wal.Bv.bt) (h1 : OwnS Wal.Bv.cells 2 w' w.heap.size 99 QA oc Q) (h2 : Wal.Bys w' w.heap.size Q) (h3 : Below w.heap.size w w') : BtsP w T (.returned (.slice QA k oc)) w' :=
  ⟨QA, oc, Q, by rw [hT, List.length_map, hk], hT.symm, h1, h2, h3⟩
theorem read_len {w : World} {base g : Nat} {s : Sto.St} {m : Mem} (h : StAt w base g s m) (n : Sto.Str) : (Sto.read s n).2.length ≤ 16777216 := by
  unfold Sto.read
  split
  · simp
  · split
    · simp
    · split
      · simp
      · exact (Sto.file_ok h.r.ok _).2
open Wal in
theorem tells_app {w w4 w8 : World} {n2 oc : Nat} {QA OA : Option Addr} {Q Q2 : List Wal.Bv} {L : List _root_.Go.Proofs.YtaiokogbhfliiaaGreatDoor.Fv} {o : Obj} (hQ : OwnS Wal.Bv.cells 2 w4 w.heap.size 99 QA oc Q) (hB : Wal.Bys w4 w.heap.size Q2) (hb : Below w.heap.size w w4) (hg : (w4.alloc o).grownBy w8 (blk QA)) (hr : RdFv w4 n2 OA L) (hn2 : n2 ≤ w4.heap.size) (hoff : ∀ k, blk QA = some k → n2 ≤ k) :
    Wal.Bys w8 w.heap.size Q2 ∧ RdFv w8 n2 OA L ∧ Below w.heap.size w w8 := by
  have hba : Below w4.heap.size w4 (w4.alloc o) := (Below.refl _ _).alloc (Nat.le_refl _) _
  have hT : ∀ k T, Sto.Tag w4 k T → T ≠ 99 → w8.heap[k]? = w4.heap[k]? := fun k T t hT => (hg.block k (Nat.lt_of_lt_of_le t.lt hba.size) (fun e => (Sto.ownTagS hQ e.symm).ne t (Ne.symm hT) rfl)).trans (hba.block k t.lt)
  have hbn : Below n2 w4 w8 := (hba.mono hn2).grown hg (by have := hba.size; omega) hoff
  exact ⟨hB.keep (Nat.le_trans hba.size hg.size) (fun v hv k e => hT k _ ((hB.ok v hv).2.2.2 k e).2 (by decide)), hr.below hbn (Nat.le_refl _), own_app hb (fun k e => (hQ.blk_ge k e).1) hg⟩
set_option maxHeartbeats 2000000 in
set_option maxRecDepth 100000 in
open Wal in
theorem tells_any {w : World} {base g : Nat} {s : Sto.St} {m : Mem} (h : StAt w base g s m) (hf : s.files.length ≤ 1000000) (n : Nat) (hn : n < 1000000) (T : List Bt) (hT : T = told s n) :
    Calls Tryz.prog 90 #[.pointer (some ⟨g, 0, none⟩), .int .i64 (n : Int)] w (BtsP w T) := by
  have H := Lib.hid h
  have HT := Lib.hid hT
  obtain ⟨N, hN⟩ : ∃ N, N = Wal.name n := ⟨_, rfl⟩
  have KN := Lib.hid (name_any n hn w N hN)
  have HNl : N.length ≤ 9000000000000000 := by rw [hN]; unfold Wal.name; simp [Dig.digW_length]
  have HN := Lib.hid hN
  clear h hT hN
  go_enter Tryz.func90, Tryz.ntmps90
  go_wp2_with fail
  refine KN.out.mono ?_
  rintro e w1 ⟨rfl, hb1⟩
  have KR := Lib.hid (read_any N HNl (H.out.below hb1) hf)
  unfold Sto.str at KR
  have HB1 := Lib.hid hb1
  obtain ⟨R, hR⟩ : ∃ R, R = Sto.read s N := ⟨_, rfl⟩
  rw [← hR] at KR
  have HR := Lib.hid hR
  clear hb1 hR HNl
  go_wp2_with fail
  refine KR.out.mono ?_
  rintro e w2 ⟨hb2, A2, c2, rfl, ho2⟩
  have HB2 := Lib.hid (HB1.out.trans (hb2.mono HB1.out.size))
  have hbl : R.2.length ≤ 16777216 := by rw [HR.out]; exact read_len H.out N
  have KS := Lib.hid (rscan_any A2 c2 R.2 w2 ho2.rd (by omega) ho2.cap ho2.cap_le)
  obtain ⟨b, hb⟩ : ∃ b, b = R.2 := ⟨_, rfl⟩
  have HTT : Hid (T = tells none (scan b)) := Lib.hid (by rw [HT.out, hb, HR.out, HN.out]; rfl)
  rw [← hb] at KS hbl
  clear hb2 ho2
  rw [← hb]
  clear hb
  go_wp2_with fail
  refine KS.out.mono ?_
  rintro e w3 ⟨L, r, OA, OC, hsc, htk, rfl, hrd, hOC, hOM, hb3⟩
  have HLT : Hid (T = tells none (L.map _root_.Go.Proofs.YtaiokogbhfliiaaGreatDoor.Fv.pr)) := Lib.hid (by rw [HTT.out, scan_of hsc htk])
  have hLl : L.length ≤ 16777216 := by
    have := hsc.len.1
    rw [List.length_map] at this
    omega
  have HB3 := Lib.hid (HB2.out.trans (hb3.mono HB2.out.size))
  have HRD := Lib.hid hrd
  have HFL : Hid (∀ f ∈ L, f.b.length ≤ 65536) := Lib.hid (fun f hf => hsc.fit f.pr (List.mem_map_of_mem hf))
  have hsz3 : w.heap.size ≤ w3.heap.size := HB3.out.size
  obtain ⟨n3, hn3⟩ : ∃ n3, n3 = w3.heap.size := ⟨_, rfl⟩
  rw [← hn3] at HRD
  have HN3 := Lib.hid hn3
  clear hsc htk hrd hOC hOM hb3 hn3
  go_wp2_with fail
  go_loopw [5, 10] (fun o i wr => ∃ (k oc : Nat) (QA : Option Addr) (Q : List Bv), k ≤ L.length ∧ i = .int .i64 (k : Int) ∧ o = .slice QA k oc ∧ Hid (Q.length = k) ∧ Hid (∀ v ∈ Q, v.n ≤ 1099511627776) ∧ Hid (T = Q.map Bv.bt ++ tells (Wal.lastN Q) ((L.map _root_.Go.Proofs.YtaiokogbhfliiaaGreatDoor.Fv.pr).drop k)) ∧ Hid (OwnS Bv.cells 2 wr n3 99 QA oc Q) ∧ Hid (Bys wr w.heap.size Q) ∧ Hid (RdFv wr n3 OA L) ∧ Hid (Below w.heap.size w wr) ∧ n3 ≤ wr.heap.size) (fun _ i _ => L.length - (intOf i).toNat)
  case atStart => exact ⟨0, 0, none, [], by omega, rfl, rfl, Lib.hid rfl, Lib.hid (fun _ h => by cases h), Lib.hid (by rw [HLT.out]; rfl), Lib.hid (OwnS.nil _ _ _), Lib.hid (Bys.nil _ _), HRD, HB3, by rw [HN3.out]; exact Nat.le_refl _⟩
  case round =>
    obtain ⟨k, oc, QA, Q, hk, rfl, rfl, HQK, HQN, HTQ, HQ, HBY, HF, HB, hn3r⟩ := hrel
    have HW3 : Hid (w.heap.size ≤ n3) := Lib.hid (by rw [HN3.out]; exact hsz3)
    by_cases hlt : k < L.length
    · obtain ⟨b0, off, hA, hb0, hcl⟩ := HF.out.row2 (by omega)
      obtain ⟨c0, c1⟩ := hcl k hlt
      obtain ⟨hfo, hfc, hfm⟩ := HF.out.ok L[k] (List.getElem_mem hlt)
      obtain ⟨f, hf⟩ : ∃ f, f = L[k] := ⟨_, rfl⟩
      have HD : Hid ((L.map _root_.Go.Proofs.YtaiokogbhfliiaaGreatDoor.Fv.pr).drop k = (f.k, f.b) :: (L.map _root_.Go.Proofs.YtaiokogbhfliiaaGreatDoor.Fv.pr).drop (k + 1)) := Lib.hid (by
        rw [List.drop_eq_getElem_cons (by rw [List.length_map]; exact hlt), List.getElem_map, hf]; rfl)
      rw [← hf] at c0 c1 hfo hfc hfm
      have HFB : Hid (f.b.length ≤ 140737488355328) := Lib.hid (by rw [hf]; exact Nat.le_trans (HFL.out L[k] (List.getElem_mem hlt)) (by omega))
      obtain ⟨fk, fA, fc, fb⟩ := f
      obtain ⟨q, hq⟩ : ∃ q, q = fk.toNat := ⟨_, rfl⟩
      simp only at c0 c1 hfo hfc hfm
      rw [← hq] at c0
      have HFK := Lib.hid hq
      have KT := Lib.hid (rtake_any fA fc fb wr (hfo.more hn3r) HFB.out hfc hfm)
      subst hA
      have HB0 : Hid (b0 < n3) := Lib.hid hb0
      clear hcl hf hfo hfc hfm hq
      go_wp2_with fail
      refine KT.out.mono ?_
      rintro e w4 ⟨hb4, hP⟩
      have HP := Lib.hid hP
      have HB4 := Lib.hid (HB.out.trans (hb4.mono HB.out.size))
      have HQ4 := Lib.hid (HQ.out.below hb4)
      have HBY4 := Lib.hid (HBY.out.below hb4)
      have HF4 := Lib.hid (HF.out.below hb4 hn3r)
      have hn34 : n3 ≤ w4.heap.size := Nat.le_trans hn3r hb4.size
      have hsz4 : w.heap.size ≤ w4.heap.size := HB4.out.size
      have d0 := (hb4.cell (p := ⟨b0, off + k * 2, none⟩) (Nat.lt_of_lt_of_le hb0 hn3r)).trans c0
      have FIN : Hid (tells (Wal.lastN Q) ((fk, fb) :: (L.map _root_.Go.Proofs.YtaiokogbhfliiaaGreatDoor.Fv.pr).drop (k + 1)) = [] → BtsP w T (.returned (.slice QA k oc)) w4) := Lib.hid (fun he => BtsP.of HQK.out (by rw [HTQ.out, HD.out, he, List.append_nil]) (HQ4.out.mono HW3.out) HBY4.out HB4.out)
      clear hP hb4 KT c0 c1
      rcases hv : Cod.take fb with _ | ⟨z, rest⟩
      · rw [hv] at HP
        obtain rfl := HP.out
        have HV := Lib.hid hv
        clear hv HP
        go_wp2_with fail
        go_ret
        exact FIN.out (tells_none HV.out)
      · rw [hv] at HP
        obtain ⟨RA, rc, rfl, hrc, hrm, hrr⟩ := HP.out
        have hz := (Cod.take_bound hv).1
        have HRL : Hid (rest.length ≤ 140737488355328) := Lib.hid (by have := (Cod.take_bound hv).2; have := HFB.out; omega)
        have HV := Lib.hid hv
        have HRR := Lib.hid hrr
        clear hv HP hrr
        have hstop : Hid ((q ≠ 66 ∨ z < 1 ∨ 1099511627776 < z ∨ ((Wal.lastN Q).any fun y => z != y + 1) = true) → BtsP w T (.returned (.slice QA k oc)) w4) := Lib.hid (fun h => FIN.out (tells_stop HV.out (stop_if HFK.out h)))
        clear FIN
        by_cases h66 : q = 66
        · have e1 : ((q : Int) == 66) = true := by rw [h66]; rfl
          have e2 : ((q : Int) != 66) = false := by rw [h66]; rfl
          have H66 := Lib.hid h66
          clear h66
          by_cases h1 : (z : Int) < 1
          · go_wp2_with fail
            go_ret
            exact hstop.out (.inr (.inl (by omega)))
          · by_cases h2 : (1099511627776 : Int) < (z : Int)
            · go_wp2_with fail
              go_ret
              exact hstop.out (.inr (.inr (.inl (by omega))))
            · have ew : IntKind.i64.wrap (z : Int) = (z : Int) := by rw [IntKind.wrap_i64]; omega
              have HN4 := Lib.hid (own_empty w4)
              by_cases hk0 : 0 < (k : Int)
              · obtain ⟨j, hj⟩ : ∃ j, k = j + 1 := ⟨k - 1, by omega⟩
                have hwj : IntKind.i64.wrap ((k : Int) - 1) = (j : Int) := by rw [IntKind.wrap_i64]; omega
                have hQl : j < Q.length := by rw [HQK.out]; omega
                obtain ⟨qb, qo, hqA, hqb, hqc⟩ := RdS.row (f := Bv.cells) (n := 2) (fun _ => rfl) (by omega) HQ4.out.rd (by omega)
                have q0 := hqc j hQl 0 _ rfl
                have hlast := Wal.lastN_at Q j hQl (by rw [HQK.out]; omega)
                have hyb := HQN.out Q[j] (List.getElem_mem hQl)
                obtain ⟨y, hy⟩ : ∃ y, y = (Q[j]).n := ⟨_, rfl⟩
                rw [← hy] at q0 hlast hyb
                rw [Nat.add_zero] at q0
                have HLA := Lib.hid hlast
                have HJ := Lib.hid hj
                have hyw : IntKind.i64.wrap ((y : Int) + 1) = (y : Int) + 1 := by rw [IntKind.wrap_i64]; omega
                have hjl : j < k := by omega
                subst hqA
                clear hqc hy hlast hQl hj
                by_cases hzy : z = y + 1
                · have f1 : ((z : Int) == (y : Int) + 1) = true := by simp; omega
                  have f2 : ((z : Int) != (y : Int) + 1) = false := by simp; omega
                  have HKZ : Hid (((Wal.lastN Q).any fun y => z != y + 1) = false) := Lib.hid (by rw [HLA.out]; simp; exact hzy)
                  clear hzy
                  go_wp2_with (first
                    | (at_builtin; refine wpList_append_b _ rfl _ _ bt rfl w4.heap.size (some ⟨w4.heap.size, 0, none⟩) 0 [] rfl HN4.out w4.heap.size RA rest.length rc rest rfl rfl (HRR.out.alloc (Nat.le_refl _) _) (by simp only [List.length_nil]; have := HRL.out; omega) (by simp) ?_; intro A5 c5 L5 w5 hl5 ho5 hg5 hat5; have HL5 := Lib.hid hl5; have HO5 := Lib.hid ho5; have HB5 := Lib.hid (((Below.refl _ w4).alloc (Nat.le_refl _) _).grown hg5 (by simp) (fun g e => by injection e with e; exact Nat.le_of_eq e)); have HQ5 := Lib.hid (HQ4.out.below HB5.out); have hs5 : w4.heap.size ≤ w5.heap.size := HB5.out.size; clear hl5 ho5 hg5 hat5)
                    | (at_builtin; refine wpList_append_s _ rfl _ _ rbT rfl n3 (some ⟨qb, qo, none⟩) oc Q (by rw [HQK.out]; rfl) (HQ5.out.alloc _) (w5.heap.size + 1) (some ⟨w5.heap.size, 0, none⟩) 1 1 [(⟨z, A5, c5, L5⟩ : Bv)] rfl rfl (rd_one (fun _ => rfl) w5 (⟨z, A5, c5, L5⟩ : Bv) _) (by rw [HQK.out]; simp; omega) (by rw [HQK.out]; unfold maxLen; simp; omega) (by simp; omega) ?_; intro A8 c8 L8 w8 hl8 ho8 hg8 hat8; have HL8 := Lib.hid hl8; have HO8 := Lib.hid ho8; have HG8 := Lib.hid hg8; clear hl8 ho8 hg8 hat8))
                  have hl5 := HL5.out
                  rw [List.nil_append] at hl5
                  subst hl5
                  have hl8 := HL8.out
                  subst hl8
                  have hvb : Bys w5 w.heap.size (Q ++ [(⟨z, A5, c5, L5⟩ : Bv)]) := (HBY4.out.below HB5.out).snoc ⟨HO5.out.rd, HO5.out.cap, HO5.out.cap_le, fun g hg => ⟨Nat.le_trans hsz4 (HO5.out.blk_ge g hg).1, Sto.ownTag HO5.out hg⟩⟩
                  have hap := tells_app (Q2 := Q ++ [(⟨z, A5, c5, L5⟩ : Bv)]) (n2 := n3) (HQ5.out.mono HW3.out) hvb (HB4.out.trans (HB5.out.mono hsz4)) HG8.out (HF4.out.below HB5.out hn34) (Nat.le_trans hn34 hs5) (fun k e => (HQ5.out.blk_ge k e).1)
                  exact ⟨⟨k + 1, c8, A8, Q ++ [(⟨z, A5, c5, L5⟩ : Bv)], hlt, by simp, by rw [List.length_append, HQK.out]; rfl, Lib.hid (by rw [List.length_append, HQK.out]; rfl), Lib.hid (fun v hv => by
                    rcases List.mem_append.1 hv with hv | hv
                    · exact HQN.out v hv
                    · rw [List.mem_singleton] at hv; rw [hv]; simp only; omega), Lib.hid (by
                    rw [HTQ.out, HD.out, tells_go HV.out (go_if HFK.out H66.out (by omega) (by omega) HKZ.out), Wal.lastN_snoc]
                    simp [Bv.bt]), HO8, Lib.hid hap.1, Lib.hid hap.2.1, Lib.hid hap.2.2, by have := HG8.out.size; simp at this; omega⟩, by simp only [intOf]; omega⟩
                · have f1 : ((z : Int) == (y : Int) + 1) = false := by simp; omega
                  have f2 : ((z : Int) != (y : Int) + 1) = true := by simp; omega
                  have HZY := Lib.hid hzy
                  clear hzy
                  go_wp2_with fail
                  go_ret
                  exact hstop.out (.inr (.inr (.inr (by rw [HLA.out]; simp; exact HZY.out))))
              · have HKZ : Hid (((Wal.lastN Q).any fun y => z != y + 1) = false) := Lib.hid (by
                  have : Q = [] := List.eq_nil_of_length_eq_zero (by rw [HQK.out]; omega)
                  rw [this]; rfl)
                go_wp2_with (first
                  | (at_builtin; refine wpList_append_b _ rfl _ _ bt rfl w4.heap.size (some ⟨w4.heap.size, 0, none⟩) 0 [] rfl HN4.out w4.heap.size RA rest.length rc rest rfl rfl (HRR.out.alloc (Nat.le_refl _) _) (by simp only [List.length_nil]; have := HRL.out; omega) (by simp) ?_; intro A5 c5 L5 w5 hl5 ho5 hg5 hat5; have HL5 := Lib.hid hl5; have HO5 := Lib.hid ho5; have HB5 := Lib.hid (((Below.refl _ w4).alloc (Nat.le_refl _) _).grown hg5 (by simp) (fun g e => by injection e with e; exact Nat.le_of_eq e)); have HQ5 := Lib.hid (HQ4.out.below HB5.out); have hs5 : w4.heap.size ≤ w5.heap.size := HB5.out.size; clear hl5 ho5 hg5 hat5)
                  | (at_builtin; refine wpList_append_s _ rfl _ _ rbT rfl n3 QA oc Q (by rw [HQK.out]; rfl) (HQ5.out.alloc _) (w5.heap.size + 1) (some ⟨w5.heap.size, 0, none⟩) 1 1 [(⟨z, A5, c5, L5⟩ : Bv)] rfl rfl (rd_one (fun _ => rfl) w5 (⟨z, A5, c5, L5⟩ : Bv) _) (by rw [HQK.out]; simp; omega) (by rw [HQK.out]; unfold maxLen; simp; omega) (by simp; omega) ?_; intro A8 c8 L8 w8 hl8 ho8 hg8 hat8; have HL8 := Lib.hid hl8; have HO8 := Lib.hid ho8; have HG8 := Lib.hid hg8; clear hl8 ho8 hg8 hat8))
                have hl5 := HL5.out
                rw [List.nil_append] at hl5
                subst hl5
                have hl8 := HL8.out
                subst hl8
                have hvb : Bys w5 w.heap.size (Q ++ [(⟨z, A5, c5, L5⟩ : Bv)]) := (HBY4.out.below HB5.out).snoc ⟨HO5.out.rd, HO5.out.cap, HO5.out.cap_le, fun g hg => ⟨Nat.le_trans hsz4 (HO5.out.blk_ge g hg).1, Sto.ownTag HO5.out hg⟩⟩
                have hap := tells_app (Q2 := Q ++ [(⟨z, A5, c5, L5⟩ : Bv)]) (n2 := n3) (HQ5.out.mono HW3.out) hvb (HB4.out.trans (HB5.out.mono hsz4)) HG8.out (HF4.out.below HB5.out hn34) (Nat.le_trans hn34 hs5) (fun k e => (HQ5.out.blk_ge k e).1)
                exact ⟨⟨k + 1, c8, A8, Q ++ [(⟨z, A5, c5, L5⟩ : Bv)], hlt, by simp, by rw [List.length_append, HQK.out]; rfl, Lib.hid (by rw [List.length_append, HQK.out]; rfl), Lib.hid (fun v hv => by
                  rcases List.mem_append.1 hv with hv | hv
                  · exact HQN.out v hv
                  · rw [List.mem_singleton] at hv; rw [hv]; simp only; omega), Lib.hid (by
                  rw [HTQ.out, HD.out, tells_go HV.out (go_if HFK.out H66.out (by omega) (by omega) HKZ.out), Wal.lastN_snoc]
                  simp [Bv.bt]), HO8, Lib.hid hap.1, Lib.hid hap.2.1, Lib.hid hap.2.2, by have := HG8.out.size; simp at this; omega⟩, by simp only [intOf]; omega⟩
        · have e1 : ((q : Int) == 66) = false := by simp; omega
          have e2 : ((q : Int) != 66) = true := by simp; omega
          have H66 := Lib.hid h66
          clear h66
          go_wp2_with fail
          go_ret
          exact hstop.out (.inl H66.out)
    · have hke : k = L.length := by omega
      have HTE : Hid (T = Q.map Bv.bt) := Lib.hid (by rw [HTQ.out, hke, List.drop_eq_nil_of_le (by rw [List.length_map]; omega)]; simp [tells])
      go_wp2_with fail
      go_ret
      exact BtsP.of HQK.out HTE.out (HQ.out.mono HW3.out) HBY.out HB.out
end Ref
end Go.Proofs.YtaiokogbhfliiaaGreatDoor

namespace Go.Proofs.YtaiokogbhfliiaaGreatDoor
open Go.RowKit Go.Maps

namespace Ref
theorem there_app {w w4 w8 : World} {oc : Nat} {QA : Option Addr} {Q Q2 : List Wal.Bv} (hQ : OwnS Wal.Bv.cells 2 w4 w.heap.size 99 QA oc Q) (hB : Wal.Bys w4 w.heap.size Q2) (hb : Below w.heap.size w w4) (hg : w4.grownBy w8 (blk QA)) :
    Wal.Bys w8 w.heap.size Q2 ∧ Below w.heap.size w w8 :=
  ⟨hB.grown hg (fun k e _ => Sto.ownTagS hQ e) (by decide), hb.grown hg hb.size (fun g e => (hQ.blk_ge g e).1)⟩
theorem told_len {w : World} {base g : Nat} {s : Sto.St} {m : Mem} (h : StAt w base g s m) (n : Nat) : (Wal.told s n).length ≤ 16777216 := by
  unfold Wal.told
  refine Nat.le_trans (Wal.tells_len _ _) ?_
  refine Nat.le_trans (Wal.scanL_len _ _) (read_len h _)
open Wal in
set_option maxHeartbeats 2000000 in
set_option maxRecDepth 100000 in
theorem there_any {w : World} {base g : Nat} {s : Sto.St} {m : Mem} (h : StAt w base g s m) (hf : s.files.length ≤ 100000) :
    Calls Tryz.prog 48 #[.pointer (some ⟨g, 0, none⟩)] w (BtsP w (Wal.there s)) := by
  have H := Lib.hid h
  have KF := Lib.hid (files_any h (by omega))
  obtain ⟨l, hl⟩ : ∃ l, l = Wal.files s := ⟨_, rfl⟩
  have hll : l.length ≤ 100000 := by
    rw [hl]
    have h1 := filesOf_len (Sto.names s)
    have h2 : (Sto.names s).length ≤ s.files.length := by unfold Sto.names; rw [List.length_map]; exact h.r.ok.gnow.len
    have h3 : filesOf (Sto.names s) = Wal.files s := rfl
    rw [h3] at h1
    omega
  have HN : Hid (∀ n ∈ l, n < 1000000) := Lib.hid (fun n hn => by
    rw [hl] at hn
    unfold Wal.files at hn
    obtain ⟨hn, _⟩ := List.mem_filter.1 hn
    obtain ⟨q, _, rfl⟩ := List.mem_map.1 hn
    exact numbered_bd q)
  have HGT : Hid (Wal.there s = gather s l) := Lib.hid (by rw [hl]; rfl)
  rw [← hl] at KF
  rw [HGT.out]
  clear h hl
  go_enter Tryz.func48, Tryz.ntmps48
  go_wp2_with fail
  refine KF.out.mono ?_
  rintro e w0 ⟨FA, fc, rfl, hfo, hb0⟩
  have HFO := Lib.hid hfo
  have HB0 := Lib.hid hb0
  clear hfo hb0 KF
  go_wp2_with fail
  go_loopw [3, 5] (fun o i wr => ∃ (k oc z : Nat) (QA : Option Addr) (Q : List Bv), k ≤ l.length ∧ i = .int .i64 (k : Int) ∧ o = .slice QA z oc ∧ Hid (Q.length = z) ∧ Hid (z ≤ k * 16777216) ∧ Hid (∀ v ∈ Q, v.n ≤ 1099511627776) ∧ Hid (Q.map Bv.bt = gather s (l.take k)) ∧ Hid (OwnS Bv.cells 2 wr w.heap.size 99 QA oc Q) ∧ Hid (Bys wr w.heap.size Q) ∧ Hid (OwnS N1 1 wr w.heap.size 3 FA fc l) ∧ Hid (Below w.heap.size w wr)) (fun _ i _ => l.length - (intOf i).toNat)
  case atStart => exact ⟨0, 0, 0, none, [], by omega, rfl, rfl, Lib.hid rfl, Lib.hid (Nat.zero_le _), Lib.hid (fun _ h => by cases h), Lib.hid rfl, Lib.hid (OwnS.nil _ _ _), Lib.hid (Bys.nil _ _), HFO, HB0⟩
  case round =>
    obtain ⟨k, oc, z, QA, Q, hk, rfl, rfl, HQK, HZK, HQN, HGA, HQ, HBY, HFR, HB⟩ := hrel
    by_cases hlt : k < l.length
    · obtain ⟨b, off, hA, hb, hc⟩ := RdS.row (f := N1) (n := 1) (fun _ => rfl) (by omega) HFR.out.rd (by omega)
      have c0 := hc k hlt 0 _ rfl
      rw [Nat.add_zero, Nat.mul_one] at c0
      have hnk := HN.out l[k] (List.getElem_mem hlt)
      have HGS : Hid (gather s (l.take (k + 1)) = join (Q.map Bv.bt) (told s l[k])) := Lib.hid (by rw [List.take_succ_eq_append_getElem hlt, gather_snoc, HGA.out])
      obtain ⟨n, hne⟩ : ∃ n, n = l[k] := ⟨_, rfl⟩
      rw [← hne] at c0 hnk HGS
      subst hA
      clear hc hne
      obtain ⟨T, hT⟩ : ∃ T, T = told s n := ⟨_, rfl⟩
      have KT := Lib.hid (tells_any (H.out.below HB.out) (by omega) n hnk T hT)
      have HTB : Hid (∀ x ∈ T, x.1 ≤ 1099511627776) := Lib.hid (fun x hx => (told_bd s n x (hT ▸ hx)).2)
      have hTl : T.length ≤ 16777216 := by rw [hT]; exact told_len H.out n
      rw [← hT] at HGS
      clear hT
      go_wp2_with fail
      refine KT.out.mono ?_
      rintro e w1 ⟨A2, c2, L2, rfl, hL2, hO2, hB2, hb1⟩
      obtain ⟨t, ht⟩ : ∃ t, t = T.length := ⟨_, rfl⟩
      have HL2 : Hid (L2.length = t) := Lib.hid (by rw [ht, ← hL2, List.length_map])
      have HN2 : Hid (∀ v ∈ L2, v.n ≤ 1099511627776) := Lib.hid (fun v hv => HTB.out v.bt (by rw [← hL2]; exact List.mem_map_of_mem hv))
      have HNN : Hid (∀ v ∈ Q ++ L2, v.n ≤ 1099511627776) := Lib.hid (fun v hv => (List.mem_append.1 hv).elim (HQN.out v) (HN2.out v))
      rw [← ht] at hTl ⊢
      have HTL := Lib.hid ht
      have HLT := Lib.hid hL2
      have HO2 := Lib.hid hO2
      have HB2 := Lib.hid hB2
      have HB1 := Lib.hid (HB.out.trans (hb1.mono HB.out.size))
      have HQ1 := Lib.hid (HQ.out.below hb1)
      have HBY1 := Lib.hid (HBY.out.below hb1)
      have HF1 := Lib.hid (HFR.out.below hb1)
      have hsz1 := HB1.out.size
      have hsz0 := HB.out.size
      clear ht hL2 hO2 hB2 hb1 KT
      have HZ1 : Hid (z ≤ (k + 1) * 16777216) := Lib.hid (zb_step (t := 0) HZK.out (Nat.zero_le _))
      have HZT : Hid (z + t ≤ (k + 1) * 16777216) := Lib.hid (zb_step HZK.out hTl)
      have HZ0 : Hid (0 + t ≤ (k + 1) * 16777216) := Lib.hid (zb_step (Nat.zero_le _) hTl)
      have hzm := zb_max HZK.out hk hll
      have HF8 : Hid (∀ (w8 : World) (q : Option Nat), w1.grownBy w8 q → (∀ g, q = some g → g < w1.heap.size → Sto.Tag w1 g 99) → OwnS N1 1 w8 w.heap.size 3 (some ⟨b, off, none⟩) fc l) := Lib.hid (fun w8 q hg hq => HF1.out.keep (fun g e => by
        have t1 := Sto.ownTagS HF1.out e
        exact hg.block g t1.lt (fun e2 => (hq g e2.symm t1.lt).ne t1 (by decide) rfl)))
      by_cases ht0 : t = 0
      · have e1 : ((t : Int) == 0) = true := by rw [ht0]; rfl
        have HTN : Hid (T = []) := Lib.hid (List.eq_nil_of_length_eq_zero (by rw [← HTL.out, ht0]))
        have HT0 := Lib.hid ht0
        clear ht0
        go_wp2_with fail
        exact ⟨⟨k + 1, oc, z, QA, Q, hlt, by simp, rfl, HQK, HZ1, HQN, Lib.hid (by rw [HGS.out, HTN.out, join_nil]), HQ1, HBY1, HF1, HB1⟩, by simp only [intOf]; omega⟩
      · have e1 : ((t : Int) == 0) = false := by simp; omega
        have ht1 : 0 < t := by omega
        clear ht0
        by_cases hz0 : 0 < z
        · obtain ⟨j, hj⟩ : ∃ j, z = j + 1 := ⟨z - 1, by omega⟩
          have hwj : IntKind.i64.wrap ((z : Int) - 1) = (j : Int) := by rw [IntKind.wrap_i64]; omega
          have hQl : j < Q.length := by rw [HQK.out]; omega
          obtain ⟨qb, qo, hqA, hqb, hqc⟩ := RdS.row (f := Bv.cells) (n := 2) (fun _ => rfl) (by omega) HQ1.out.rd (by omega)
          have q0 := hqc j hQl 0 _ rfl
          have hL1 : 0 < L2.length := by rw [HL2.out]; exact ht1
          obtain ⟨pb, po, hpA, hpb, hpc⟩ := RdS.row (f := Bv.cells) (n := 2) (fun _ => rfl) (by omega) HO2.out.rd hL1
          have p0 := hpc 0 hL1 0 _ rfl
          have hla := last_bt j hQl (by rw [HQK.out]; omega)
          have hhe := head_bt hL1
          have hyb := HQN.out Q[j] (List.getElem_mem hQl)
          have hxb := HN2.out L2[0] (List.getElem_mem hL1)
          obtain ⟨y, hy⟩ : ∃ y, y = (Q[j]).n := ⟨_, rfl⟩
          obtain ⟨x, hx⟩ : ∃ x, x = (L2[0]).n := ⟨_, rfl⟩
          rw [← hy] at q0 hyb
          rw [← hx] at p0 hxb
          rw [Nat.add_zero] at q0
          rw [Nat.zero_mul, Nat.add_zero] at p0
          have HLA : Hid (∃ b, (Q.map Bv.bt).getLast? = some (y, b)) := Lib.hid ⟨_, by rw [hla, hy]; rfl⟩
          have HHE : Hid (∃ b, (L2.map Bv.bt).head? = some (x, b)) := Lib.hid ⟨_, by rw [hhe, hx]; rfl⟩
          have hyw : IntKind.i64.wrap ((y : Int) + 1) = (y : Int) + 1 := by rw [IntKind.wrap_i64]; omega
          have hjl : (j : Int) < (z : Int) := by omega
          have hz1 : decide ((0 : Int) < (z : Int)) = true := decide_eq_true (by omega)
          have hz2 : (0 : Int) < (z : Int) := by omega
          have ht2 : (0 : Int) < (t : Int) := by omega
          subst hqA hpA
          rw [← HLT.out] at HGS
          have hqbl : qb < w1.heap.size := hqb
          have hpbl : pb < w1.heap.size := hpb
          clear hqc hpc hy hx hla hhe hQl hL1 hj hqb hpb
          obtain ⟨yb, hyb2⟩ := HLA.out
          obtain ⟨xb, hxb2⟩ := HHE.out
          have HL9 := Lib.hid hyb2
          have HH9 := Lib.hid hxb2
          clear hyb2 hxb2
          by_cases h1 : (x : Int) ≤ (y : Int)
          · go_wp2_with fail
            go_quiet (fail)
            refine Sto.drewN_of (fun X hbX hXh => ?_)
            have HQX := Lib.hid (HQ1.out.below hbX)
            have HBX := Lib.hid (HBY1.out.below hbX)
            have HFX := Lib.hid (HF1.out.below hbX)
            have HB1X := Lib.hid (HB1.out.trans (hbX.mono hsz1))
            clear hbX hXh
            go_wp2_with fail
            exact ⟨⟨k + 1, oc, z, _, Q, hlt, by simp, rfl, HQK, HZ1, HQN, Lib.hid (by rw [HGS.out, join_old HH9.out HL9.out (by simp only; omega)]), HQX, HBX, HFX, HB1X⟩, by simp only [intOf]; omega⟩
          · have h1' : decide ((x : Int) ≤ (y : Int)) = false := decide_eq_false h1
            by_cases h2 : x = y + 1
            · have f1 : ((x : Int) == (y : Int) + 1) = true := by simp; omega
              have f2 : ((x : Int) != (y : Int) + 1) = false := by simp; omega
              have H2 := Lib.hid h2
              clear h2
              go_wp2_with fail
              go_quiet (fail)
              refine Sto.drewN_of (fun X hbX hXh => ?_)
              have q0X := (hbX.cell (p := ⟨qb, qo + j * 2, none⟩) hqbl).trans q0
              have p0X := (hbX.cell (p := ⟨pb, po, none⟩) hpbl).trans p0
              have HBX := Lib.hid hbX
              clear hbX hXh q0 p0
              go_wp2_with fail
              go_quiet (fail)
              refine Sto.drewN_of (fun Y hbY hYh => ?_)
              have HYB : Hid (Below w1.heap.size w1 Y) := Lib.hid (HBX.out.trans (hbY.mono HBX.out.size))
              have HQY := Lib.hid (HQ1.out.below HYB.out)
              have HBYY := Lib.hid (HBY1.out.below HYB.out)
              have HO2Y := Lib.hid (HO2.out.below HYB.out)
              have HB2Y := Lib.hid (HB2.out.below HYB.out)
              have HFY := Lib.hid (HF1.out.below HYB.out)
              have HB1Y := Lib.hid (HB1.out.trans (HYB.out.mono hsz1))
              have hszY : w.heap.size ≤ Y.heap.size := HB1Y.out.size
              clear hbY hYh
              go_wp2_with (at_builtin; refine wpList_append_s _ rfl _ _ rbT rfl w.heap.size (some ⟨qb, qo, none⟩) oc Q (by rw [HQK.out]; rfl) HQY.out Y.heap.size (some ⟨pb, po, none⟩) t c2 L2 (by rfl) HL2.out.symm HO2Y.out.rd (by rw [HQK.out, HL2.out]; omega) (by rw [HQK.out, HL2.out]; unfold maxLen; omega) hszY ?_; intro A3 c3 L3 w8 hl3 ho3 hg3 hat3)
              have hl3 : L3 = Q ++ L2 := hl3
              subst hl3
              have HAP := Lib.hid (there_app HQY.out (HBYY.out.app (HB2Y.out.mono hsz0)) HB1Y.out hg3)
              have HF8' := Lib.hid (HFY.out.keep (fun g e => hg3.block g (Sto.ownTagS HFY.out e).lt (fun e2 => (Sto.ownTagS HQY.out e2.symm).ne (Sto.ownTagS HFY.out e) (by decide) rfl)))
              exact ⟨⟨k + 1, c3, z + t, A3, Q ++ L2, hlt, by simp, by first | rw [HQK.out, HL2.out] | rw [List.length_append, HQK.out, HL2.out], Lib.hid (by rw [List.length_append, HQK.out, HL2.out]), HZT, HNN, Lib.hid (by rw [HGS.out, List.map_append]; exact (join_next HH9.out HL9.out (by simp only; omega) (by simp only; have := H2.out; omega)).symm), Lib.hid ho3, Lib.hid HAP.out.1, HF8', Lib.hid HAP.out.2⟩, by simp only [intOf]; omega⟩
            · have f1 : ((x : Int) == (y : Int) + 1) = false := by simp; omega
              have f2 : ((x : Int) != (y : Int) + 1) = true := by simp; omega
              have H2 := Lib.hid h2
              clear h2
              go_wp2_with fail
              go_quiet (fail)
              refine Sto.drewN_of (fun X hbX hXh => ?_)
              have q0X := (hbX.cell (p := ⟨qb, qo + j * 2, none⟩) hqbl).trans q0
              have p0X := (hbX.cell (p := ⟨pb, po, none⟩) hpbl).trans p0
              have HBX := Lib.hid hbX
              clear hbX hXh q0 p0
              go_wp2_with fail
              go_quiet (fail)
              refine Sto.drewN_of (fun Y hbY hYh => ?_)
              have HYB : Hid (Below w1.heap.size w1 Y) := Lib.hid (HBX.out.trans (hbY.mono HBX.out.size))
              have HQY := Lib.hid (HQ1.out.below HYB.out)
              have HBYY := Lib.hid (HBY1.out.below HYB.out)
              have HO2Y := Lib.hid (HO2.out.below HYB.out)
              have HB2Y := Lib.hid (HB2.out.below HYB.out)
              have HFY := Lib.hid (HF1.out.below HYB.out)
              have HB1Y := Lib.hid (HB1.out.trans (HYB.out.mono hsz1))
              have hszY : w.heap.size ≤ Y.heap.size := HB1Y.out.size
              clear hbY hYh
              go_wp2_with (at_builtin; refine wpList_append_s _ rfl _ _ rbT rfl w.heap.size none 0 ([] : List Bv) (by rfl) (OwnS.nil _ _ _) Y.heap.size (some ⟨pb, po, none⟩) t c2 L2 (by rfl) HL2.out.symm HO2Y.out.rd (by rw [List.length_nil, HL2.out]; omega) (by rw [List.length_nil, HL2.out]; unfold maxLen; omega) hszY ?_; intro A3 c3 L3 w8 hl3 ho3 hg3 hat3)
              have hl3 : L3 = ([] : List Bv) ++ L2 := hl3
              subst hl3
              have HAP := Lib.hid (there_app (OwnS.nil _ _ _) (HB2Y.out.mono hsz0) HB1Y.out hg3)
              have HF8' := Lib.hid (HFY.out.keep (fun g e => hg3.block g (Sto.ownTagS HFY.out e).lt (fun e2 => absurd e2 (by simp [blk]))))
              exact ⟨⟨k + 1, c3, 0 + t, A3, ([] : List Bv) ++ L3, hlt, by simp, by first | rw [HL2.out, Nat.zero_add] | simp [HL2.out], Lib.hid (by rw [List.length_append, List.length_nil, HL2.out]), HZ0, HN2, Lib.hid (by rw [HGS.out, List.map_append, List.map_nil, List.nil_append]; exact (join_far HH9.out HL9.out (by simp only; omega) (by simp only; have := H2.out; omega)).symm), Lib.hid ho3, Lib.hid HAP.out.1, HF8', Lib.hid HAP.out.2⟩, by simp only [intOf]; omega⟩
        · have hz1 : decide ((0 : Int) < (z : Int)) = false := decide_eq_false (by omega)
          have hz2 : ¬ (0 : Int) < (z : Int) := by omega
          have HQE : Hid (Q = []) := Lib.hid (List.eq_nil_of_length_eq_zero (by rw [HQK.out]; omega))
          have HTE : Hid (T ≠ []) := Lib.hid (fun e => by have := HTL.out; rw [e] at this; simp at this; omega)
          go_wp2_with fail
          go_quiet (fail)
          refine Sto.drewN_of (fun X hbX hXh => ?_)
          have HBX := Lib.hid hbX
          clear hbX hXh
          go_wp2_with fail
          go_quiet (fail)
          refine Sto.drewN_of (fun Y hbY hYh => ?_)
          have HYB : Hid (Below w1.heap.size w1 Y) := Lib.hid (HBX.out.trans (hbY.mono HBX.out.size))
          have HQY := Lib.hid (HQ1.out.below HYB.out)
          have HBYY := Lib.hid (HBY1.out.below HYB.out)
          have HO2Y := Lib.hid (HO2.out.below HYB.out)
          have HB2Y := Lib.hid (HB2.out.below HYB.out)
          have HFY := Lib.hid (HF1.out.below HYB.out)
          have HB1Y := Lib.hid (HB1.out.trans (HYB.out.mono hsz1))
          have hszY : w.heap.size ≤ Y.heap.size := HB1Y.out.size
          clear hbY hYh
          go_wp2_with (at_builtin; refine wpList_append_s _ rfl _ _ rbT rfl w.heap.size QA oc Q (by rw [HQK.out]; rfl) HQY.out Y.heap.size A2 t c2 L2 (by rfl) HL2.out.symm HO2Y.out.rd (by rw [HQK.out, HL2.out]; omega) (by rw [HQK.out, HL2.out]; unfold maxLen; omega) hszY ?_; intro A3 c3 L3 w8 hl3 ho3 hg3 hat3)
          have hl3 : L3 = Q ++ L2 := hl3
          subst hl3
          have HAP := Lib.hid (there_app HQY.out (HBYY.out.app (HB2Y.out.mono hsz0)) HB1Y.out hg3)
          have HF8' := Lib.hid (HFY.out.keep (fun g e => hg3.block g (Sto.ownTagS HFY.out e).lt (fun e2 => (Sto.ownTagS HQY.out e2.symm).ne (Sto.ownTagS HFY.out e) (by decide) rfl)))
          exact ⟨⟨k + 1, c3, z + t, A3, Q ++ L2, hlt, by simp, by first | rw [HQK.out, HL2.out] | rw [List.length_append, HQK.out, HL2.out], Lib.hid (by rw [List.length_append, HQK.out, HL2.out]), HZT, HNN, Lib.hid (by rw [HGS.out, List.map_append, HLT.out]; rw [HQE.out, List.map_nil, List.nil_append]; exact (join_first HTE.out).symm), Lib.hid ho3, Lib.hid HAP.out.1, HF8', Lib.hid HAP.out.2⟩, by simp only [intOf]; omega⟩
    · have hke : k = l.length := by omega
      have HGE : Hid (gather s l = Q.map Bv.bt) := Lib.hid (by rw [HGA.out, hke, List.take_length])
      go_wp2_with fail
      go_ret
      exact BtsP.of HQK.out HGE.out HQ.out HBY.out HB.out
end Ref
end Go.Proofs.YtaiokogbhfliiaaGreatDoor

namespace Go.Proofs.YtaiokogbhfliiaaGreatDoor
open Go.RowKit Go.Maps

namespace Ref
structure Lm where
  lb : Nat
  WA : Option Addr
  wc : Nat
  W : List Wal.Bv
def lgObj (g : Nat) (l : Wal.Lg) (x : Lm) : Obj := .cells #[.pointer (some ⟨g, 0, none⟩), .int .i64 (l.limit : Int), .int .i64 (l.last : Int), .int .i64 (l.next : Int), .slice x.WA l.waiting.length x.wc, .bool l.broken] 95
structure LS (w : World) (base g : Nat) (s : Sto.St) (m : Mem) (l : Wal.Lg) (x : Lm) : Prop where
  st : StAt w base g s m
  box : w.heap[x.lb]? = some (lgObj g l x)
  lbb : base ≤ x.lb
  wrow : OwnS Wal.Bv.cells 2 w base 99 x.WA x.wc x.W
  wbt : x.W.map Wal.Bv.bt = l.waiting
  wby : ∀ v ∈ x.W, Rby w base v.A v.b
  ok : Wal.LgOk l
abbrev turnsM : List TypeId := turns ++ [95]
abbrev turnsL : List TypeId := turnsM ++ [99]
def LRow (m : Mem) (x : Lm) (k : Nat) : Prop := Row m k ∨ ∃ v ∈ x.W, blk v.A = some k
section
variable {w w' : World} {base g : Nat} {s s' : Sto.St} {m m' : Mem} {l l' : Wal.Lg} {x : Lm}
theorem LS.tag (h : LS w base g s m l x) : Sto.Tag w x.lb 95 := ⟨_, _, h.box⟩
theorem LS.store {R R' : Nat → Prop} (h : LS w base g s m l x) (hst : StAt w' base g s' m') (ha : Aft turns w w' base R R') : LS w' base g s' m' l x :=
  ⟨hst, (ha.tag h.tag (by decide)).trans h.box, h.lbb, h.wrow.keep (fun k e => ha.tag (Sto.ownTagS h.wrow e) (by decide)), h.wbt, fun v hv => (h.wby v hv).aft ha (by decide), h.ok⟩
theorem LS.below (h : LS w base g s m l x) (hb : Below w.heap.size w w') : LS w' base g s m l x := h.store (h.st.below hb) (Aft.of_below hb (fun _ => False))
theorem laft (ha : Aft turns w w' base (Row m) (Row m')) : Aft turnsM w w' base (LRow m x) (LRow m' x) :=
  (ha.more (fun _ hT => List.mem_append_left _ hT)).rows (fun k hk h => h.imp (ha.row k hk) id)
theorem LS.cells (h : LS w base g s m l x) : w.cell? ⟨x.lb, 0, none⟩ = some (.pointer (some ⟨g, 0, none⟩)) ∧ w.cell? ⟨x.lb, 1, none⟩ = some (.int .i64 (l.limit : Int)) ∧ w.cell? ⟨x.lb, 2, none⟩ = some (.int .i64 (l.last : Int)) ∧ w.cell? ⟨x.lb, 3, none⟩ = some (.int .i64 (l.next : Int)) ∧ w.cell? ⟨x.lb, 4, none⟩ = some (.slice x.WA l.waiting.length x.wc) ∧ w.cell? ⟨x.lb, 5, none⟩ = some (.bool l.broken) := by
  have hb := h.box
  unfold lgObj at hb
  refine ⟨?_, ?_, ?_, ?_, ?_, ?_⟩
  all_goals (rw [cell_of_row w x.lb _ _ _ (0, 0) hb]; rfl)
theorem LS.frozen (h : LS w base g s m l x) (j : Nat) : w.frozen? ⟨x.lb, j, none⟩ = false := frozen_of_row w x.lb j _ _ h.box
/-- The log's own block is turned, what waits stays. -/
theorem LS.turn (h : LS w base g s m l x) (j : Nat) (v : Value) (hb : (w.setCell ⟨x.lb, j, none⟩ v).heap[x.lb]? = some (lgObj g l' x)) (hw : l'.waiting = l.waiting) (hok : Wal.LgOk l') :
    LS (w.setCell ⟨x.lb, j, none⟩ v) base g s m l' x ∧ Aft turnsM w (w.setCell ⟨x.lb, j, none⟩ v) base (LRow m x) (LRow m x) := by
  have hne : ∀ k T, Sto.Tag w k T → T ≠ 95 → (w.setCell ⟨x.lb, j, none⟩ v).heap[k]? = w.heap[k]? := fun k T t hT => heap_setCell_other w ⟨x.lb, j, none⟩ k v (t.ne h.tag hT)
  refine ⟨⟨⟨(hne g _ h.st.gt (by decide)).trans h.st.box, h.st.r.keep (by simp) (fun k T t _ hT _ => hne k T t (fun e => by rw [e] at hT; revert hT; decide))⟩, hb, h.lbb, h.wrow.keep (fun k e => hne k _ (Sto.ownTagS h.wrow e) (by decide)), h.wbt.trans hw.symm, fun u hu => (h.wby u hu).keep (by simp) (fun k e => hne k _ ((h.wby u hu).at_ k e).2 (by decide)), hok⟩, ?_⟩
  exact Aft.grown (row := some x.lb) (Sto.grownBy_setS w ⟨x.lb, j, none⟩ v) (fun k e _ => by injection e with e; subst e; exact ⟨h.lbb, _, by decide, h.tag⟩) _
theorem heap_set6 {G : Nat} {x0 x1 x2 x3 x4 x5 : Value} {T : TypeId} (h : w.heap[G]? = some (.cells #[x0, x1, x2, x3, x4, x5] T)) (v : Value) :
    (w.setCell ⟨G, 2, none⟩ v).heap[G]? = some (.cells #[x0, x1, v, x3, x4, x5] T) ∧ (w.setCell ⟨G, 3, none⟩ v).heap[G]? = some (.cells #[x0, x1, x2, v, x4, x5] T) ∧ (w.setCell ⟨G, 4, none⟩ v).heap[G]? = some (.cells #[x0, x1, x2, x3, v, x5] T) ∧ (w.setCell ⟨G, 5, none⟩ v).heap[G]? = some (.cells #[x0, x1, x2, x3, x4, v] T) := by
  refine ⟨?_, ?_, ?_, ?_⟩
  · have := heap_setCell_same w G 2 _ T v h; simpa using this
  · have := heap_setCell_same w G 3 _ T v h; simpa using this
  · have := heap_setCell_same w G 4 _ T v h; simpa using this
  · have := heap_setCell_same w G 5 _ T v h; simpa using this
set_option maxHeartbeats 1000000 in
set_option maxRecDepth 100000 in
theorem next_any (h : LS w base g s m l x) : Calls Tryz.prog 20 #[.pointer (some ⟨x.lb, 0, none⟩)] w fun e w' => e = .returned (.int .i64 (Wal.next l : Int)) ∧ w' = w := by
  obtain ⟨_, _, _, c3, _, c5⟩ := h.cells
  have HE : Hid (Wal.next l = if l.broken = true then 0 else l.next) := Lib.hid rfl
  obtain ⟨o, ho⟩ : ∃ o, o = l.broken := ⟨_, rfl⟩
  obtain ⟨lb, hlb⟩ : ∃ lb, lb = x.lb := ⟨_, rfl⟩
  rw [← ho] at c5 HE
  rw [← hlb] at c3 c5 ⊢
  clear h ho hlb
  go_enter Tryz.func20, Tryz.ntmps20
  rcases o with _ | _
  · go_wp2_with fail
    go_ret
    rw [HE.out]
    exact ⟨rfl, rfl⟩
  · go_wp2_with fail
    go_ret
    rw [HE.out]
    exact ⟨rfl, rfl⟩
set_option maxHeartbeats 1000000 in
set_option maxRecDepth 100000 in
theorem waits_any (h : LS w base g s m l x) : Calls Tryz.prog 36 #[.pointer (some ⟨x.lb, 0, none⟩)] w fun e w' => e = .returned (.int .i64 (Wal.waits l : Int)) ∧ w' = w := by
  obtain ⟨_, _, _, _, c4, c5⟩ := h.cells
  have HE : Hid (Wal.waits l = if l.broken = true then 0 else l.waiting.length) := Lib.hid rfl
  obtain ⟨o, ho⟩ : ∃ o, o = l.broken := ⟨_, rfl⟩
  obtain ⟨lb, hlb⟩ : ∃ lb, lb = x.lb := ⟨_, rfl⟩
  rw [← ho] at c5 HE
  rw [← hlb] at c4 c5 ⊢
  clear h ho hlb
  go_enter Tryz.func36, Tryz.ntmps36
  rcases o with _ | _
  · go_wp2_with fail
    go_ret
    rw [HE.out]
    exact ⟨rfl, rfl⟩
  · go_wp2_with fail
    go_ret
    rw [HE.out]
    exact ⟨rfl, rfl⟩
theorem name_len (n : Nat) : (Wal.name n).length ≤ 9000000000000000 := by unfold Wal.name; simp [Dig.digW_length]
/-- What an operation of the log comes to. -/
def LOp (w : World) (base g : Nat) (m : Mem) (x : Lm) (r : Int × Sto.St × Wal.Lg) (e : Ending) (w' : World) : Prop := e = .returned (.int .i64 r.1) ∧ ∃ m', LS w' base g r.2.1 m' r.2.2 x ∧ Aft turnsM w w' base (LRow m x) (LRow m' x)
def PtrS (lb j : Nat) (v0 v2 : Value) (W : World) : Prop := W.cell? ⟨lb, 0, none⟩ = some v0 ∧ W.cell? ⟨lb, j, none⟩ = some v2
theorem kept_create (s : Sto.St) (n : Sto.Str) : (Sto.create s n).2.files.length ≤ s.files.length + 1 ∧ (Sto.create s n).2.kept.length ≤ s.kept.length + 1 := by
  obtain ⟨h1, h2, _⟩ := meet_files s [n]
  unfold Sto.create
  simp only
  split
  · rw [h1, h2]; omega
  · split
    · rw [h1, h2]; omega
    · unfold Sto.change
      simp only [List.length_append, h1, h2, List.length_cons, List.length_nil]
      omega
set_option maxHeartbeats 2000000 in
set_option maxRecDepth 100000 in
theorem make_any (h : LS w base g s m l x) (hf : s.files.length ≤ 800000) (hk : s.kept.length ≤ 900000) :
    Calls Tryz.prog 50 #[.pointer (some ⟨x.lb, 0, none⟩)] w (LOp w base g m x (Wal.mk s l)) := by
  have H := Lib.hid h
  obtain ⟨c0, _, c2, _, _, _⟩ := h.cells
  obtain ⟨lb, hlb⟩ : ∃ lb, lb = x.lb := ⟨_, rfl⟩
  rw [← hlb] at c0 c2 ⊢
  have HLB := Lib.hid hlb
  obtain ⟨z, hz⟩ : ∃ z, z = l.last := ⟨_, rfl⟩
  rw [← hz] at c2
  have HZ := Lib.hid hz
  have hzb : z ≤ 999999 := by rw [hz]; exact h.ok.last
  have hlz : lb < w.heap.size := by rw [hlb]; exact h.tag.lt
  clear h hlb hz
  go_enter Tryz.func50, Tryz.ntmps50
  by_cases hmax : (999999 : Int) ≤ (z : Int)
  · have HE : Hid (Wal.mk s l = (2, s, l)) := Lib.hid (by unfold Wal.mk; rw [if_pos (by rw [← HZ.out]; omega)])
    go_wp2_with fail
    go_ret
    rw [HE.out]
    exact ⟨rfl, m, H.out, Aft.refl _ _ _⟩
  · obtain ⟨N, hN⟩ : ∃ N, N = Wal.name (z + 1) := ⟨_, rfl⟩
    have KN := Lib.hid (fun V => name_any (z + 1) (by omega) V N hN)
    have HN := Lib.hid hN
    have hNl : N.length ≤ 9000000000000000 := by rw [hN]; exact name_len _
    clear hN
    go_wp2_with fail
    obtain ⟨V, hV⟩ : ∃ V, w.drew = V := ⟨_, rfl⟩
    have hbV : Below w.heap.size w V := by rw [← hV]; exact (Below.refl _ _).drew
    have HBV := Lib.hid hbV
    have HS0 : PtrS lb 2 (.pointer (some ⟨g, 0, none⟩)) (.int .i64 (z : Int)) V := ⟨(hbV.cell (p := ⟨lb, 0, none⟩) hlz).trans c0, (hbV.cell (p := ⟨lb, 2, none⟩) hlz).trans c2⟩
    have ew : IntKind.i64.wrap ((z : Int) + 1) = ((z + 1 : Nat) : Int) := by rw [IntKind.wrap_i64]; omega
    refine wp_region_E 11 (PtrS lb 2 (.pointer (some ⟨g, 0, none⟩)) (.int .i64 (z : Int))) (by kernel_rfl) ?_
    rw [hV]
    clear hV hbV c0 c2
    refine wpAnyE_take (i := 0) (v := ?_) rfl (by kernel_rfl) (by kernel_rfl) (by kernel_rfl) (by kernel_rfl) (fun _ _ _ h => h) (Or.inl ⟨by rfl, ?_⟩) HS0 ?_
    rotate_left
    · (intro wy hSw; obtain ⟨q0, q2⟩ := hSw; go_simp; try with_reducible rfl)
    try simp only [Act.put, List.setIfInBounds_toArray]
    refine wpAnyE_take (i := 1) (v := ?_) rfl (by kernel_rfl) (by kernel_rfl) (by kernel_rfl) (by kernel_rfl) (fun _ _ _ h => h) (Or.inl ⟨by rfl, ?_⟩) HS0 ?_
    rotate_left
    · (intro wy hSw; obtain ⟨q0, q2⟩ := hSw; go_simp; try with_reducible rfl)
    try simp only [Act.put]
    refine wpAnyE_take (i := 2) (v := ?_) rfl (by kernel_rfl) (by kernel_rfl) (by kernel_rfl) (by kernel_rfl) (fun _ _ _ h => h) (Or.inl ⟨by rfl, ?_⟩) HS0 ?_
    rotate_left
    · (intro wy hSw; obtain ⟨q0, q2⟩ := hSw; go_simp; try with_reducible rfl)
    try simp only [Act.put]
    refine wpAnyE_take (i := 3) (v := ?_) rfl (by kernel_rfl) (by kernel_rfl) (by kernel_rfl) (by kernel_rfl) (fun _ _ _ h => h) (Or.inl ⟨by rfl, ?_⟩) HS0 ?_
    rotate_left
    · (intro wy hSw; obtain ⟨q0, q2⟩ := hSw; go_simp; try with_reducible rfl)
    try simp only [Act.put]
    refine wpAnyE_take (i := 4) (v := ?_) rfl (by kernel_rfl) (by kernel_rfl) (by kernel_rfl) (by kernel_rfl) (fun _ _ _ h => h) (Or.inl ⟨by rfl, ?_⟩) HS0 ?_
    rotate_left
    · (intro wy hSw; obtain ⟨q0, q2⟩ := hSw; go_simp; try with_reducible rfl)
    try simp only [Act.put]
    refine wpAnyE_take (i := 5) (v := ?_) rfl (by kernel_rfl) (by kernel_rfl) (by kernel_rfl) (by kernel_rfl) (fun _ _ _ h => h) (Or.inl ⟨by rfl, ?_⟩) HS0 ?_
    rotate_left
    · (intro wy hSw; obtain ⟨q0, q2⟩ := hSw; go_simp; try with_reducible rfl)
    try simp only [Act.put]
    refine wpAnyE_take (i := 6) (v := ?_) rfl (by kernel_rfl) (by kernel_rfl) (by kernel_rfl) (by kernel_rfl) (fun _ _ _ h => h) (Or.inl ⟨by rfl, ?_⟩) HS0 ?_
    rotate_left
    · (intro wy hSw; obtain ⟨q0, q2⟩ := hSw; go_simp; try with_reducible rfl)
    try simp only [Act.put]
    refine wpAnyE_take (i := 7) (v := ?_) rfl (by kernel_rfl) (by kernel_rfl) (by kernel_rfl) (by kernel_rfl) (fun _ _ _ h => h) (Or.inl ⟨by rfl, ?_⟩) HS0 ?_
    rotate_left
    · (intro wy hSw; obtain ⟨q0, q2⟩ := hSw; go_simp; try with_reducible rfl)
    try simp only [Act.put]
    refine wpAnyE_take (i := 8) (v := ?_) rfl (by kernel_rfl) (by kernel_rfl) (by kernel_rfl) (by kernel_rfl) (fun _ _ _ h => h) (Or.inl ⟨by rfl, ?_⟩) HS0 ?_
    rotate_left
    · (intro wy hSw; obtain ⟨q0, q2⟩ := hSw; go_simp; try with_reducible rfl)
    try simp only [Act.put]
    refine wpAnyE_one (i := 9) (by kernel_rfl) rfl (fun K hK => ?_)
    go_simp
    refine (KN.out V).mono ?_
    rintro e w1 ⟨rfl, hb1⟩
    have HB1 := Lib.hid (HBV.out.trans (hb1.mono HBV.out.size))
    have HS1 : PtrS lb 2 (.pointer (some ⟨g, 0, none⟩)) (.int .i64 (z : Int)) w1 := ⟨(hb1.cell (p := ⟨lb, 0, none⟩) (Nat.lt_of_lt_of_le hlz HBV.out.size)).trans HS0.1, (hb1.cell (p := ⟨lb, 2, none⟩) (Nat.lt_of_lt_of_le hlz HBV.out.size)).trans HS0.2⟩
    have HL1 := Lib.hid (H.out.below HB1.out)
    have KC := Lib.hid (create_any N hNl HL1.out.st (by omega) (by omega))
    unfold Sto.str at KC
    refine hK _ _ HS1 ?_
    clear hK K HS0 hb1 KN
    try simp only [Act.put]
    refine wpAnyE_one (i := 10) (by kernel_rfl) rfl (fun K hK => ?_)
    go_simp
    refine KC.out.mono ?_
    rintro e w2 ⟨rfl, m2, hst2, haf2⟩
    have HL2 := Lib.hid (HL1.out.store hst2 haf2)
    have HA2 : Hid (Aft turnsM w w2 base (LRow m x) (LRow m2 x)) := Lib.hid ((Aft.of_below HB1.out _).trans (laft haf2))
    have HS2 : PtrS lb 2 (.pointer (some ⟨g, 0, none⟩)) (.int .i64 (z : Int)) w2 := by
      obtain ⟨k0, _, k2, _, _, _⟩ := HL2.out.cells
      rw [← HLB.out] at k0 k2
      rw [← HZ.out] at k2
      exact ⟨k0, k2⟩
    have hkc := kept_create s N
    obtain ⟨a, ha⟩ : ∃ a, a = Sto.create s N := ⟨_, rfl⟩
    have HA := Lib.hid ha
    rw [← ha] at HL2 hkc
    rw [← ha]
    refine hK _ _ HS2 ?_
    clear hK K HS1 hst2 haf2 KC ha
    try simp only [Act.put]
    refine wpAnyE_last (by kernel_rfl) (by kernel_rfl) rfl (fun K hK => ?_)
    go_simp
    refine hK _ _ ?_
    clear hK K
    obtain ⟨z0, z2⟩ := HS2
    obtain ⟨a0, s2⟩ := a
    by_cases ha0 : a0 = 0
    · subst ha0
      have KD := Lib.hid (syncDir_any HL2.out.st (by simp only at hkc ⊢; omega))
      simp only at KD
      go_wp2_with fail
      refine KD.out.mono ?_
      rintro e w3 ⟨rfl, m3, hst3, haf3⟩
      have HL3 := Lib.hid (HL2.out.store hst3 haf3)
      have HA3 : Hid (Aft turnsM w w3 base (LRow m x) (LRow m3 x)) := Lib.hid (HA2.out.trans (laft haf3))
      obtain ⟨b, hb⟩ : ∃ b, b = Sto.syncDir s2 := ⟨_, rfl⟩
      have HBB := Lib.hid hb
      rw [← hb] at HL3 ⊢
      obtain ⟨_, _, k2, _, _, _⟩ := HL3.out.cells
      have fz := HL3.out.frozen 2
      rw [← HLB.out] at k2 fz
      rw [← HZ.out] at k2
      clear hst3 haf3 KD hb z0 z2
      obtain ⟨b0, s3⟩ := b
      by_cases hb0 : b0 = 0
      · subst hb0
        have HE : Hid (Wal.mk s l = (0, s3, { l with last := l.last + 1, size := 0 })) := Lib.hid (by
          unfold Wal.mk
          rw [if_neg (by rw [← HZ.out]; omega), ← HZ.out, ← HN.out, ← HA.out]
          simp only [ne_eq, not_true_eq_false, if_false]
          rw [← HBB.out]; rfl)
        have hok := HL3.out.ok
        have HT := Lib.hid (HL3.out.turn (l' := { l with last := l.last + 1, size := 0 }) 2 (.int .i64 ((z + 1 : Nat) : Int)) (by
          have h9 := HL3.out.box
          unfold lgObj at h9 ⊢
          have h10 := (heap_set6 h9 (.int .i64 ((z + 1 : Nat) : Int))).1
          rw [HZ.out] at h10 ⊢
          exact h10) rfl ⟨hok.limit, by simp only; rw [← HZ.out]; omega, Nat.zero_le _, hok.next, hok.wait, hok.one⟩)
        rw [← HLB.out] at HT
        go_wp2_with fail
        go_ret
        rw [HE.out]
        exact ⟨rfl, m3, HT.out.1, HA3.out.trans HT.out.2⟩
      · have HE : Hid (Wal.mk s l = (b0, s3, l)) := Lib.hid (by
          unfold Wal.mk
          rw [if_neg (by rw [← HZ.out]; omega), ← HZ.out, ← HN.out, ← HA.out]
          simp only [ne_eq, not_true_eq_false, if_false]
          rw [← HBB.out, if_pos hb0])
        have e1 : (b0 == 0) = false := by simpa using hb0
        have e2 : (b0 != 0) = true := by simpa using hb0
        clear hb0
        go_wp2_with fail
        go_ret
        rw [HE.out]
        exact ⟨rfl, m3, HL3.out, HA3.out⟩
    · have HE : Hid (Wal.mk s l = (a0, s2, l)) := Lib.hid (by
        unfold Wal.mk
        rw [if_neg (by rw [← HZ.out]; omega), ← HZ.out, ← HN.out, ← HA.out]
        simp only
        rw [if_pos ha0])
      have e1 : (a0 == 0) = false := by simpa using ha0
      have e2 : (a0 != 0) = true := by simpa using ha0
      clear ha0
      go_wp2_with fail
      go_ret
      rw [HE.out]
      exact ⟨rfl, m2, HL2.out, HA2.out⟩
end
end Ref
end Go.Proofs.YtaiokogbhfliiaaGreatDoor

namespace Go.Proofs.YtaiokogbhfliiaaGreatDoor
open Go.RowKit Go.Maps

namespace Ref
/-- A row of bytes of one's own. -/
structure Yr (w : World) (base : Nat) (A : Option Addr) (c : Nat) (Y : List Yv) : Prop where
  row : OwnS Yv.cells 1 w base 23 A c Y
  ok : ∀ v ∈ Y, Rby w base v.A v.b
theorem Yr.rd {w : World} {base c : Nat} {A : Option Addr} {Y : List Yv} (h : Yr w base A c Y) : RdY w A Y := ⟨h.row.rd, fun v hv => (h.ok v hv).rd⟩
/-- What Open comes to. -/
def OpensP (w : World) (base g : Nat) (m : Mem) (r : Int × Sto.St × Option (Wal.Lg × List Wal.Bt)) (e : Ending) (w' : World) : Prop :=
  (r.2.2 = none ∧ e = .returned (.tuple #[.pointer none, .int .i64 0, .slice none 0 0, .int .i64 r.1]) ∧ ∃ m', StAt w' base g r.2.1 m' ∧ Aft turnsM w w' base (Row m) (Row m')) ∨
  (∃ l bs lb A c Y m', r.2.2 = some (l, bs) ∧ r.1 = 0 ∧ e = .returned (.tuple #[.pointer (some ⟨lb, 0, none⟩), .int .i64 ((bs.head?.map (·.1)).getD 0 : Nat), .slice A Y.length c, .int .i64 0]) ∧ LS w' base g r.2.1 m' l ⟨lb, none, 0, []⟩ ∧ Aft turnsM w w' base (Row m) (Row m') ∧ w.heap.size ≤ lb ∧ Y.map Yv.b = bs.map (·.2) ∧ Yr w' w.heap.size A c Y)
/-- What lies in a round of Open's loop. -/
structure OpI (w5 : World) (lb g : Nat) (l5 : Wal.Lg) (LB : List Wal.Bv) (k : Nat) (OA : Option Addr) (oc : Nat) (Y : List Yv) (wr : World) : Prop where
  same : wr.os = w5.os ∧ wr.tape = w5.tape ∧ wr.output = w5.output ∧ w5.heap.size ≤ wr.heap.size
  hk : ∀ q, q < w5.heap.size → q ≠ lb → wr.heap[q]? = w5.heap[q]?
  hb : wr.heap[lb]? = some (lgObj g { l5 with next := Wal.nextOf (LB.take k) } ⟨lb, none, 0, []⟩)
  row : OwnS Yv.cells 1 wr w5.heap.size 23 OA oc Y
  eq : Y = (LB.take k).map Wal.yvOf
theorem OpI.step {w5 wr w8 : World} {lb g : Nat} {l5 : Wal.Lg} {LB : List Wal.Bv} {k oc c3 : Nat} {OA A3 : Option Addr} {Y : List Yv} {o2 : Obj} (h : OpI w5 lb g l5 LB k OA oc Y wr) (hlb : lb < w5.heap.size) (hk : k < LB.length) (hg : (wr.alloc o2).grownBy w8 (blk OA)) (ho : OwnS Yv.cells 1 w8 w5.heap.size 23 A3 c3 (Y ++ [Wal.yvOf LB[k]])) :
    (w8.heap[lb]? = some (lgObj g { l5 with next := Wal.nextOf (LB.take k) } ⟨lb, none, 0, []⟩)) ∧ (∀ q, q < w5.heap.size → w8.heap[q]? = wr.heap[q]?) ∧ OpI w5 lb g l5 LB (k + 1) A3 c3 (Y ++ [Wal.yvOf LB[k]]) (w8.setCell ⟨lb, 3, none⟩ (.int .i64 (((LB[k]).n + 1 : Nat) : Int))) := by
  have hb0 : Below wr.heap.size wr (wr.alloc o2) := (Below.refl _ _).alloc (Nat.le_refl _) o2
  have hne : ∀ q, q < w5.heap.size → some q ≠ blk OA := fun q hq e => by have := (h.row.blk_ge q e.symm).1; omega
  have h8 : ∀ q, q < w5.heap.size → w8.heap[q]? = wr.heap[q]? := fun q hq => (hg.block q (Nat.lt_of_lt_of_le (Nat.lt_of_lt_of_le hq h.same.2.2.2) hb0.size) (hne q hq)).trans (hb0.block q (Nat.lt_of_lt_of_le hq h.same.2.2.2))
  have hbx := (h8 lb hlb).trans h.hb
  refine ⟨hbx, h8, ⟨⟨hg.os.trans h.same.1, hg.tape.trans h.same.2.1, hg.output.trans h.same.2.2.1, by
    have := h.same.2.2.2; have := hg.size; have := hb0.size; simp at *; omega⟩, fun q hq hne2 => ?_, ?_, ?_, ?_⟩⟩
  · exact (heap_setCell_other _ ⟨lb, 3, none⟩ q _ hne2).trans ((h8 q hq).trans (h.hk q hq hne2))
  · rw [List.take_succ_eq_append_getElem hk, Wal.nextOf_snoc]
    unfold lgObj at hbx ⊢
    exact (heap_set6 hbx _).2.1
  · exact ho.keep (fun q e => heap_setCell_other _ ⟨lb, 3, none⟩ q _ (by have := (ho.blk_ge q e).1; show q ≠ lb; omega))
  · rw [h.eq, List.take_succ_eq_append_getElem hk, List.map_append]; rfl
section
variable {w w' : World} {base g : Nat} {s : Sto.St} {m : Mem}
theorem LS.turnQ {l l' : Wal.Lg} {x : Lm} (h : LS w base g s m l x) (hs : w.heap.size ≤ w'.heap.size) (hk : ∀ q, q < w.heap.size → q ≠ x.lb → w'.heap[q]? = w.heap[q]?) (hb : w'.heap[x.lb]? = some (lgObj g l' x)) (hw : l'.waiting = l.waiting) (hok : Wal.LgOk l') : LS w' base g s m l' x := by
  have hne : ∀ k T, Sto.Tag w k T → T ≠ 95 → w'.heap[k]? = w.heap[k]? := fun k T t hT => hk k t.lt (t.ne h.tag hT)
  exact ⟨⟨(hne g _ h.st.gt (by decide)).trans h.st.box, h.st.r.keep hs (fun k T t _ hT _ => hne k T t (fun e => by rw [e] at hT; revert hT; decide))⟩, hb, h.lbb, h.wrow.keep (fun k e => hne k _ (Sto.ownTagS h.wrow e) (by decide)), h.wbt.trans hw.symm, fun u hu => (h.wby u hu).keep hs (fun k e => hne k _ ((h.wby u hu).at_ k e).2 (by decide)), hok⟩
theorem there_len (h : StAt w base g s m) (hf : s.files.length ≤ 100000) : (Wal.there s).length ≤ 1677721600000 := by
  have key : ∀ (l : List Nat) (acc : List Wal.Bt), (l.foldl (fun out n => Wal.join out (Wal.told s n)) acc).length ≤ acc.length + l.length * 16777216 := by
    intro l
    induction l with
    | nil => intro acc; simp
    | cons n l ih =>
      intro acc
      have h1 := ih (Wal.join acc (Wal.told s n))
      have h2 := Wal.join_len acc (Wal.told s n)
      have h3 := told_len h n
      rw [List.foldl_cons, List.length_cons]
      omega
  have h1 := key (Wal.files s) []
  have h2 := Wal.filesOf_len (Sto.names s)
  have h3 : (Sto.names s).length ≤ s.files.length := by unfold Sto.names; rw [List.length_map]; exact h.r.ok.gnow.len
  have h4 : Wal.filesOf (Sto.names s) = Wal.files s := rfl
  rw [h4] at h2
  have h6 : (Wal.files s).foldl (fun out n => Wal.join out (Wal.told s n)) [] = Wal.there s := rfl
  rw [h6] at h1
  have h7 : (Wal.files s).length * 16777216 ≤ 100000 * 16777216 := Nat.mul_le_mul_right _ (by omega)
  simp only [List.length_nil] at h1
  omega
theorem lastD_set {w : World} {X g n : Nat} {x : Lm} (h : w.heap[X]? = some (lgObj g (Wal.lg0 n 0) x)) (L : Nat) : (w.setCell ⟨X, 2, none⟩ (.int .i64 (L : Int))).heap[X]? = some (lgObj g (Wal.lg0 n L) x) := by
  unfold lgObj at h ⊢
  exact (heap_set6 h _).1
set_option maxHeartbeats 2000000 in
set_option maxRecDepth 100000 in
theorem opens_any (h : StAt w base g s m) (limit : Int) (hl : s.kept.length ≤ 400000) (hf : s.files.length ≤ 100000) :
    Calls Tryz.prog 16 #[.pointer (some ⟨g, 0, none⟩), .int .i64 limit] w (OpensP w base g m (Wal.opens s limit)) := by
  have H := Lib.hid h
  obtain ⟨_, _, _, _, _, _, c6⟩ := h.cells
  have hbs := h.bs
  obtain ⟨o, ho⟩ : ∃ o, o = s.off := ⟨_, rfl⟩
  rw [← ho] at c6
  have HO := Lib.hid ho
  have KT := Lib.hid (fun V (hb : Below w.heap.size w V) => there_any (h.below hb) hf)
  have KF := Lib.hid (fun V (hb : Below w.heap.size w V) => files_any (h.below hb) (by omega))
  clear h ho
  go_enter Tryz.func16, Tryz.ntmps16
  by_cases h1 : limit < 1
  · have e1 : decide (limit < 1) = true := by simpa using h1
    have HE := Lib.hid (Wal.opens_arg (s := s) (limit := limit) (.inl h1))
    go_wp2_with fail
    exact bodyPost_ret (results_q4 rfl _ _ _) rfl (by rw [HE.out]; exact .inl ⟨rfl, rfl, m, H.out, Aft.refl _ _ _⟩)
  · by_cases h2 : (65536 : Int) < limit
    · have HE := Lib.hid (Wal.opens_arg (s := s) (limit := limit) (.inr h2))
      go_wp2_with fail
      exact bodyPost_ret (results_q4 rfl _ _ _) rfl (by rw [HE.out]; exact .inl ⟨rfl, rfl, m, H.out, Aft.refl _ _ _⟩)
    · have HN : Hid (¬ (limit < 1 ∨ 65536 < limit)) := Lib.hid (by omega)
      rcases o with _ | _
      · obtain ⟨n, rfl⟩ := Int.eq_ofNat_of_zero_le (show 0 ≤ limit by omega)
        go_wp2_with fail
        obtain ⟨V, hV⟩ : ∃ V, w.alloc (.cells #[.pointer (some ⟨g, 0, none⟩), .int .i64 (n : Int), .int .i64 0, .int .i64 1, .slice none 0 0, .bool false] 95) = V := ⟨_, rfl⟩
        have hbV : Below w.heap.size w V := by rw [← hV]; exact (Below.refl _ _).alloc (Nat.le_refl _) _
        have hxV : V.heap[w.heap.size]? = some (lgObj g (Wal.lg0 n 0) ⟨w.heap.size, none, 0, []⟩) := by rw [← hV]; exact heap_alloc_new w _
        have KT1 := Lib.hid (KT.out V hbV)
        have HBV := Lib.hid hbV
        have HXV := Lib.hid hxV
        rw [hV]
        clear hV hbV hxV KT
        refine KT1.out.mono ?_
        rintro e w1 ⟨A4, c4, LB, rfl, hLB, hOB, hBB, hb1⟩
        have HB1 := Lib.hid (HBV.out.trans (hb1.mono HBV.out.size))
        have HX1 : Hid (w1.heap[w.heap.size]? = some (lgObj g (Wal.lg0 n 0) ⟨w.heap.size, none, 0, []⟩)) := Lib.hid ((hb1.block _ (Array.getElem?_eq_some_iff.1 HXV.out).1).trans HXV.out)
        have HVW : Hid (w.heap.size ≤ V.heap.size) := Lib.hid HBV.out.size
        have HOB := Lib.hid (hOB.mono HVW.out)
        have HBB := Lib.hid (hBB.mono HVW.out)
        have HLB := Lib.hid hLB
        have hFl : (Wal.there s).length = LB.length := by rw [← hLB, List.length_map]
        rw [hFl]
        have KF1 := Lib.hid (KF.out w1 HB1.out)
        clear hLB hOB hBB hb1 hFl KT1 KF
        go_wp2_with fail
        refine KF1.out.mono ?_
        rintro e w2 ⟨A2, c2, rfl, ho2, hb2⟩
        have HB2 := Lib.hid (HB1.out.trans (hb2.mono HB1.out.size))
        have HX2 : Hid (w2.heap[w.heap.size]? = some (lgObj g (Wal.lg0 n 0) ⟨w.heap.size, none, 0, []⟩)) := Lib.hid ((hb2.block _ (Array.getElem?_eq_some_iff.1 HX1.out).1).trans HX1.out)
        have HO2 := Lib.hid ho2
        have HOB2 := Lib.hid (HOB.out.below hb2)
        have HBB2 := Lib.hid (HBB.out.below hb2)
        obtain ⟨fs, hfs⟩ : ∃ fs, fs = Wal.files s := ⟨_, rfl⟩
        have HFS := Lib.hid hfs
        rw [← hfs] at HO2 ⊢
        have hfl : fs.length ≤ 100000 := by
          rw [hfs]
          have h1 := Wal.filesOf_len (Sto.names s)
          have h2 : (Sto.names s).length ≤ s.files.length := by unfold Sto.names; rw [List.length_map]; exact H.out.r.ok.gnow.len
          have h3 : Wal.filesOf (Sto.names s) = Wal.files s := rfl
          rw [h3] at h1
          omega
        have HFN : Hid (∀ k ∈ fs, k < 1000000) := Lib.hid (fun k hk => by
          rw [hfs] at hk
          unfold Wal.files at hk
          obtain ⟨hk, _⟩ := List.mem_filter.1 hk
          obtain ⟨q, _, rfl⟩ := List.mem_map.1 hk
          exact Wal.numbered_bd q)
        clear ho2 hb2 hfs KF1
        go_upto_if 39 with fail
        go_cut [] (fun wx => Hid (wx.heap[w.heap.size]? = some (lgObj g (Wal.lg0 n (fs.getLastD 0)) ⟨w.heap.size, none, 0, []⟩)) ∧ Hid (Below w.heap.size w wx) ∧ Hid (OwnS Wal.Bv.cells 2 wx w.heap.size 99 A4 c4 LB) ∧ Hid (Wal.Bys wx w.heap.size LB))
        case first =>
          rcases Nat.eq_zero_or_pos fs.length with h0 | hpos
          · have e3 : decide (0 < fs.length) = false := decide_eq_false (by omega)
            have HEZ : Hid (fs.getLastD 0 = 0) := Lib.hid (by rw [List.eq_nil_of_length_eq_zero h0]; rfl)
            have h0' : ¬ 0 < fs.length := by omega
            clear h0
            go_wp2_with fail
            go_meet
            exact ⟨Lib.hid (by rw [HEZ.out]; exact HX2.out), HB2, HOB2, HBB2⟩
          · have e3 : decide (0 < fs.length) = true := decide_eq_true hpos
            obtain ⟨b3, off3, hA3, _, hc3⟩ := RdS.row (f := Wal.N1) (n := 1) (fun _ => rfl) (by omega) HO2.out.rd (by omega)
            have hjl : fs.length - 1 < fs.length := by omega
            have r3 := hc3 (fs.length - 1) hjl 0 _ rfl
            rw [Nat.add_zero, Nat.mul_one] at r3
            obtain ⟨L, hL⟩ : ∃ L, L = fs[fs.length - 1] := ⟨_, rfl⟩
            rw [← hL] at r3
            have HLL : Hid (fs.getLastD 0 = L) := Lib.hid (by rw [List.getLastD_eq_getLast?, List.getLast?_eq_getElem?, List.getElem?_eq_getElem hjl, ← hL]; rfl)
            have t2 : w2.cell? ⟨w.heap.size, 2, none⟩ = some (.int .i64 0) := by
              have h9 := HX2.out
              unfold lgObj at h9
              rw [cell_of_row w2 _ 2 _ _ (0, 0) h9]; rfl
            have f2 : w2.frozen? ⟨w.heap.size, 2, none⟩ = false := frozen_of_row w2 _ 2 _ _ HX2.out
            subst hA3
            clear hc3 hL hjl
            have HF : Hid ((w2.setCell ⟨w.heap.size, 2, none⟩ (.int .i64 (L : Int))).heap[w.heap.size]? = some (lgObj g (Wal.lg0 n L) ⟨w.heap.size, none, 0, []⟩) ∧ Below w.heap.size w (w2.setCell ⟨w.heap.size, 2, none⟩ (.int .i64 (L : Int))) ∧ OwnS Wal.Bv.cells 2 (w2.setCell ⟨w.heap.size, 2, none⟩ (.int .i64 (L : Int))) w.heap.size 99 A4 c4 LB ∧ Wal.Bys (w2.setCell ⟨w.heap.size, 2, none⟩ (.int .i64 (L : Int))) w.heap.size LB) := Lib.hid (by
              have ht : Sto.Tag w2 w.heap.size 95 := ⟨_, _, HX2.out⟩
              exact ⟨lastD_set HX2.out L, HB2.out.setCell (Nat.le_refl _) _, HOB2.out.keep (fun q e => heap_setCell_other w2 ⟨w.heap.size, 2, none⟩ q _ ((Sto.ownTagS HOB2.out e).ne ht (by decide))), HBB2.out.keep (by simp) (fun v hv q e => heap_setCell_other w2 ⟨w.heap.size, 2, none⟩ q _ (((HBB2.out.ok v hv).2.2.2 q e).2.ne ht (by decide)))⟩)
            go_wp2_with fail
            go_meet
            rw [HLL.out]
            exact ⟨Lib.hid HF.out.1, Lib.hid HF.out.2.1, Lib.hid HF.out.2.2.1, Lib.hid HF.out.2.2.2⟩
        case rest =>
          obtain ⟨HXC, HBC, HOBC, HBBC⟩ := hcut
          obtain ⟨L, hL⟩ : ∃ L, L = Wal.lg0 n (fs.getLastD 0) := ⟨_, rfl⟩
          have HL := Lib.hid hL
          rw [← hL] at HXC
          have HLok : Hid (Wal.LgOk L) := Lib.hid (by
            rw [hL]
            refine ⟨by show n ≤ 65536; omega, ?_, Nat.zero_le _, ⟨Nat.le_refl _, by show 1 ≤ 1099511627777; decide⟩, Nat.zero_lt_one, fun b hb => by cases hb⟩
            show fs.getLastD 0 ≤ 999999
            rw [List.getLastD_eq_getLast?]
            rcases hg : fs.getLast? with _ | q
            · exact Nat.zero_le _
            · have := HFN.out q (List.mem_of_getLast? hg)
              simp only [Option.getD_some]; omega)
          have HLS : Hid (LS wc base g s m L ⟨w.heap.size, none, 0, []⟩) := Lib.hid ⟨H.out.below HBC.out, HXC.out, hbs, OwnS.nil _ _ _, by rw [hL]; rfl, (fun v hv => by cases hv), HLok.out⟩
          have KM := Lib.hid (make_any HLS.out (by omega) (by omega))
          simp only at KM
          clear hL
          go_wp2_with fail
          refine KM.out.mono ?_
          rintro e w5 ⟨rfl, m5, hls5, haf5⟩
          have HS5 := Lib.hid hls5
          have HA5 : Hid (Aft turnsM w w5 base (Row m) (Row m5)) := Lib.hid (((Aft.of_below HBC.out (LRow m ⟨w.heap.size, none, 0, []⟩)).trans haf5).rows (fun k hk hr => by
            rcases ((Aft.of_below (ts := turnsM) (base := base) HBC.out (LRow m ⟨w.heap.size, none, 0, []⟩)).trans haf5).row k hk (.inl hr) with h9 | ⟨v, hv, _⟩
            · exact h9
            · cases hv))
          have HOB5 : Hid (Wal.Bys w5 w.heap.size LB) := Lib.hid (HBBC.out.keep haf5.size (fun v hv q e => haf5.tag ((HBBC.out.ok v hv).2.2.2 q e).2 (by decide)))
          have HOR5 : Hid (OwnS Wal.Bv.cells 2 w5 w.heap.size 99 A4 c4 LB) := Lib.hid (HOBC.out.keep (fun q e => haf5.tag (Sto.ownTagS HOBC.out e) (by decide)))
          obtain ⟨c, hc⟩ : ∃ c, c = (Wal.mk s L).1 := ⟨_, rfl⟩
          have HC := Lib.hid hc
          rw [← hc]
          clear hls5 haf5 hc KM
          have HL0 : Hid (L = ⟨((n : Int)).toNat, (Wal.files s).getLastD 0, 0, 1, [], false⟩) := Lib.hid (by rw [HL.out, HFS.out, Int.toNat_natCast]; rfl)
          by_cases hcz : c = 0
          · have e1 : (c == 0) = true := by rw [hcz]; rfl
            have e2 : (c != 0) = false := by rw [hcz]; rfl
            have HE := Lib.hid (Wal.opens_yes HN.out HO.out.symm HL0.out (by rw [← HC.out, hcz]))
            clear hcz
            obtain ⟨l5, hl5⟩ : ∃ l5, l5 = (Wal.mk s L).2.2 := ⟨_, rfl⟩
            have HL5 : Hid (l5.waiting = [] ∧ l5.next = 1 ∧ Wal.LgOk l5) := Lib.hid (by
              have h1 := Wal.mk_lg (s := s) (l := L)
              rw [← hl5] at h1
              refine ⟨h1.2.1.trans (by rw [HL.out]; rfl), h1.2.2.2.1.trans (by rw [HL.out]; rfl), by rw [hl5]; exact HS5.out.ok⟩)
            rw [← hl5] at HS5 HE
            have HLZ : Hid (w.heap.size < w5.heap.size) := Lib.hid HS5.out.tag.lt
            have HNB : Hid (∀ v ∈ LB, v.n ≤ 1099511627776) := Lib.hid (fun v hv => (Wal.there_bd s v.bt (by rw [← HLB.out]; exact List.mem_map_of_mem hv)).2)
            have hll : LB.length ≤ 1677721600000 := by
              have h5 : (Wal.there s).length = LB.length := by rw [← HLB.out, List.length_map]
              rw [← h5]
              exact there_len H.out hf
            obtain ⟨lb, hlb⟩ : ∃ lb, lb = w.heap.size := ⟨_, rfl⟩
            have HLB2 := Lib.hid hlb
            have HI0 : Hid (OpI w5 w.heap.size g l5 LB 0 none 0 [] w5) := Lib.hid ⟨⟨rfl, rfl, rfl, Nat.le_refl _⟩, fun _ _ _ => rfl, by
              have h1 := HS5.out.box
              have e4 : ({ l5 with next := Wal.nextOf (LB.take 0) } : Wal.Lg) = l5 := by
                have e5 : Wal.nextOf (LB.take 0) = l5.next := by rw [HL5.out.2.1]; rfl
                rw [e5]
              rw [e4]; exact h1, OwnS.nil _ _ _, rfl⟩
            rw [← hlb] at HI0 ⊢
            clear hl5 hlb
            go_wp2_with fail
            go_loopw [12, 13, 14] (fun o fst i wr => ∃ (k oc : Nat) (OA : Option Addr) (Y : List Yv), k ≤ LB.length ∧ i = .int .i64 (k : Int) ∧ o = .slice OA Y.length oc ∧ fst = .int .i64 ((((LB.take k).head?.map Wal.Bv.n).getD 0 : Nat) : Int) ∧ Hid (Y.length = k) ∧ Hid (OpI w5 lb g l5 LB k OA oc Y wr)) (fun _ _ i _ => LB.length - (intOf i).toNat)
            case atStart => exact ⟨0, 0, none, [], by omega, rfl, rfl, rfl, Lib.hid rfl, HI0⟩
            case round =>
              obtain ⟨k, oc, OA, Y, hk, rfl, rfl, rfl, HYN, HI⟩ := hrel
              have HLR : Hid (lb < w5.heap.size) := Lib.hid (by rw [HLB2.out]; exact HLZ.out)
              by_cases hlt : k < LB.length
              · have hlt' : (k : Int) < (LB.length : Int) := by omega
                have hrow : OwnS Wal.Bv.cells 2 wr w.heap.size 99 A4 c4 LB := HOR5.out.keep (fun q e => by
                  have t := Sto.ownTagS HOR5.out e
                  exact HI.out.hk q t.lt (by rw [HLB2.out]; exact t.ne HS5.out.tag (by decide)))
                obtain ⟨b, off, hA, hbl, hcl⟩ := RdS.row (f := Wal.Bv.cells) (n := 2) (fun _ => rfl) (by omega) (HOR5.out.rd) (by omega)
                have hbt : b ≠ lb := by
                  rw [HLB2.out]
                  exact (Sto.ownTagS HOR5.out (by rw [hA]; rfl)).ne HS5.out.tag (by decide)
                have c0 := (World.cell?_of_block (a := ⟨b, off + k * 2 + 0, none⟩) (HI.out.hk b hbl hbt)).trans (hcl k hlt 0 _ rfl)
                have c1 := (World.cell?_of_block (a := ⟨b, off + k * 2 + 1, none⟩) (HI.out.hk b hbl hbt)).trans (hcl k hlt 1 _ rfl)
                rw [Nat.add_zero] at c0
                have hvn := HNB.out LB[k] (List.getElem_mem hlt)
                have HFS' : Hid ((((LB.take (k + 1)).head?.map Wal.Bv.n).getD 0) = if k = 0 then (LB[k]).n else (((LB.take k).head?.map Wal.Bv.n).getD 0)) := Lib.hid (by
                  rcases LB with _ | ⟨v, R⟩
                  · simp at hlt
                  · rcases k with _ | k
                    · rfl
                    · rfl)
                obtain ⟨v, hv⟩ : ∃ v : Wal.Bv, v = LB[k] := ⟨_, rfl⟩
                rw [← hv] at c0 c1 hvn HFS'
                have HV2 := Lib.hid hv
                obtain ⟨vn, vA, vc, vb⟩ := v
                simp only at c0 c1 hvn HFS'
                subst hA
                clear hv hrow hcl
                have HRD : Hid (RdS Yv.cells 1 (wr.alloc (.cells #[.slice vA vb.length vc] 23)) (wr.heap.size + 1) (some ⟨wr.heap.size, 0, none⟩) [⟨vA, vc, vb⟩]) := Lib.hid (rd_yv_new wr ⟨vA, vc, vb⟩)
                have hsz := HI.out.same.2.2.2
                have hyb : Y.length ≤ 1677721600000 := by have := HYN.out; omega
                have HST : Hid (∀ (w8 : World) (A3 : Option Addr) (c3 : Nat) (L8 : List Yv), L8 = Y ++ [⟨vA, vc, vb⟩] → (wr.alloc (.cells #[.slice vA vb.length vc] 23)).grownBy w8 (blk OA) → OwnS Yv.cells 1 w8 w5.heap.size 23 A3 c3 L8 →
                    (w8.cell? ⟨b, off + k * 2, none⟩ = some (.int .i64 (vn : Int)) ∧ w8.cell? ⟨lb, 3, none⟩ = some (.int .i64 ((Wal.nextOf (LB.take k) : Nat) : Int)) ∧ w8.frozen? ⟨lb, 3, none⟩ = false) ∧ OpI w5 lb g l5 LB (k + 1) A3 c3 L8 (w8.setCell ⟨lb, 3, none⟩ (.int .i64 ((vn + 1 : Nat) : Int)))) := Lib.hid (fun w8 A3 c3 L8 hL hg ho => by
                  subst hL
                  have h9 := HI.out.step HLR.out hlt hg (by rw [← HV2.out]; exact ho)
                  rw [← HV2.out] at h9
                  have h8 := h9.1
                  unfold lgObj at h8
                  exact ⟨⟨(World.cell?_of_block (a := ⟨b, off + k * 2, none⟩) (h9.2.1 b hbl)).trans c0, by rw [cell_of_row w8 lb 3 _ _ (0, 0) h8]; rfl, frozen_of_row w8 lb 3 _ _ h8⟩, h9.2.2⟩)
                have ew : IntKind.i64.wrap ((vn : Int) + 1) = ((vn + 1 : Nat) : Int) := by rw [IntKind.wrap_i64]; omega
                by_cases hk0 : k = 0
                · subst hk0
                  simp only [Nat.zero_mul, Nat.add_zero] at c0 c1
                  go_wp2_with (at_builtin; refine wpList_append_s _ rfl _ _ yvT rfl w5.heap.size OA oc Y rfl (HI.out.row.alloc _) (wr.heap.size + 1) (some ⟨wr.heap.size, 0, none⟩) 1 1 [⟨vA, vc, vb⟩] rfl rfl HRD.out (by simp; omega) (by unfold maxLen; simp; omega) (by simp; omega) ?_; intro A8 c8 L8 w8 hl8 ho8 hg8 hat8; obtain ⟨z0, z4, z5⟩ := (HST.out w8 A8 c8 L8 hl8 hg8 ho8).1; have HGO := Lib.hid hg8; have HOO := Lib.hid ho8; have HLO := Lib.hid hl8; simp only [Nat.zero_mul, Nat.add_zero] at z0; clear hg8 ho8 hl8)
                  exact ⟨⟨1, c8, A8, L8, hlt, by simp, rfl, by rw [HFS'.out]; rfl, Lib.hid (by rw [HLO.out, List.length_append, HYN.out]; rfl), Lib.hid (HST.out w8 A8 c8 L8 HLO.out HGO.out HOO.out).2⟩, by simp only [intOf]; omega⟩
                · have k0 : ((k : Int) == 0) = false := by simp; omega
                  go_wp2_with (at_builtin; refine wpList_append_s _ rfl _ _ yvT rfl w5.heap.size OA oc Y rfl (HI.out.row.alloc _) (wr.heap.size + 1) (some ⟨wr.heap.size, 0, none⟩) 1 1 [⟨vA, vc, vb⟩] rfl rfl HRD.out (by simp; omega) (by unfold maxLen; simp; omega) (by simp; omega) ?_; intro A8 c8 L8 w8 hl8 ho8 hg8 hat8; obtain ⟨z0, z4, z5⟩ := (HST.out w8 A8 c8 L8 hl8 hg8 ho8).1; have HGO := Lib.hid hg8; have HOO := Lib.hid ho8; have HLO := Lib.hid hl8; clear hg8 ho8 hl8)
                  exact ⟨⟨k + 1, c8, A8, L8, hlt, by simp, rfl, by rw [HFS'.out, if_neg hk0], Lib.hid (by rw [HLO.out, List.length_append, HYN.out]; rfl), Lib.hid (HST.out w8 A8 c8 L8 HLO.out HGO.out HOO.out).2⟩, by simp only [intOf]; omega⟩
              · have hlt' : ¬ (k : Int) < (LB.length : Int) := by omega
                have HKE : Hid (LB.take k = LB) := Lib.hid (List.take_of_length_le (by omega))
                go_wp2_with fail
                refine bodyPost_ret (results_q4 rfl _ _ _) rfl ?_
                have hlbw := HLB2.out
                subst hlbw
                obtain ⟨s1, s2, s3, s4⟩ := HI.out.same
                have hbx := HI.out.hb
                rw [HKE.out] at hbx
                have hnx : Wal.nextOf LB ≤ 1099511627777 ∧ 1 ≤ Wal.nextOf LB := by
                  unfold Wal.nextOf
                  rcases hg : LB.getLast? with _ | q
                  · exact ⟨by decide, Nat.le_refl _⟩
                  · have := HNB.out q (List.mem_of_getLast? hg)
                    simp only; omega
                have hok5 := HL5.out.2.2
                have hls := HS5.out.turnQ (l' := { l5 with next := Wal.nextOf LB }) s4 HI.out.hk hbx rfl ⟨hok5.limit, hok5.last, hok5.size, ⟨hnx.2, hnx.1⟩, by simp only; rw [HL5.out.1]; exact hnx.2, hok5.one⟩
                have htag := HS5.out.tag
                have ha : Aft turnsM w wr base (Row m) (Row m5) := HA5.out.trans ⟨s1, s2, s3, s4, fun q hq hn => HI.out.hk q hq (fun e => by
                  subst e
                  rcases hn with h3 | h3
                  · omega
                  · exact h3 _ (by decide) htag), fun _ _ h3 => h3⟩
                have hY : Y = LB.map Wal.yvOf := by rw [HI.out.eq, HKE.out]
                have hBY : Wal.Bys wr w.heap.size LB := HOB5.out.keep s4 (fun v hv q e => by
                  have t := ((HOB5.out.ok v hv).2.2.2 q e).2
                  exact HI.out.hk q t.lt (t.ne htag (by decide)))
                rw [HE.out]
                refine .inr ⟨_, Wal.there s, w.heap.size, OA, oc, Y, m5, rfl, rfl, ?_, ?_, ha, Nat.le_refl _, ?_, HI.out.row.mono (Nat.le_of_lt HLZ.out), fun v hv => ?_⟩
                · have e8 : ((LB.take k).head?.map Wal.Bv.n) = (Wal.there s).head?.map (·.1) := by rw [HKE.out, ← HLB.out, List.head?_map]; rcases LB with _ | _ <;> rfl
                  rw [e8]
                  rfl
                · rw [← Wal.nextOf_bt LB, HLB.out] at hls
                  exact hls
                · rw [hY, ← HLB.out, List.map_map, List.map_map]; rfl
                · rw [hY] at hv
                  obtain ⟨u, hu, rfl⟩ := List.mem_map.1 hv
                  exact ⟨(hBY.ok u hu).1, (hBY.ok u hu).2.2.2⟩
          · have e1 : (c == 0) = false := by simpa using hcz
            have e2 : (c != 0) = true := by simpa using hcz
            have HE := Lib.hid (Wal.opens_bad HN.out HO.out.symm HL0.out (by rw [← HC.out]; exact hcz))
            clear hcz
            go_wp2_with fail
            exact bodyPost_ret (results_q4 rfl _ _ _) rfl (by rw [HE.out, ← HC.out]; exact .inl ⟨rfl, rfl, m5, HS5.out.st, HA5.out⟩)
      · have HE := Lib.hid (Wal.opens_off HN.out HO.out.symm)
        go_wp2_with fail
        exact bodyPost_ret (results_q4 rfl _ _ _) rfl (by rw [HE.out]; exact .inl ⟨rfl, rfl, m, H.out, Aft.refl _ _ _⟩)
end
end Ref
end Go.Proofs.YtaiokogbhfliiaaGreatDoor

namespace Go.Proofs.YtaiokogbhfliiaaGreatDoor
open Go.RowKit Go.Maps

namespace Ref
theorem wls_beside {w w' : World} {bs g br : Nat} {s : Sto.St} {m : Sto.Mem} {l : Wal.Lg} {x : Wal.Lm} {ts : List TypeId} {R R' : Nat → Prop} (h : Wal.LS w bs g s m l x) (ha : Aft ts w w' br R R') (ht : ∀ T ∈ ([78, 108, 110, 9, 105, 5] : List TypeId), T ∉ ts) (hl : 87 ∉ ts) (hb : 92 ∉ ts) : Wal.LS w' bs g s m l x :=
  ⟨beside_st h.st ha ht, (ha.tag h.lb_tag hl).trans h.box, h.lbb, ⟨h.wt.row.keep (fun k e => ha.tag (Sto.ownTagS h.wt.row e) hb), h.wt.bt, h.wt.bys.keep ha.size (fun v hv k e => ha.tag ((h.wt.bys.ok v hv).2.2.2 k e).2 (ht _ (by decide))), fun v hv k e => ⟨Nat.lt_of_lt_of_le ((h.wt.apart v hv) k e).1 ha.size, ((h.wt.apart v hv) k e).2⟩⟩, h.ok⟩
theorem opens_waits {s : Sto.St} {limit : Int} {l : Wal.Lg} {bs : List Wal.Bt} (h : (Wal.opens s limit).2.2 = some (l, bs)) : Wal.waits l = 0 ∧ bs = Wal.there s := by
  unfold Wal.opens at h
  simp only at h
  repeat' split at h
  all_goals first | (cases h; done) | skip
  all_goals
    injection h with h
    injection h with h h2
    subst h
    refine ⟨?_, h2.symm⟩
    unfold Wal.waits
    simp only [Wal.mk_lg.2.1, List.length_nil]
    split <;> rfl
end Ref
end Go.Proofs.YtaiokogbhfliiaaGreatDoor

namespace Go.Proofs.YtaiokogbhfliiaaGreatDoor
open Go.RowKit Go.Maps

namespace Ref
section
variable {w w' V2 w9 : World} {base g : Nat} {s s' : Sto.St} {m m' : Mem} {l l' : Wal.Lg} {x : Lm}
/-- A batch more waits. -/
theorem LS.added (h : LS w base g s m l x) (hb : Below w.heap.size w V2) {A8 A9 : Option Addr} {c8 c9 : Nat} {b : List UInt8} (hr : Rby V2 base A8 b) (hA : ∀ k, blk A8 = some k → w.heap.size ≤ k) (hg : V2.grownBy w9 (blk x.WA)) (ho : OwnS Wal.Bv.cells 2 w9 base 99 A9 c9 (x.W ++ [⟨l.next, A8, c8, b⟩])) (hn : l.next ≤ 1099511627776) (hbl : b.length ≤ 60000) (v3 : Value) (hv : v3 = .int .i64 ((l.next + 1 : Nat) : Int)) :
    w9.heap[x.lb]? = some (lgObj g l x) ∧ (w9.setCell ⟨x.lb, 4, none⟩ (.slice A9 (x.W ++ [(⟨l.next, A8, c8, b⟩ : Wal.Bv)]).length c9)).heap[x.lb]? = some (lgObj g { l with waiting := l.waiting ++ [(l.next, b)] } ⟨x.lb, A9, c9, x.W ++ [⟨l.next, A8, c8, b⟩]⟩) ∧
    LS ((w9.setCell ⟨x.lb, 4, none⟩ (.slice A9 (x.W ++ [(⟨l.next, A8, c8, b⟩ : Wal.Bv)]).length c9)).setCell ⟨x.lb, 3, none⟩ v3) base g s m { l with waiting := l.waiting ++ [(l.next, b)], next := l.next + 1 } ⟨x.lb, A9, c9, x.W ++ [⟨l.next, A8, c8, b⟩]⟩ ∧
    Aft turnsL w ((w9.setCell ⟨x.lb, 4, none⟩ (.slice A9 (x.W ++ [(⟨l.next, A8, c8, b⟩ : Wal.Bv)]).length c9)).setCell ⟨x.lb, 3, none⟩ v3) base (LRow m x) (LRow m ⟨x.lb, A9, c9, x.W ++ [⟨l.next, A8, c8, b⟩]⟩) := by
  subst hv
  have h2 := h.below hb
  have hwl : l.waiting.length = x.W.length := by rw [← h.wbt, List.length_map]
  have htl := h2.tag
  have hbx : w9.heap[x.lb]? = some (lgObj g l x) := (hg.block x.lb htl.lt (fun e => (Sto.ownTagS h2.wrow e.symm).ne htl (by decide) rfl)).trans h2.box
  have hb4 : (w9.setCell ⟨x.lb, 4, none⟩ (.slice A9 (x.W ++ [(⟨l.next, A8, c8, b⟩ : Wal.Bv)]).length c9)).heap[x.lb]? = some (lgObj g { l with waiting := l.waiting ++ [(l.next, b)] } ⟨x.lb, A9, c9, x.W ++ [⟨l.next, A8, c8, b⟩]⟩) := by
    have h9 := hbx
    unfold lgObj at h9 ⊢
    have h10 := (heap_set6 h9 (.slice A9 (x.W ++ [(⟨l.next, A8, c8, b⟩ : Wal.Bv)]).length c9)).2.2.1
    rw [h10]
    simp only [List.length_append, List.length_cons, List.length_nil, hwl]
  have hk : ∀ k, k < V2.heap.size → k ≠ x.lb → blk x.WA ≠ some k → ((w9.setCell ⟨x.lb, 4, none⟩ (.slice A9 (x.W ++ [(⟨l.next, A8, c8, b⟩ : Wal.Bv)]).length c9)).setCell ⟨x.lb, 3, none⟩ (.int .i64 ((l.next + 1 : Nat) : Int))).heap[k]? = V2.heap[k]? := fun k hk h1 h2 =>
    ((heap_setCell_other _ ⟨x.lb, 3, none⟩ k _ h1).trans (heap_setCell_other _ ⟨x.lb, 4, none⟩ k _ h1)).trans (hg.block k hk (fun e => h2 e.symm))
  have hkt : ∀ k T, Sto.Tag V2 k T → T ≠ 95 → T ≠ 99 → ((w9.setCell ⟨x.lb, 4, none⟩ (.slice A9 (x.W ++ [(⟨l.next, A8, c8, b⟩ : Wal.Bv)]).length c9)).setCell ⟨x.lb, 3, none⟩ (.int .i64 ((l.next + 1 : Nat) : Int))).heap[k]? = V2.heap[k]? := fun k T t h3 h4 =>
    hk k t.lt (t.ne htl h3) (fun e => (Sto.ownTagS h2.wrow e).ne t (fun e2 => h4 e2.symm) rfl)
  have hsz : V2.heap.size ≤ ((w9.setCell ⟨x.lb, 4, none⟩ (.slice A9 (x.W ++ [(⟨l.next, A8, c8, b⟩ : Wal.Bv)]).length c9)).setCell ⟨x.lb, 3, none⟩ (.int .i64 ((l.next + 1 : Nat) : Int))).heap.size := by simp; exact hg.size
  have ht9 : Sto.Tag w9 x.lb 95 := ⟨_, _, hbx⟩
  refine ⟨hbx, hb4, ⟨⟨(hkt g _ h2.st.gt (by decide) (by decide)).trans h2.st.box, h2.st.r.keep hsz (fun k T t _ hT _ => hkt k T t (fun e => by rw [e] at hT; revert hT; decide) (fun e => by rw [e] at hT; revert hT; decide))⟩, ?_, h2.lbb, ?_, ?_, ?_, ?_⟩, ?_⟩
  · unfold lgObj at hb4 ⊢
    exact (heap_set6 hb4 _).2.1
  · exact ho.keep (fun k e => (heap_setCell_other _ ⟨x.lb, 3, none⟩ k _ ((Sto.ownTagS ho e).ne ht9 (by decide))).trans (heap_setCell_other _ ⟨x.lb, 4, none⟩ k _ ((Sto.ownTagS ho e).ne ht9 (by decide))))
  · show (x.W ++ [_]).map Wal.Bv.bt = l.waiting ++ [_]
    rw [List.map_append, h.wbt]; rfl
  · intro v hv
    rcases List.mem_append.1 hv with hv | hv
    · exact (h2.wby v hv).keep hsz (fun k e => hkt k _ ((h2.wby v hv).at_ k e).2 (by decide) (by decide))
    · rw [List.mem_singleton] at hv
      subst hv
      exact hr.keep hsz (fun k e => hkt k _ (hr.at_ k e).2 (by decide) (by decide))
  · have hok := h.ok
    refine ⟨hok.limit, hok.last, hok.size, ⟨by simp only; omega, by simp only; omega⟩, ?_, ?_⟩
    · have := hok.wait
      simp only [List.length_append, List.length_cons, List.length_nil]; omega
    · intro c hc
      rcases List.mem_append.1 hc with hc | hc
      · exact hok.one c hc
      · rw [List.mem_singleton] at hc
        subst hc
        exact ⟨hn, hbl⟩
  · refine ⟨hg.os.trans hb.os, hg.tape.trans hb.tape, hg.output.trans hb.output, Nat.le_trans hb.size hsz, fun k hkw hn => ?_, fun k hkw hr2 => ?_⟩
    · have hk2 := Nat.lt_of_lt_of_le hkw hb.size
      refine (hk k hk2 (fun e => ?_) (fun e => ?_)).trans (hb.block k hkw)
      · subst e
        rcases hn with h5 | h5
        · have := h.lbb; omega
        · exact h5 _ (by decide) h.tag
      · rcases hn with h5 | h5
        · have := (h.wrow.blk_ge k e).1; omega
        · exact h5 _ (by decide) (Sto.ownTagS h.wrow e)
    · rcases hr2 with hr2 | ⟨v, hv, e⟩
      · exact .inl hr2
      · rcases List.mem_append.1 hv with hv | hv
        · exact .inr ⟨v, hv, e⟩
        · rw [List.mem_singleton] at hv
          subst hv
          have := hA k e
          omega
/-- What Add comes to. -/
def AddP (w : World) (base g : Nat) (s : Sto.St) (m : Mem) (x : Lm) (r : Int × Nat × Wal.Lg) (e : Ending) (w' : World) : Prop := e = .returned (.tuple #[.int .i64 (r.2.1 : Int), .int .i64 r.1]) ∧ ∃ x' : Lm, x'.lb = x.lb ∧ LS w' base g s m r.2.2 x' ∧ Aft turnsL w w' base (LRow m x) (LRow m x')
def AddS (lb : Nat) (v3 v4 : Value) (W : World) : Prop := W.cell? ⟨lb, 3, none⟩ = some v3 ∧ W.cell? ⟨lb, 4, none⟩ = some v4
set_option maxHeartbeats 4000000 in
set_option maxRecDepth 100000 in
theorem add_any (h : LS w base g s m l x) (bA : Option Addr) (bc : Nat) (b : List UInt8) (hb : RdB w w.heap.size bA b) (hbl : b.length ≤ 70368744177664) (hwl : l.waiting.length ≤ 1000000) :
    Calls Tryz.prog 79 #[.pointer (some ⟨x.lb, 0, none⟩), .slice bA b.length bc] w (AddP w base g s m x (Wal.add l b)) := by
  have H := Lib.hid h
  have HB := Lib.hid hb
  obtain ⟨_, _, _, c3, c4, c5⟩ := h.cells
  have hwe : l.waiting.length = x.W.length := by rw [← h.wbt, List.length_map]
  rw [hwe] at c4 hwl
  obtain ⟨lb, hlb⟩ : ∃ lb, lb = x.lb := ⟨_, rfl⟩
  obtain ⟨nx, hnx⟩ : ∃ nx, nx = l.next := ⟨_, rfl⟩
  obtain ⟨o, ho⟩ : ∃ o, o = l.broken := ⟨_, rfl⟩
  rw [← hlb] at c3 c4 c5 ⊢
  rw [← hnx] at c3
  rw [← ho] at c5
  have HLB := Lib.hid hlb
  have HNX := Lib.hid hnx
  have HE : Hid (Wal.add l b = if o = true then (9, 0, l) else if 60000 < b.length then (1, 0, l) else if 1099511627776 < nx then (2, 0, l) else (0, nx, { l with waiting := l.waiting ++ [(nx, b)], next := nx + 1 })) := Lib.hid (by rw [ho, hnx]; rfl)
  have hlt : lb < w.heap.size := by rw [hlb]; exact h.tag.lt
  clear h hb hlb hnx ho hwe
  go_enter Tryz.func79, Tryz.ntmps79
  rcases o with _ | _
  · by_cases h6 : 60000 < b.length
    · have h6' : (60000 : Int) < (b.length : Int) := by omega
      go_wp2_with fail
      go_ret2
      rw [HE.out, if_neg (by simp), if_pos h6]
      exact ⟨rfl, x, rfl, H.out, Aft.refl _ _ _⟩
    · have h6' : ¬ (60000 : Int) < (b.length : Int) := by omega
      by_cases h7 : 1099511627776 < nx
      · have h7' : (1099511627776 : Int) < (nx : Int) := by omega
        go_wp2_with fail
        go_ret2
        rw [HE.out, if_neg (by simp), if_neg h6, if_pos h7]
        exact ⟨rfl, x, rfl, H.out, Aft.refl _ _ _⟩
      · have h7' : ¬ (1099511627776 : Int) < (nx : Int) := by omega
        rw [if_neg (by simp), if_neg h6, if_neg h7] at HE
        go_wp2_with fail
        obtain ⟨V, hV⟩ : ∃ V, w.drew = V := ⟨_, rfl⟩
        have hbV : Below w.heap.size w V := by rw [← hV]; exact (Below.refl _ _).drew
        have HBV := Lib.hid hbV
        have HS0 : AddS lb (.int .i64 (nx : Int)) (.slice x.WA x.W.length x.wc) V := ⟨(hbV.cell (p := ⟨lb, 3, none⟩) hlt).trans c3, (hbV.cell (p := ⟨lb, 4, none⟩) hlt).trans c4⟩
        have HRY := Lib.hid ((HB.out.below hbV (Nat.le_refl _)).more hbV.size)
        have hlv : lb < V.heap.size := Nat.lt_of_lt_of_le hlt hbV.size
        refine wp_region_E 17 (AddS lb (.int .i64 (nx : Int)) (.slice x.WA x.W.length x.wc)) (by kernel_rfl) ?_
        rw [hV]
        clear hV hbV c3 c4
        refine wpAnyE_take (i := 0) (v := ?_) rfl (by kernel_rfl) (by kernel_rfl) (by kernel_rfl) (by kernel_rfl) (fun _ _ _ h => h) (Or.inl ⟨by rfl, ?_⟩) HS0 ?_
        rotate_left
        · (intro wy hSw; obtain ⟨q0, q1⟩ := hSw; go_simp; try with_reducible rfl)
        try simp only [Act.put, List.setIfInBounds_toArray]
        refine wpAnyE_take (i := 1) (v := ?_) rfl (by kernel_rfl) (by kernel_rfl) (by kernel_rfl) (by kernel_rfl) (fun _ _ _ h => h) (Or.inl ⟨by rfl, ?_⟩) HS0 ?_
        rotate_left
        · (intro wy hSw; obtain ⟨q0, q1⟩ := hSw; go_simp; try with_reducible rfl)
        try simp only [Act.put]
        refine wpAnyE_take (i := 2) (v := ?_) rfl (by kernel_rfl) (by kernel_rfl) (by kernel_rfl) (by kernel_rfl) (fun _ _ _ h => h) (Or.inl ⟨by rfl, ?_⟩) HS0 ?_
        rotate_left
        · (intro wy hSw; obtain ⟨q0, q1⟩ := hSw; go_simp; try with_reducible rfl)
        try simp only [Act.put]
        refine wpAnyE_take (i := 3) (v := ?_) rfl (by kernel_rfl) (by kernel_rfl) (by kernel_rfl) (by kernel_rfl) (fun _ _ _ h => h) (Or.inl ⟨by rfl, ?_⟩) HS0 ?_
        rotate_left
        · (intro wy hSw; obtain ⟨q0, q1⟩ := hSw; go_simp; try with_reducible rfl)
        try simp only [Act.put]
        refine wpAnyE_take (i := 4) (v := ?_) rfl (by kernel_rfl) (by kernel_rfl) (by kernel_rfl) (by kernel_rfl) (fun _ _ _ h => h) (Or.inl ⟨by rfl, ?_⟩) HS0 ?_
        rotate_left
        · (intro wy hSw; obtain ⟨q0, q1⟩ := hSw; go_simp; try with_reducible rfl)
        try simp only [Act.put]
        refine wpAnyE_take (i := 5) (v := ?_) rfl (by kernel_rfl) (by kernel_rfl) (by kernel_rfl) (by kernel_rfl) (fun _ _ _ h => h) (Or.inl ⟨by rfl, ?_⟩) HS0 ?_
        rotate_left
        · (intro wy hSw; obtain ⟨q0, q1⟩ := hSw; go_simp; try with_reducible rfl)
        try simp only [Act.put]
        refine wpAnyE_take (i := 6) (v := ?_) rfl (by kernel_rfl) (by kernel_rfl) (by kernel_rfl) (by kernel_rfl) (fun _ _ _ h => h) (Or.inl ⟨by rfl, ?_⟩) HS0 ?_
        rotate_left
        · (intro wy hSw; obtain ⟨q0, q1⟩ := hSw; go_simp; try with_reducible rfl)
        try simp only [Act.put]
        refine wpAnyE_take (i := 7) (v := ?_) rfl (by kernel_rfl) (by kernel_rfl) (by kernel_rfl) (by kernel_rfl) (fun _ _ _ h => h) (Or.inl ⟨by rfl, ?_⟩) HS0 ?_
        rotate_left
        · (intro wy hSw; obtain ⟨q0, q1⟩ := hSw; go_simp; try with_reducible rfl)
        try simp only [Act.put]
        refine wpAnyE_take (i := 8) (v := ?_) rfl (by kernel_rfl) (by kernel_rfl) (by kernel_rfl) (by kernel_rfl) (fun _ _ _ h => h) (Or.inl ⟨by rfl, ?_⟩) HS0 ?_
        rotate_left
        · (intro wy hSw; obtain ⟨q0, q1⟩ := hSw; go_simp; try with_reducible rfl)
        try simp only [Act.put]
        refine wpAnyE_take (i := 10) (v := ?_) rfl (by kernel_rfl) (by kernel_rfl) (by kernel_rfl) (by kernel_rfl) (fun _ _ _ h => h) (Or.inl ⟨by rfl, ?_⟩) HS0 ?_
        rotate_left
        · (intro wy hSw; obtain ⟨q0, q1⟩ := hSw; go_simp; try with_reducible rfl)
        try simp only [Act.put]
        refine wpAnyE_one (i := 9) (by kernel_rfl) rfl (fun K hK => ?_)
        go_simp
        have HN := Lib.hid (own_empty V)
        obtain ⟨V1, hV1⟩ : ∃ V1, V.alloc (.cells #[] 5) = V1 := ⟨_, rfl⟩
        have hb1 : Below V.heap.size V V1 := by rw [← hV1]; exact (Below.refl _ _).alloc (Nat.le_refl _) _
        rw [hV1] at HN ⊢
        have HS1 : AddS lb (.int .i64 (nx : Int)) (.slice x.WA x.W.length x.wc) V1 := ⟨(hb1.cell (p := ⟨lb, 3, none⟩) hlv).trans HS0.1, (hb1.cell (p := ⟨lb, 4, none⟩) hlv).trans HS0.2⟩
        have HB1 := Lib.hid hb1
        have hz1 : V1.heap.size = V.heap.size + 1 := by rw [← hV1]; simp
        have HZ1 := Lib.hid hz1
        refine hK _ _ HS1 ?_
        clear hK K hb1 hV1 hz1
        try simp only [Act.put]
        refine wpAnyE_one (i := 11) (by kernel_rfl) rfl (fun K hK => ?_)
        refine step_append_be V1 (by rfl) (some 29) (by rfl) (.tmp 27) (.tmp 28) bt (by rfl) V.heap.size (some ⟨V.heap.size, 0, none⟩) 0 [] (by rfl) HN.out V.heap.size bA b.length bc b (by rfl) rfl (HRY.out.below HB1.out (Nat.le_refl _)) (by simp only [List.length_nil]; omega) (by rw [HZ1.out]; omega) ?_
        intro A8 c8 L8 w8 hl8 ho8 hg8 hat8
        rw [List.nil_append] at hl8
        have HO8 := Lib.hid ho8
        have HB8 := Lib.hid (HB1.out.grown hg8 (by rw [HZ1.out]; omega) (fun g e => by injection e with e; exact Nat.le_of_eq e))
        have HL8 := Lib.hid hl8
        have HS8 : AddS lb (.int .i64 (nx : Int)) (.slice x.WA x.W.length x.wc) w8 := ⟨(HB8.out.cell (p := ⟨lb, 3, none⟩) hlv).trans HS0.1, (HB8.out.cell (p := ⟨lb, 4, none⟩) hlv).trans HS0.2⟩
        have hlw : lb < w8.heap.size := Nat.lt_of_lt_of_le hlv HB8.out.size
        refine hK _ _ HS8 ?_
        clear hK K HS1 hl8 ho8 hg8 hat8
        try simp only [Act.put]
        refine wpAnyE_one (i := 12) (by kernel_rfl) rfl (fun K hK => ?_)
        go_simp
        refine hK _ _ HS8 ?_
        clear hK K
        try simp only [Act.put]
        refine wpAnyE_one (i := 13) (by kernel_rfl) rfl (fun K hK => ?_)
        go_simp
        obtain ⟨V2, hV2⟩ : ∃ V2, w8.alloc (.cells #[.int .i64 (nx : Int), .slice A8 L8.length c8] 99) = V2 := ⟨_, rfl⟩
        have hb2 : Below w8.heap.size w8 V2 := by rw [← hV2]; exact (Below.refl _ _).alloc (Nat.le_refl _) _
        have HB2 := Lib.hid hb2
        have HRD : Hid (RdS Wal.Bv.cells 2 V2 (w8.heap.size + 1) (some ⟨w8.heap.size, 0, none⟩) [(⟨nx, A8, c8, L8⟩ : Wal.Bv)]) := Lib.hid (by rw [← hV2]; exact rd_one (fun _ => rfl) w8 (⟨nx, A8, c8, L8⟩ : Wal.Bv) _)
        have HBW : Hid (Below w.heap.size w V2) := Lib.hid ((HBV.out.trans (HB8.out.mono HBV.out.size)).trans (hb2.mono (Nat.le_trans HBV.out.size HB8.out.size)))
        have HL2 := Lib.hid (H.out.below HBW.out)
        have HS2 : AddS lb (.int .i64 (nx : Int)) (.slice x.WA x.W.length x.wc) V2 := ⟨(hb2.cell (p := ⟨lb, 3, none⟩) hlw).trans HS8.1, (hb2.cell (p := ⟨lb, 4, none⟩) hlw).trans HS8.2⟩
        rw [hV2]
        refine hK _ _ HS2 ?_
        clear hK K HS8 hb2 hV2 HS0
        try simp only [Act.put]
        refine wpAnyE_one (i := 14) (by kernel_rfl) rfl (fun K hK => ?_)
        refine step_append_sd V2 (by rfl) (some 32) (by rfl) (.tmp 22) (.tmp 31) rbT (by rfl) base x.WA x.wc x.W (by rfl) HL2.out.wrow (w8.heap.size + 1) (some ⟨w8.heap.size, 0, none⟩) 1 1 [(⟨nx, A8, c8, L8⟩ : Wal.Bv)] (by rfl) rfl HRD.out (by simp only [List.length_cons, List.length_nil]; omega) (by simp only [List.length_cons, List.length_nil]; unfold maxLen; omega) HL2.out.st.bs ?_
        intro A9 c9 L9 w9 hl9 ho9 hg9 hat9
        have hR8 : Rby V2 base A8 L8 := (Rby.own (HO8.out) (Nat.le_trans H.out.st.bs HBV.out.size)).below HB2.out
        have hadd := H.out.added HBW.out (A8 := A8) (c8 := c8) (b := L8) hR8 (fun k e => Nat.le_trans HBV.out.size (HO8.out.blk_ge k e).1) hg9 (by rw [← HNX.out, ← hl9]; exact ho9) (by rw [← HNX.out]; omega) (by rw [HL8.out]; omega) (.int .i64 ((nx : Int) + 1)) (by rw [HNX.out]; rfl)
        rw [← HNX.out, ← HLB.out, ← hl9] at hadd
        obtain ⟨hx9, hx10, hls, haf⟩ := hadd
        have HLS := Lib.hid hls
        have HAF := Lib.hid haf
        unfold lgObj at hx9 hx10
        rw [← HNX.out] at hx9
        have z4 : w9.cell? ⟨lb, 4, none⟩ = some (.slice x.WA l.waiting.length x.wc) := by rw [cell_of_row w9 lb 4 _ _ (0, 0) hx9]; rfl
        have z3 : w9.cell? ⟨lb, 3, none⟩ = some (.int .i64 (nx : Int)) := by rw [cell_of_row w9 lb 3 _ _ (0, 0) hx9]; rfl
        have hwe : l.waiting.length = x.W.length := by rw [← H.out.wbt, List.length_map]
        rw [hwe] at z4
        have f4 := frozen_of_row w9 lb 4 _ _ hx9
        have HS9 : AddS lb (.int .i64 (nx : Int)) (.slice x.WA x.W.length x.wc) w9 := ⟨z3, z4⟩
        have y3 := cell_of_row _ lb 3 _ _ (0, 0) hx10
        have g3 := frozen_of_row _ lb 3 _ _ hx10
        have y5 : ∀ v : Value, ((w9.setCell ⟨lb, 4, none⟩ (.slice A9 L9.length c9)).setCell ⟨lb, 3, none⟩ v).cell? ⟨lb, 3, none⟩ = some v := fun v => by rw [cell_of_row _ lb 3 _ _ (0, 0) (heap_set6 hx10 v).2.1]; rfl
        simp at y3
        obtain ⟨n9, hn9⟩ : ∃ n9, n9 = L9.length := ⟨_, rfl⟩
        rw [← hn9] at HLS HAF y3 y5 g3 ⊢
        refine hK _ _ HS9 ?_
        clear hK K HS2 hl9 ho9 hg9 hat9 hx9 hx10 hls haf hR8 hn9 hwe
        try simp only [Act.put]
        refine wpAnyE_one (i := 15) (by kernel_rfl) rfl (fun K hK => ?_)
        go_simp
        refine hK _ _ HS9 ?_
        clear hK K
        refine wpAnyE_one (i := 16) (by kernel_rfl) rfl (fun K hK => ?_)
        go_simp
        refine hK _ _ HS9 ?_
        clear hK K
        refine wpAnyE_last (by kernel_rfl) (by kernel_rfl) rfl (fun K hK => ?_)
        go_simp
        refine hK _ _ ?_
        clear hK K HS9 z3 z4 f4
        have ew : IntKind.i64.wrap ((nx : Int) + 1) = ((nx + 1 : Nat) : Int) := by rw [IntKind.wrap_i64]; omega
        have ew2 : IntKind.i64.wrap (((nx + 1 : Nat) : Int) - 1) = (nx : Int) := by rw [IntKind.wrap_i64]; omega
        go_wp2_with fail
        go_ret2
        rw [HE.out]
        have hls := HLS.out
        have haf := HAF.out
        rw [HL8.out] at hls
        exact ⟨rfl, ⟨lb, A9, c9, L9⟩, HLB.out, hls, haf⟩
  · go_wp2_with fail
    go_ret2
    rw [HE.out]
    rw [if_pos trivial]
    exact ⟨rfl, x, rfl, H.out, Aft.refl _ _ _⟩
end
end Ref
end Go.Proofs.YtaiokogbhfliiaaGreatDoor

namespace Go.Proofs.YtaiokogbhfliiaaGreatDoor
open Go.RowKit Go.Maps

namespace Ref
section
variable {w w' : World} {base g : Nat} {s s' : Sto.St} {m m' : Mem} {l l' : Wal.Lg} {x : Lm}
theorem LS.setBroken (h : LS w base g s m l x) : LS (w.setCell ⟨x.lb, 5, none⟩ (.bool true)) base g s m { l with broken := true } x ∧ Aft turnsM w (w.setCell ⟨x.lb, 5, none⟩ (.bool true)) base (LRow m x) (LRow m x) := by
  have hok := h.ok
  refine h.turn 5 (.bool true) ?_ rfl ⟨hok.limit, hok.last, hok.size, hok.next, hok.wait, hok.one⟩
  have h9 := h.box
  unfold lgObj at h9 ⊢
  exact (heap_set6 h9 _).2.2.2
theorem LS.setNext (h : LS w base g s m l x) (n : Nat) (h1 : l.next ≤ n) (h2 : n ≤ 1099511627777) : LS (w.setCell ⟨x.lb, 3, none⟩ (.int .i64 (n : Int))) base g s m { l with next := n } x ∧ Aft turnsM w (w.setCell ⟨x.lb, 3, none⟩ (.int .i64 (n : Int))) base (LRow m x) (LRow m x) := by
  have hok := h.ok
  refine h.turn 3 (.int .i64 (n : Int)) ?_ rfl ⟨hok.limit, hok.last, hok.size, ⟨Nat.le_trans hok.next.1 h1, h2⟩, Nat.lt_of_lt_of_le hok.wait h1, hok.one⟩
  have h9 := h.box
  unfold lgObj at h9 ⊢
  exact (heap_set6 h9 _).2.1
/-- A log that an error breaks. -/
def brk (l : Wal.Lg) (c : Int) : Wal.Lg := if c = 0 then l else { l with broken := true }
set_option maxHeartbeats 1000000 in
set_option maxRecDepth 100000 in
theorem broke_any (h : LS w base g s m l x) (c : Int) : Calls Tryz.prog 111 #[.pointer (some ⟨x.lb, 0, none⟩), .int .i64 c] w (LOp w base g m x (c, s, brk l c)) := by
  have H := Lib.hid h
  have f5 := h.frozen 5
  obtain ⟨_, _, _, _, _, c5⟩ := h.cells
  obtain ⟨b, hb⟩ : ∃ b, b = x.lb := ⟨_, rfl⟩
  rw [← hb] at c5 f5 ⊢
  have HB := Lib.hid hb
  clear h hb
  go_enter Tryz.func111, Tryz.ntmps111
  by_cases h0 : c = 0
  · have HE : Hid (brk l c = l) := Lib.hid (if_pos h0)
    subst h0
    go_wp2_with fail
    go_ret
    rw [HE.out]
    exact ⟨rfl, m, H.out, Aft.refl _ _ _⟩
  · have HE : Hid (brk l c = { l with broken := true }) := Lib.hid (if_neg h0)
    have e1 : (c == 0) = false := by simpa using h0
    have e2 : (c != 0) = true := by simpa using h0
    have HS := Lib.hid H.out.setBroken
    rw [← HB.out] at HS
    clear h0
    go_wp2_with fail
    go_ret
    rw [HE.out]
    exact ⟨rfl, m, HS.out.1, HS.out.2⟩
set_option maxHeartbeats 1000000 in
set_option maxRecDepth 100000 in
theorem skip_any (h : LS w base g s m l x) (n : Int) : Calls Tryz.prog 82 #[.pointer (some ⟨x.lb, 0, none⟩), .int .i64 n] w (LOp w base g m x ((Wal.skip l n).1, s, (Wal.skip l n).2)) := by
  have H := Lib.hid h
  obtain ⟨_, _, _, c3, c4, c5⟩ := h.cells
  have f3 := h.frozen 3
  obtain ⟨o, ho⟩ : ∃ o, o = l.broken := ⟨_, rfl⟩
  rw [← ho] at c5
  have HO := Lib.hid ho
  obtain ⟨b, hb⟩ : ∃ b, b = x.lb := ⟨_, rfl⟩
  rw [← hb] at c3 c4 c5 f3 ⊢
  have HB := Lib.hid hb
  obtain ⟨z, hz⟩ : ∃ z, z = l.waiting.length := ⟨_, rfl⟩
  rw [← hz] at c4
  have HZ := Lib.hid hz
  obtain ⟨N, hN⟩ : ∃ N, N = l.next := ⟨_, rfl⟩
  rw [← hN] at c3
  have HN := Lib.hid hN
  have hNb := h.ok.next
  rw [← hN] at hNb
  clear h ho hb hz hN
  go_enter Tryz.func82, Tryz.ntmps82
  rcases o with _ | _
  · by_cases h1 : n < 1
    · have HE := Lib.hid (Wal.skip_bad (l := l) n HO.out.symm (.inl h1))
      go_wp2_with fail
      go_ret
      rw [HE.out]
      exact ⟨rfl, m, H.out, Aft.refl _ _ _⟩
    · by_cases h2 : (1099511627776 : Int) < n
      · have HE := Lib.hid (Wal.skip_bad (l := l) n HO.out.symm (.inr h2))
        go_wp2_with fail
        go_ret
        rw [HE.out]
        exact ⟨rfl, m, H.out, Aft.refl _ _ _⟩
      · by_cases h3 : 0 < (z : Int)
        · have HE := Lib.hid (Wal.skip_wait (l := l) n HO.out.symm (by omega) (fun e => by have := HZ.out; rw [e] at this; simp at this; omega))
          go_wp2_with fail
          go_ret
          rw [HE.out]
          exact ⟨rfl, m, H.out, Aft.refl _ _ _⟩
        · have HE := Lib.hid (Wal.skip_ok (l := l) n HO.out.symm (by omega) (List.eq_nil_of_length_eq_zero (by rw [← HZ.out]; omega)))
          obtain ⟨k, rfl⟩ := Int.eq_ofNat_of_zero_le (show 0 ≤ n by omega)
          obtain ⟨u, hu⟩ : ∃ u, u = max N k := ⟨_, rfl⟩
          have hmx : max (N : Int) (k : Int) = (u : Int) := by omega
          have HU : Hid (u = max l.next k) := Lib.hid (by rw [hu, HN.out])
          have HS := Lib.hid (H.out.setNext u (by rw [← HN.out]; omega) (by omega))
          rw [← HB.out] at HS
          clear hu
          go_wp2_with fail
          go_ret
          rw [HE.out, Int.toNat_natCast, ← HU.out]
          exact ⟨rfl, m, HS.out.1, HS.out.2⟩
  · have HE : Hid (Wal.skip l n = (9, l)) := Lib.hid (by unfold Wal.skip; rw [← HO.out]; rfl)
    go_wp2_with fail
    go_ret
    rw [HE.out]
    exact ⟨rfl, m, H.out, Aft.refl _ _ _⟩
end
end Ref
end Go.Proofs.YtaiokogbhfliiaaGreatDoor

namespace Go.Proofs.YtaiokogbhfliiaaGreatDoor
open Go.RowKit Go.Maps

namespace Ref
/-- What an operation of the log comes to that may turn what waits. -/
def LOx (w : World) (base g : Nat) (m : Mem) (x : Lm) (r : Int × Sto.St × Wal.Lg) (e : Ending) (w' : World) : Prop := e = .returned (.int .i64 r.1) ∧ ∃ m' x', x'.lb = x.lb ∧ LS w' base g r.2.1 m' r.2.2 x' ∧ Aft turnsM w w' base (LRow m x) (LRow m' x')
/-- The log's last file is there, and as long as the log says. -/
def Tip (s : Sto.St) (l : Wal.Lg) : Prop := l.broken = false → s.off = false → ∃ b, Sto.read s (Wal.name l.last) = (0, b) ∧ b.length = l.size
section
variable {w w' : World} {base g : Nat} {s s' : Sto.St} {m m' : Mem} {l l' : Wal.Lg} {x : Lm}
theorem LOx.of {r : Int × Sto.St × Wal.Lg} {e : Ending} (h : LOp w base g m x r e w') : LOx w base g m x r e w' := by
  obtain ⟨h1, m', h2, h3⟩ := h
  exact ⟨h1, m', x, rfl, h2, h3⟩
theorem room_wait : (Wal.room s l).2.2.waiting = l.waiting := by
  unfold Wal.room
  split
  · rfl
  · split
    · rfl
    · exact Wal.mk_lg.2.1
theorem room_size (h : (Wal.room s l).1 = 0) (hl : l.limit ≤ 65536) : (Wal.room s l).2.2.size ≤ 65536 := by
  unfold Wal.room at h ⊢
  split
  · rename_i ho
    rw [if_pos ho] at h
    cases h
  · rename_i ho
    rw [if_neg ho] at h
    split
    · simp only; omega
    · rename_i hs
      rw [if_neg hs] at h
      have := Wal.mk_lg.2.2.2.2 h
      omega
/-- What waits is taken away. -/
theorem LS.emptied (h : LS w base g s m l x) (n : Nat) (hn : n ≤ 20000000) : LS (w.setCell ⟨x.lb, 4, none⟩ (.slice none 0 0)) base g s m { l with size := n, waiting := [] } ⟨x.lb, none, 0, []⟩ ∧ Aft turnsM w (w.setCell ⟨x.lb, 4, none⟩ (.slice none 0 0)) base (LRow m x) (LRow m ⟨x.lb, none, 0, []⟩) := by
  have hok := h.ok
  have hne : ∀ k T, Sto.Tag w k T → T ≠ 95 → (w.setCell ⟨x.lb, 4, none⟩ (.slice none 0 0)).heap[k]? = w.heap[k]? := fun k T t hT => heap_setCell_other w ⟨x.lb, 4, none⟩ k _ (t.ne h.tag hT)
  refine ⟨⟨⟨(hne g _ h.st.gt (by decide)).trans h.st.box, h.st.r.keep (by simp) (fun k T t _ hT _ => hne k T t (fun e => by rw [e] at hT; revert hT; decide))⟩, ?_, h.lbb, OwnS.nil _ _ _, rfl, (fun u hu => by cases hu), ⟨hok.limit, hok.last, hn, hok.next, ?_, (fun u hu => by cases hu)⟩⟩, ?_⟩
  · have h9 := h.box
    unfold lgObj at h9 ⊢
    exact (heap_set6 h9 _).2.2.1
  · have := hok.next.1
    simp only [List.length_nil]; omega
  · exact (Aft.grown (row := some x.lb) (Sto.grownBy_setS w ⟨x.lb, 4, none⟩ _) (fun k e _ => by injection e with e; subst e; exact ⟨h.lbb, _, by decide, h.tag⟩) (LRow m x)).rows (fun k _ hr => by
      rcases hr with hr | ⟨u, hu, _⟩
      · exact .inl hr
      · cases hu)
def WaitS (lb b off k : Nat) (v4 v0 v1 : Value) (W : World) : Prop := W.cell? ⟨lb, 4, none⟩ = some v4 ∧ W.cell? ⟨b, off + k * 2, none⟩ = some v0 ∧ W.cell? ⟨b, off + k * 2 + 1, none⟩ = some v1
set_option maxHeartbeats 20000000 in
set_option maxRecDepth 100000 in
theorem commit_any (h : LS w base g s m l x) (hf : s.files.length ≤ 800000) (hk : s.kept.length ≤ 900000) (hw : l.waiting.length ≤ 1000) (ht : Tip s l) :
    Calls Tryz.prog 80 #[.pointer (some ⟨x.lb, 0, none⟩)] w (LOx w base g m x (Wal.commit s l)) := by
  have H := Lib.hid h
  have HT := Lib.hid ht
  obtain ⟨c0, _, c2, _, c4, c5⟩ := h.cells
  obtain ⟨lb, hlb⟩ : ∃ lb, lb = x.lb := ⟨_, rfl⟩
  obtain ⟨o, ho⟩ : ∃ o, o = l.broken := ⟨_, rfl⟩
  obtain ⟨nw, hnw⟩ : ∃ nw, nw = l.waiting.length := ⟨_, rfl⟩
  obtain ⟨z, hz⟩ : ∃ z, z = l.last := ⟨_, rfl⟩
  rw [← hlb] at c0 c2 c4 c5 ⊢
  rw [← ho] at c5
  rw [← hnw] at c4 hw
  rw [← hz] at c2
  have HLB := Lib.hid hlb
  have HO := Lib.hid ho
  have HNW := Lib.hid hnw
  have HZ := Lib.hid hz
  have hzb : z ≤ 999999 := by rw [hz]; exact h.ok.last
  have hlz : lb < w.heap.size := by rw [hlb]; exact h.tag.lt
  clear h ht hlb ho hnw hz
  go_enter Tryz.func80, Tryz.ntmps80
  rcases o with _ | _
  · by_cases h0 : nw = 0
    · have e0 : ((nw : Int) == 0) = true := by rw [h0]; rfl
      have HE : Hid (Wal.commit s l = (0, s, l)) := Lib.hid (by
        have h1 : l.waiting = [] := List.eq_nil_of_length_eq_zero (by rw [← HNW.out]; exact h0)
        unfold Wal.commit
        rw [if_neg (by rw [← HO.out]; simp), if_pos h1])
      go_wp2_with fail
      go_ret
      rw [HE.out]
      exact ⟨rfl, m, x, rfl, H.out, Aft.refl _ _ _⟩
    · have e0 : ((nw : Int) == 0) = false := by simp; omega
      have HC : Hid (Wal.commit s l = (let r := Wal.room s l
          if r.1 ≠ 0 then (r.1, r.2.1, { r.2.2 with broken := true }) else
          let a := Sto.append r.2.1 (Wal.name r.2.2.last) (Wal.bytes l.waiting)
          if a.1 ≠ 0 then (a.1, a.2, { r.2.2 with broken := true }) else
          let b := Sto.sync a.2 (Wal.name r.2.2.last)
          if b.1 ≠ 0 then (b.1, b.2, { r.2.2 with broken := true }) else
          (0, b.2, { r.2.2 with size := r.2.2.size + (Wal.bytes l.waiting).length, waiting := [] }))) := Lib.hid (by
        have h1 : l.waiting ≠ [] := fun e => h0 (by rw [HNW.out, e]; rfl)
        unfold Wal.commit
        rw [if_neg (by rw [← HO.out]; simp), if_neg h1])
      obtain ⟨N, hN⟩ : ∃ N, N = Wal.name z := ⟨_, rfl⟩
      have KN := Lib.hid (fun V => name_any z (by omega) V N hN)
      have HN := Lib.hid hN
      have hNl : N.length ≤ 9000000000000000 := by rw [hN]; exact name_len _
      clear hN h0
      go_wp2_with fail
      obtain ⟨V, hV⟩ : ∃ V, w.drew = V := ⟨_, rfl⟩
      have hbV : Below w.heap.size w V := by rw [← hV]; exact (Below.refl _ _).drew
      have HBV := Lib.hid hbV
      have HS0 : PtrS lb 2 (.pointer (some ⟨g, 0, none⟩)) (.int .i64 (z : Int)) V := ⟨(hbV.cell (p := ⟨lb, 0, none⟩) hlz).trans c0, (hbV.cell (p := ⟨lb, 2, none⟩) hlz).trans c2⟩
      refine wp_region_E 14 (PtrS lb 2 (.pointer (some ⟨g, 0, none⟩)) (.int .i64 (z : Int))) (by kernel_rfl) ?_
      rw [hV]
      clear hV hbV c0 c2 c4 c5
      refine wpAnyE_take (i := 0) (v := ?_) rfl (by kernel_rfl) (by kernel_rfl) (by kernel_rfl) (by kernel_rfl) (fun _ _ _ h => h) (Or.inl ⟨by rfl, ?_⟩) HS0 ?_
      rotate_left
      · (intro wy hSw; obtain ⟨q0, q1⟩ := hSw; go_simp; try with_reducible rfl)
      try simp only [Act.put, List.setIfInBounds_toArray]
      refine wpAnyE_take (i := 1) (v := ?_) rfl (by kernel_rfl) (by kernel_rfl) (by kernel_rfl) (by kernel_rfl) (fun _ _ _ h => h) (Or.inl ⟨by rfl, ?_⟩) HS0 ?_
      rotate_left
      · (intro wy hSw; obtain ⟨q0, q1⟩ := hSw; go_simp; try with_reducible rfl)
      try simp only [Act.put]
      refine wpAnyE_take (i := 2) (v := ?_) rfl (by kernel_rfl) (by kernel_rfl) (by kernel_rfl) (by kernel_rfl) (fun _ _ _ h => h) (Or.inl ⟨by rfl, ?_⟩) HS0 ?_
      rotate_left
      · (intro wy hSw; obtain ⟨q0, q1⟩ := hSw; go_simp; try with_reducible rfl)
      try simp only [Act.put]
      refine wpAnyE_take (i := 3) (v := ?_) rfl (by kernel_rfl) (by kernel_rfl) (by kernel_rfl) (by kernel_rfl) (fun _ _ _ h => h) (Or.inl ⟨by rfl, ?_⟩) HS0 ?_
      rotate_left
      · (intro wy hSw; obtain ⟨q0, q1⟩ := hSw; go_simp; try with_reducible rfl)
      try simp only [Act.put]
      refine wpAnyE_take (i := 4) (v := ?_) rfl (by kernel_rfl) (by kernel_rfl) (by kernel_rfl) (by kernel_rfl) (fun _ _ _ h => h) (Or.inl ⟨by rfl, ?_⟩) HS0 ?_
      rotate_left
      · (intro wy hSw; obtain ⟨q0, q1⟩ := hSw; go_simp; try with_reducible rfl)
      try simp only [Act.put]
      refine wpAnyE_take (i := 5) (v := ?_) rfl (by kernel_rfl) (by kernel_rfl) (by kernel_rfl) (by kernel_rfl) (fun _ _ _ h => h) (Or.inl ⟨by rfl, ?_⟩) HS0 ?_
      rotate_left
      · (intro wy hSw; obtain ⟨q0, q1⟩ := hSw; go_simp; try with_reducible rfl)
      try simp only [Act.put]
      refine wpAnyE_take (i := 6) (v := ?_) rfl (by kernel_rfl) (by kernel_rfl) (by kernel_rfl) (by kernel_rfl) (fun _ _ _ h => h) (Or.inl ⟨by rfl, ?_⟩) HS0 ?_
      rotate_left
      · (intro wy hSw; obtain ⟨q0, q1⟩ := hSw; go_simp; try with_reducible rfl)
      try simp only [Act.put]
      refine wpAnyE_take (i := 7) (v := ?_) rfl (by kernel_rfl) (by kernel_rfl) (by kernel_rfl) (by kernel_rfl) (fun _ _ _ h => h) (Or.inl ⟨by rfl, ?_⟩) HS0 ?_
      rotate_left
      · (intro wy hSw; obtain ⟨q0, q1⟩ := hSw; go_simp; try with_reducible rfl)
      try simp only [Act.put]
      refine wpAnyE_one (i := 8) (by kernel_rfl) rfl (fun K hK => ?_)
      go_simp
      refine (KN.out V).mono ?_
      rintro e w1 ⟨rfl, hb1⟩
      have HB1 := Lib.hid (HBV.out.trans (hb1.mono HBV.out.size))
      have HS1 : PtrS lb 2 (.pointer (some ⟨g, 0, none⟩)) (.int .i64 (z : Int)) w1 := ⟨(hb1.cell (p := ⟨lb, 0, none⟩) (Nat.lt_of_lt_of_le hlz HBV.out.size)).trans HS0.1, (hb1.cell (p := ⟨lb, 2, none⟩) (Nat.lt_of_lt_of_le hlz HBV.out.size)).trans HS0.2⟩
      have HL1 := Lib.hid (H.out.below HB1.out)
      have KR := Lib.hid (read_any N hNl HL1.out.st (by omega))
      unfold Sto.str at KR
      obtain ⟨rd, hrd⟩ : ∃ rd, rd = Sto.read s N := ⟨_, rfl⟩
      have HRD := Lib.hid hrd
      rw [← hrd] at KR
      obtain ⟨rc, rb⟩ := rd
      refine hK _ _ HS1 ?_
      clear hK K HS0 hb1 KN hrd
      try simp only [Act.put]
      refine wpAnyE_one (i := 9) (by kernel_rfl) rfl (fun K hK => ?_)
      go_simp
      refine KR.out.mono ?_
      rintro e w2 ⟨hb2, A2, c2, rfl, _⟩
      simp only
      have HB2 := Lib.hid (HB1.out.trans (hb2.mono HB1.out.size))
      have HS2 : PtrS lb 2 (.pointer (some ⟨g, 0, none⟩)) (.int .i64 (z : Int)) w2 := ⟨(hb2.cell (p := ⟨lb, 0, none⟩) (Nat.lt_of_lt_of_le hlz HB1.out.size)).trans HS1.1, (hb2.cell (p := ⟨lb, 2, none⟩) (Nat.lt_of_lt_of_le hlz HB1.out.size)).trans HS1.2⟩
      refine hK _ _ HS2 ?_
      clear hK K HS1 hb2 KR
      try simp only [Act.put]
      refine wpAnyE_one (i := 10) (by kernel_rfl) rfl (fun K hK => ?_)
      go_simp
      refine hK _ _ HS2 ?_
      clear hK K
      try simp only [Act.put]
      refine wpAnyE_take (i := 11) (v := ?_) rfl (by kernel_rfl) (by kernel_rfl) (by kernel_rfl) (by kernel_rfl) (fun _ _ _ h => h) (Or.inl ⟨by rfl, ?_⟩) HS2 ?_
      rotate_left
      · (intro wy hSw; obtain ⟨q0, q1⟩ := hSw; go_simp; try with_reducible rfl)
      try simp only [Act.put]
      refine wpAnyE_take (i := 12) (v := ?_) rfl (by kernel_rfl) (by kernel_rfl) (by kernel_rfl) (by kernel_rfl) (fun _ _ _ h => h) (Or.inl ⟨by rfl, ?_⟩) HS2 ?_
      rotate_left
      · (intro wy hSw; obtain ⟨q0, q1⟩ := hSw; go_simp; try with_reducible rfl)
      try simp only [Act.put]
      refine wpAnyE_one (i := 13) (by kernel_rfl) rfl (fun K hK => ?_)
      go_simp
      refine hK _ _ HS2 ?_
      clear hK K
      try simp only [Act.put]
      refine wpAnyE_last (by kernel_rfl) (by kernel_rfl) rfl (fun K hK => ?_)
      go_simp
      refine hK _ _ ?_
      clear hK K
      have HL2 := Lib.hid (H.out.below HB2.out)
      clear HS2
      obtain ⟨q, hq⟩ : ∃ q, q = s.off := ⟨_, rfl⟩
      have HQ := Lib.hid hq
      clear hq
      rcases q with _ | _
      · obtain ⟨b0, hb0, hb1⟩ := HT.out HO.out.symm HQ.out.symm
        rw [← HZ.out, ← HN.out, ← HRD.out] at hb0
        injection hb0 with hb0 hb2
        subst hb0 hb2
        have HSZ := Lib.hid hb1
        obtain ⟨_, c1, _, _, _, _⟩ := HL2.out.cells
        rw [← HLB.out] at c1
        obtain ⟨lm, hlm⟩ : ∃ lm, lm = l.limit := ⟨_, rfl⟩
        rw [← hlm] at c1
        have HLM := Lib.hid hlm
        clear hb1 hlm
        go_upto_if 43 with fail
        go_cut [] (fun wx => ∃ (s1 : Sto.St) (l1 : Wal.Lg) (m1 : Mem), Hid (LS wx base g s1 m1 l1 x) ∧ Hid (Aft turnsM w wx base (LRow m x) (LRow m1 x)) ∧ Hid (Wal.room s l = (0, s1, l1)))
        case first =>
          by_cases hsz : rb.length < lm
          · have hsz' : ¬ (lm : Int) ≤ (rb.length : Int) := by omega
            have HRO : Hid (Wal.room s l = (0, s, l)) := Lib.hid (by
              unfold Wal.room
              rw [if_neg (by rw [← HQ.out]; simp), if_pos (by rw [← HSZ.out, ← HLM.out]; exact hsz)])
            go_wp2_with fail
            go_meet
            exact ⟨s, l, m, HL2, Lib.hid (Aft.of_below HB2.out _), HRO⟩
          · have hsz' : (lm : Int) ≤ (rb.length : Int) := by omega
            have HRO : Hid (Wal.room s l = Wal.mk s l) := Lib.hid (by
              unfold Wal.room
              rw [if_neg (by rw [← HQ.out]; simp), if_neg (by rw [← HSZ.out, ← HLM.out]; exact hsz)])
            have KM := Lib.hid (make_any HL2.out hf hk)
            rw [← HLB.out] at KM
            obtain ⟨r, hr⟩ : ∃ r, r = Wal.mk s l := ⟨_, rfl⟩
            rw [← hr] at KM HRO
            obtain ⟨r0, s1, l1⟩ := r
            clear hr
            go_wp2_with fail
            refine KM.out.mono ?_
            rintro e w3 ⟨rfl, m3, hls3, haf3⟩
            simp only at hls3
            have HL3 := Lib.hid hls3
            have HA3 : Hid (Aft turnsM w w3 base (LRow m x) (LRow m3 x)) := Lib.hid ((Aft.of_below HB2.out _).trans haf3)
            clear hls3 haf3 KM
            by_cases hr0 : r0 = 0
            · subst hr0
              go_wp2_with fail
              go_meet
              exact ⟨s1, l1, m3, HL3, HA3, HRO⟩
            · have e1 : (r0 == 0) = false := by simpa using hr0
              have e2 : (r0 != 0) = true := by simpa using hr0
              have KB := Lib.hid (broke_any HL3.out r0)
              rw [← HLB.out] at KB
              have HE : Hid (Wal.commit s l = (r0, s1, { l1 with broken := true })) := Lib.hid (by rw [HC.out, HRO.out]; simp only; rw [if_pos hr0])
              have HBK : Hid (brk l1 r0 = { l1 with broken := true }) := Lib.hid (if_neg hr0)
              clear hr0
              go_wp2_with fail
              refine KB.out.mono ?_
              rintro e w4 ⟨rfl, m4, hls4, haf4⟩
              rw [HBK.out] at hls4
              have HL4 := Lib.hid hls4
              have HA4 := Lib.hid (HA3.out.trans haf4)
              clear hls4 haf4 KB
              go_wp2_with fail
              go_ret
              rw [HE.out]
              exact ⟨rfl, m4, x, rfl, HL4.out, HA4.out⟩
        case rest =>
          obtain ⟨s1, l1, m1, HLC, HAC, HRO⟩ := hcut

          have HW1 : Hid (l1.waiting = l.waiting) := Lib.hid (by
            have h9 := room_wait (s := s) (l := l)
            rw [HRO.out] at h9
            exact h9)
          have HSB : Hid (s1.files.length ≤ 800001 ∧ s1.kept.length ≤ 900001 ∧ l1.size ≤ 65536) := Lib.hid (by
            have h9 := Wal.room_sz (s := s) (l := l)
            have h8 := room_size (s := s) (l := l) (by rw [HRO.out]) H.out.ok.limit
            rw [HRO.out] at h9 h8
            simp only at h9 h8
            exact ⟨by omega, by omega, h8⟩)
          obtain ⟨_, _, _, _, c4, _⟩ := HLC.out.cells
          rw [HW1.out, ← HNW.out, ← HLB.out] at c4
          have HXW : Hid (x.W.length = nw) := Lib.hid (by rw [HNW.out, ← HW1.out, ← HLC.out.wbt, List.length_map])
          have HLT : Hid (lb < wc.heap.size) := Lib.hid (by rw [HLB.out]; exact HLC.out.tag.lt)
          have HBC : Hid (base ≤ wc.heap.size) := Lib.hid HLC.out.st.bs
          go_wp2_with fail
          go_loopw [5, 6] (fun al i wr => ∃ (k ac : Nat) (AA : Option Addr) (bs : List UInt8), k ≤ nw ∧ i = .int .i64 (k : Int) ∧ al = .slice AA bs.length ac ∧ bs.length ≤ k * 61000 ∧ Hid (bs = Wal.bytes (l.waiting.take k)) ∧ Hid (Own wr wc.heap.size 5 AA ac bs) ∧ Hid (Below wc.heap.size wc wr)) (fun _ i _ => nw - (intOf i).toNat)
          case atStart => exact ⟨0, 0, none, [], by omega, rfl, rfl, by simp, Lib.hid rfl, Lib.hid (Own.nil _ _ _), Lib.hid (Below.refl _ _)⟩
          case round =>
            obtain ⟨k, ac, AA, bs, hk, rfl, rfl, hbl, HBS, HOA, HBR⟩ := hrel
            have y4 := (HBR.out.cell (p := ⟨lb, 4, none⟩) HLT.out).trans c4
            by_cases hlt : k < nw
            · have hlt' : (k : Int) < (nw : Int) := by omega
              have hlw : k < x.W.length := by rw [HXW.out]; exact hlt
              obtain ⟨b, off, hA, hbk, hc⟩ := RdS.row (f := Wal.Bv.cells) (n := 2) (fun _ => rfl) (by omega) HLC.out.wrow.rd (by omega)
              have d0 := hc k hlw 0 _ rfl
              have d1 := hc k hlw 1 _ rfl
              rw [Nat.add_zero] at d0
              have hmem := List.getElem_mem hlw
              have hby := HLC.out.wby _ hmem
              have HTK : Hid (l.waiting.take (k + 1) = l.waiting.take k ++ [(x.W[k]).bt]) := Lib.hid (by
                have hk3 : k < l.waiting.length := by rw [← HNW.out]; exact hlt
                rw [List.take_succ_eq_append_getElem hk3]
                congr 2
                have h9 := HLC.out.wbt
                rw [HW1.out] at h9
                have h10 : l.waiting[k]? = (x.W.map Wal.Bv.bt)[k]? := by rw [h9]
                rw [List.getElem?_map, List.getElem?_eq_getElem hlw, List.getElem?_eq_getElem hk3] at h10
                simpa using h10)
              have hone := HLC.out.ok.one (x.W[k]).bt (by rw [← HLC.out.wbt]; exact List.mem_map_of_mem hmem)
              obtain ⟨v, hv⟩ : ∃ v : Wal.Bv, v = x.W[k] := ⟨_, rfl⟩
              rw [← hv] at d0 d1 hby HTK hone
              obtain ⟨vn, vA, vc, vb⟩ := v
              simp only [Wal.Bv.bt] at d0 d1 hby HTK hone
              have hvn : vn ≤ 1099511627776 := hone.1
              have hvb : vb.length ≤ 60000 := hone.2
              have HBY := Lib.hid hby
              obtain ⟨xA, hxA⟩ : ∃ xA, xA = x.WA := ⟨_, rfl⟩
              rw [← hxA] at hA y4
              subst hA
              obtain ⟨NB, hNB⟩ : ∃ NB, NB = Cod.number vn := ⟨_, rfl⟩
              have hnl := Cod.number_len (n := vn) (by omega)
              rw [← hNB] at hnl
              have KNU := Lib.hid (fun V => rnumber_any vn (by omega) V)
              rw [← hNB] at KNU
              have HNB := Lib.hid hNB
              have ew : IntKind.u64.wrap (vn : Int) = (vn : Int) := by rw [IntKind.wrap_u64]; omega
              have HCE : Hid (∀ V, Below wc.heap.size wc V → WaitS lb b off k (.slice (some ⟨b, off, none⟩) nw x.wc) (.int .i64 (vn : Int)) (.slice vA vb.length vc) V) := Lib.hid (fun V hV => ⟨(hV.cell (p := ⟨lb, 4, none⟩) HLT.out).trans (by rw [hxA]; exact c4), (hV.cell (p := ⟨b, off + k * 2, none⟩) hbk).trans d0, (hV.cell (p := ⟨b, off + k * 2 + 1, none⟩) hbk).trans d1⟩)
              clear hone hv hc hmem hby hNB hlw d0 d1 hxA
              go_wp2_with fail
              obtain ⟨V, hV⟩ : ∃ V, wr.drew = V := ⟨_, rfl⟩
              have hbV : Below wr.heap.size wr V := by rw [← hV]; exact (Below.refl _ _).drew
              have HBV := Lib.hid (HBR.out.trans (hbV.mono HBR.out.size))
              have HBW := Lib.hid hbV
              have HS0 := HCE.out _ HBV.out
              refine wp_region_E 24 (WaitS lb b off k (.slice (some ⟨b, off, none⟩) nw x.wc) (.int .i64 (vn : Int)) (.slice vA vb.length vc)) (by kernel_rfl) ?_
              rw [hV]
              clear hV hbV y4
              refine wpAnyE_take (i := 0) (v := ?_) rfl (by kernel_rfl) (by kernel_rfl) (by kernel_rfl) (by kernel_rfl) (fun _ _ _ h => h) (Or.inl ⟨by rfl, ?_⟩) HS0 ?_
              rotate_left
              · (intro wy hSw; obtain ⟨q4, q0, q1⟩ := hSw; go_simp; try with_reducible rfl)
              try simp only [Act.put, List.setIfInBounds_toArray]
              refine wpAnyE_take (i := 1) (v := ?_) rfl (by kernel_rfl) (by kernel_rfl) (by kernel_rfl) (by kernel_rfl) (fun _ _ _ h => h) (Or.inl ⟨by rfl, ?_⟩) HS0 ?_
              rotate_left
              · (intro wy hSw; obtain ⟨q4, q0, q1⟩ := hSw; go_simp; try with_reducible rfl)
              try simp only [Act.put]
              refine wpAnyE_take (i := 2) (v := ?_) rfl (by kernel_rfl) (by kernel_rfl) (by kernel_rfl) (by kernel_rfl) (fun _ _ _ h => h) (Or.inl ⟨by rfl, ?_⟩) HS0 ?_
              rotate_left
              · (intro wy hSw; obtain ⟨q4, q0, q1⟩ := hSw; go_simp; try with_reducible rfl)
              try simp only [Act.put]
              refine wpAnyE_take (i := 3) (v := ?_) rfl (by kernel_rfl) (by kernel_rfl) (by kernel_rfl) (by kernel_rfl) (fun _ _ _ h => h) (Or.inl ⟨by rfl, ?_⟩) HS0 ?_
              rotate_left
              · (intro wy hSw; obtain ⟨q4, q0, q1⟩ := hSw; go_simp; try with_reducible rfl)
              try simp only [Act.put]
              refine wpAnyE_take (i := 4) (v := ?_) rfl (by kernel_rfl) (by kernel_rfl) (by kernel_rfl) (by kernel_rfl) (fun _ _ _ h => h) (Or.inl ⟨by rfl, ?_⟩) HS0 ?_
              rotate_left
              · (intro wy hSw; obtain ⟨q4, q0, q1⟩ := hSw; go_simp; try with_reducible rfl)
              try simp only [Act.put]
              refine wpAnyE_take (i := 5) (v := ?_) rfl (by kernel_rfl) (by kernel_rfl) (by kernel_rfl) (by kernel_rfl) (fun _ _ _ h => h) (Or.inl ⟨by rfl, ?_⟩) HS0 ?_
              rotate_left
              · (intro wy hSw; obtain ⟨q4, q0, q1⟩ := hSw; go_simp; try with_reducible rfl)
              try simp only [Act.put]
              refine wpAnyE_take (i := 6) (v := ?_) rfl (by kernel_rfl) (by kernel_rfl) (by kernel_rfl) (by kernel_rfl) (fun _ _ _ h => h) (Or.inl ⟨by rfl, ?_⟩) HS0 ?_
              rotate_left
              · (intro wy hSw; obtain ⟨q4, q0, q1⟩ := hSw; go_simp; try with_reducible rfl)
              try simp only [Act.put]
              refine wpAnyE_take (i := 7) (v := ?_) rfl (by kernel_rfl) (by kernel_rfl) (by kernel_rfl) (by kernel_rfl) (fun _ _ _ h => h) (Or.inl ⟨by rfl, ?_⟩) HS0 ?_
              rotate_left
              · (intro wy hSw; obtain ⟨q4, q0, q1⟩ := hSw; go_simp; try with_reducible rfl)
              try simp only [Act.put]
              refine wpAnyE_take (i := 8) (v := ?_) rfl (by kernel_rfl) (by kernel_rfl) (by kernel_rfl) (by kernel_rfl) (fun _ _ _ h => h) (Or.inl ⟨by rfl, ?_⟩) HS0 ?_
              rotate_left
              · (intro wy hSw; obtain ⟨q4, q0, q1⟩ := hSw; go_simp; try with_reducible rfl)
              try simp only [Act.put]
              refine wpAnyE_take (i := 10) (v := ?_) rfl (by kernel_rfl) (by kernel_rfl) (by kernel_rfl) (by kernel_rfl) (fun _ _ _ h => h) (Or.inl ⟨by rfl, ?_⟩) HS0 ?_
              rotate_left
              · (intro wy hSw; obtain ⟨q4, q0, q1⟩ := hSw; go_simp; try with_reducible rfl)
              try simp only [Act.put]
              refine wpAnyE_take (i := 11) (v := ?_) rfl (by kernel_rfl) (by kernel_rfl) (by kernel_rfl) (by kernel_rfl) (fun _ _ _ h => h) (Or.inl ⟨by rfl, ?_⟩) HS0 ?_
              rotate_left
              · (intro wy hSw; obtain ⟨q4, q0, q1⟩ := hSw; go_simp; try with_reducible rfl)
              try simp only [Act.put]
              refine wpAnyE_take (i := 12) (v := ?_) rfl (by kernel_rfl) (by kernel_rfl) (by kernel_rfl) (by kernel_rfl) (fun _ _ _ h => h) (Or.inl ⟨by rfl, ?_⟩) HS0 ?_
              rotate_left
              · (intro wy hSw; obtain ⟨q4, q0, q1⟩ := hSw; go_simp; try with_reducible rfl)
              try simp only [Act.put]
              refine wpAnyE_take (i := 13) (v := ?_) rfl (by kernel_rfl) (by kernel_rfl) (by kernel_rfl) (by kernel_rfl) (fun _ _ _ h => h) (Or.inl ⟨by rfl, ?_⟩) HS0 ?_
              rotate_left
              · (intro wy hSw; obtain ⟨q4, q0, q1⟩ := hSw; go_simp; try with_reducible rfl)
              try simp only [Act.put]
              refine wpAnyE_take (i := 14) (v := ?_) rfl (by kernel_rfl) (by kernel_rfl) (by kernel_rfl) (by kernel_rfl) (fun _ _ _ h => h) (Or.inl ⟨by rfl, ?_⟩) HS0 ?_
              rotate_left
              · (intro wy hSw; obtain ⟨q4, q0, q1⟩ := hSw; go_simp; try with_reducible rfl)
              try simp only [Act.put]
              refine wpAnyE_take (i := 15) (v := ?_) rfl (by kernel_rfl) (by kernel_rfl) (by kernel_rfl) (by kernel_rfl) (fun _ _ _ h => h) (Or.inl ⟨by rfl, ?_⟩) HS0 ?_
              rotate_left
              · (intro wy hSw; obtain ⟨q4, q0, q1⟩ := hSw; go_simp; try with_reducible rfl)
              try simp only [Act.put]
              refine wpAnyE_take (i := 16) (v := ?_) rfl (by kernel_rfl) (by kernel_rfl) (by kernel_rfl) (by kernel_rfl) (fun _ _ _ h => h) (Or.inl ⟨by rfl, ?_⟩) HS0 ?_
              rotate_left
              · (intro wy hSw; obtain ⟨q4, q0, q1⟩ := hSw; go_simp; try with_reducible rfl)
              try simp only [Act.put]
              refine wpAnyE_take (i := 17) (v := ?_) rfl (by kernel_rfl) (by kernel_rfl) (by kernel_rfl) (by kernel_rfl) (fun _ _ _ h => h) (Or.inl ⟨by rfl, ?_⟩) HS0 ?_
              rotate_left
              · (intro wy hSw; obtain ⟨q4, q0, q1⟩ := hSw; go_simp; try with_reducible rfl)
              try simp only [Act.put]
              refine wpAnyE_one (i := 9) (by kernel_rfl) rfl (fun K hK => ?_)
              go_simp
              refine (KNU.out V).mono ?_
              rintro e w3 ⟨A3, c3, rfl, ho3, hb3⟩
              have HO3 := Lib.hid ho3
              have HV3 := Lib.hid hb3
              have HB3 := Lib.hid (HBV.out.trans (hb3.mono HBV.out.size))
              have HS3 := HCE.out _ HB3.out
              refine hK _ _ HS3 ?_
              clear hK K HS0 ho3 hb3 KNU
              try simp only [Act.put]
              refine wpAnyE_one (i := 18) (by kernel_rfl) rfl (fun K hK => ?_)
              refine step_append_be w3 (by rfl) (some 79) (by rfl) (.tmp 70) (.tmp 78) bt (by rfl) V.heap.size A3 c3 NB (by rfl) HO3.out V.heap.size vA vb.length vc vb (by rfl) rfl (((HBY.out.below HBV.out).rd).below HV3.out (Nat.le_refl _)) (by omega) HV3.out.size ?_
              intro A4 c4_ L4 w4 hl4 ho4 hg4 hat4
              have HO4 := Lib.hid ho4
              have HV4 := Lib.hid (HV3.out.grown hg4 HV3.out.size (fun g e => (HO3.out.blk_ge g e).1))
              have HB4 := Lib.hid (HBV.out.trans (HV4.out.mono HBV.out.size))
              have HS4 := HCE.out _ HB4.out
              have hl4' : L4.length ≤ 65536 := by rw [hl4, List.length_append]; omega
              have KP := Lib.hid (rfput_yes 66 A4 c4_ L4 w4 ho4.rd hl4')
              rw [show ((66 : UInt8).toNat : Int) = 66 from rfl] at KP
              have HL4 := Lib.hid hl4
              refine hK _ _ HS4 ?_
              clear hK K HS3 hl4 ho4 hg4 hat4
              try simp only [Act.put]
              refine wpAnyE_one (i := 19) (by kernel_rfl) rfl (fun K hK => ?_)
              go_simp
              refine KP.out.mono ?_
              rintro e w5 ⟨A5, c5, rfl, ho5, hb5⟩
              have HV5 := Lib.hid (HV4.out.trans (hb5.mono HV4.out.size))
              have HB5 := Lib.hid (HBV.out.trans (HV5.out.mono HBV.out.size))
              have HS5 := HCE.out _ HB5.out
              obtain ⟨P, hP⟩ : ∃ P, P = Frm.put 66 L4 := ⟨_, rfl⟩
              have HPE : Hid (P = Wal.one (vn, vb)) := Lib.hid (by rw [hP, HL4.out, HNB.out]; rfl)
              have hpl : P.length ≤ 61000 := by
                have h9 := Wal.bytes_len [(vn, vb)] (fun q hq => by rw [List.mem_singleton] at hq; subst hq; exact ⟨hvn, hvb⟩)
                unfold Wal.bytes at h9
                rw [HPE.out]
                simpa using h9
              rw [← hP] at ho5 ⊢
              have HR5 := Lib.hid ho5.rd
              have HBW5 := Lib.hid (HBW.out.trans (HV5.out.mono HBW.out.size))
              refine hK _ _ HS5 ?_
              clear hK K HS4 ho5 hb5 KP hP hl4'
              try simp only [Act.put]
              refine wpAnyE_one (i := 20) (by kernel_rfl) rfl (fun K hK => ?_)
              go_simp
              refine hK _ _ HS5 ?_
              clear hK K
              try simp only [Act.put]
              refine wpAnyE_take (i := 21) (v := ?_) rfl (by kernel_rfl) (by kernel_rfl) (by kernel_rfl) (by kernel_rfl) (fun _ _ _ h => h) (Or.inl ⟨by rfl, ?_⟩) HS5 ?_
              rotate_left
              · (intro wy hSw; obtain ⟨q4, q0, q1⟩ := hSw; go_simp; try with_reducible rfl)
              try simp only [Act.put]
              refine wpAnyE_take (i := 22) (v := ?_) rfl (by kernel_rfl) (by kernel_rfl) (by kernel_rfl) (by kernel_rfl) (fun _ _ _ h => h) (Or.inl ⟨by rfl, ?_⟩) HS5 ?_
              rotate_left
              · (intro wy hSw; obtain ⟨q4, q0, q1⟩ := hSw; go_simp; try with_reducible rfl)
              try simp only [Act.put]
              refine wpAnyE_one (i := 23) (by kernel_rfl) rfl (fun K hK => ?_)
              go_simp
              refine hK _ _ HS5 ?_
              clear hK K
              try simp only [Act.put]
              refine wpAnyE_last (by kernel_rfl) (by kernel_rfl) rfl (fun K hK => ?_)
              go_simp
              refine hK _ _ ?_
              clear hK K HS5
              go_wp2_with (at_builtin; refine wpList_append_b _ rfl _ _ bt rfl wc.heap.size AA ac bs rfl (HOA.out.below HBW5.out) w5.heap.size A5 P.length c5 P rfl rfl HR5.out (by omega) HB5.out.size ?_; intro A6 c6 L6 w6 hl6 ho6 hg6 hat6; have HL6 := Lib.hid hl6; have HO6 := Lib.hid ho6; have HB6 := Lib.hid (HB5.out.grown hg6 HB5.out.size (fun g e => (HOA.out.blk_ge g e).1)); have hl6' : L6.length ≤ (k + 1) * 61000 := (by rw [hl6, List.length_append]; omega); clear hl6 ho6 hg6 hat6)
              exact ⟨⟨k + 1, c6, A6, L6, hlt, by simp, rfl, hl6', Lib.hid (by rw [HL6.out, HTK.out, Wal.bytes_snoc, ← HBS.out, HPE.out]), HO6, HB6⟩, by simp only [intOf]; omega⟩
            · have hlt' : ¬ (k : Int) < (nw : Int) := by omega
              have HBB : Hid (bs = Wal.bytes l.waiting) := Lib.hid (by rw [HBS.out, List.take_of_length_le (by rw [← HNW.out]; omega)])
              have hbs : bs.length ≤ 61000000 := by
                have : k * 61000 ≤ 1000 * 61000 := Nat.mul_le_mul_right _ (by omega)
                omega
              have HLR := Lib.hid (HLC.out.below HBR.out)
              have HAR := Lib.hid (HAC.out.trans (Aft.of_below HBR.out (LRow m1 x)))
              have HRB : Hid (Rby wr base AA bs) := Lib.hid (Rby.own HOA.out HBC.out)
              have HLR2 : Hid (lb < wr.heap.size) := Lib.hid (Nat.lt_of_lt_of_le HLT.out HBR.out.size)
              obtain ⟨z1, hz1⟩ : ∃ z1, z1 = l1.last := ⟨_, rfl⟩
              have HZ1 := Lib.hid hz1
              have hzb1 : z1 ≤ 999999 := by rw [hz1]; exact HLC.out.ok.last
              obtain ⟨N1, hN1⟩ : ∃ N1, N1 = Wal.name z1 := ⟨_, rfl⟩
              have KN1 := Lib.hid (fun V => name_any z1 (by omega) V N1 hN1)
              have HN1 := Lib.hid hN1
              have hNl1 : N1.length ≤ 9000000000000000 := by rw [hN1]; exact name_len _
              clear hN1 hz1 HBS hbl
              go_wp2_with fail
              obtain ⟨V, hV⟩ : ∃ V, wr.drew = V := ⟨_, rfl⟩
              have hbV : Below wr.heap.size wr V := by rw [← hV]; exact (Below.refl _ _).drew
              have HBV := Lib.hid hbV
              have HPS : Hid (∀ X sX lX mX, LS X base g sX mX lX x → lX.last = z1 → PtrS lb 2 (.pointer (some ⟨g, 0, none⟩)) (.int .i64 (z1 : Int)) X) := Lib.hid (fun X sX lX mX hX hl => by
                obtain ⟨k0, _, k2, _, _, _⟩ := hX.cells
                rw [← HLB.out] at k0 k2
                rw [hl] at k2
                exact ⟨k0, k2⟩)
              have HLV := Lib.hid (HLR.out.below hbV)
              have HS0 := HPS.out _ _ _ _ HLV.out HZ1.out.symm
              refine wp_region_E 11 (PtrS lb 2 (.pointer (some ⟨g, 0, none⟩)) (.int .i64 (z1 : Int))) (by kernel_rfl) ?_
              rw [hV]
              clear hV hbV y4
              refine wpAnyE_take (i := 0) (v := ?_) rfl (by kernel_rfl) (by kernel_rfl) (by kernel_rfl) (by kernel_rfl) (fun _ _ _ h => h) (Or.inl ⟨by rfl, ?_⟩) HS0 ?_
              rotate_left
              · (intro wy hSw; obtain ⟨q0, q2⟩ := hSw; go_simp; try with_reducible rfl)
              try simp only [Act.put, List.setIfInBounds_toArray]
              refine wpAnyE_take (i := 1) (v := ?_) rfl (by kernel_rfl) (by kernel_rfl) (by kernel_rfl) (by kernel_rfl) (fun _ _ _ h => h) (Or.inl ⟨by rfl, ?_⟩) HS0 ?_
              rotate_left
              · (intro wy hSw; obtain ⟨q0, q2⟩ := hSw; go_simp; try with_reducible rfl)
              try simp only [Act.put]
              refine wpAnyE_take (i := 2) (v := ?_) rfl (by kernel_rfl) (by kernel_rfl) (by kernel_rfl) (by kernel_rfl) (fun _ _ _ h => h) (Or.inl ⟨by rfl, ?_⟩) HS0 ?_
              rotate_left
              · (intro wy hSw; obtain ⟨q0, q2⟩ := hSw; go_simp; try with_reducible rfl)
              try simp only [Act.put]
              refine wpAnyE_take (i := 3) (v := ?_) rfl (by kernel_rfl) (by kernel_rfl) (by kernel_rfl) (by kernel_rfl) (fun _ _ _ h => h) (Or.inl ⟨by rfl, ?_⟩) HS0 ?_
              rotate_left
              · (intro wy hSw; obtain ⟨q0, q2⟩ := hSw; go_simp; try with_reducible rfl)
              try simp only [Act.put]
              refine wpAnyE_take (i := 4) (v := ?_) rfl (by kernel_rfl) (by kernel_rfl) (by kernel_rfl) (by kernel_rfl) (fun _ _ _ h => h) (Or.inl ⟨by rfl, ?_⟩) HS0 ?_
              rotate_left
              · (intro wy hSw; obtain ⟨q0, q2⟩ := hSw; go_simp; try with_reducible rfl)
              try simp only [Act.put]
              refine wpAnyE_take (i := 5) (v := ?_) rfl (by kernel_rfl) (by kernel_rfl) (by kernel_rfl) (by kernel_rfl) (fun _ _ _ h => h) (Or.inl ⟨by rfl, ?_⟩) HS0 ?_
              rotate_left
              · (intro wy hSw; obtain ⟨q0, q2⟩ := hSw; go_simp; try with_reducible rfl)
              try simp only [Act.put]
              refine wpAnyE_take (i := 6) (v := ?_) rfl (by kernel_rfl) (by kernel_rfl) (by kernel_rfl) (by kernel_rfl) (fun _ _ _ h => h) (Or.inl ⟨by rfl, ?_⟩) HS0 ?_
              rotate_left
              · (intro wy hSw; obtain ⟨q0, q2⟩ := hSw; go_simp; try with_reducible rfl)
              try simp only [Act.put]
              refine wpAnyE_take (i := 7) (v := ?_) rfl (by kernel_rfl) (by kernel_rfl) (by kernel_rfl) (by kernel_rfl) (fun _ _ _ h => h) (Or.inl ⟨by rfl, ?_⟩) HS0 ?_
              rotate_left
              · (intro wy hSw; obtain ⟨q0, q2⟩ := hSw; go_simp; try with_reducible rfl)
              try simp only [Act.put]
              refine wpAnyE_take (i := 9) (v := ?_) rfl (by kernel_rfl) (by kernel_rfl) (by kernel_rfl) (by kernel_rfl) (fun _ _ _ h => h) (Or.inl ⟨by rfl, ?_⟩) HS0 ?_
              rotate_left
              · (intro wy hSw; obtain ⟨q0, q2⟩ := hSw; go_simp; try with_reducible rfl)
              try simp only [Act.put]
              refine wpAnyE_one (i := 8) (by kernel_rfl) rfl (fun K hK => ?_)
              go_simp
              refine (KN1.out V).mono ?_
              rintro e w3 ⟨rfl, hb3⟩
              have HB3 := Lib.hid (HBV.out.trans (hb3.mono HBV.out.size))
              have HL3 := Lib.hid (HLR.out.below HB3.out)
              have HS3 := HPS.out _ _ _ _ HL3.out HZ1.out.symm
              have KA := Lib.hid (append_any N1 hNl1 AA ac bs (.inr ⟨base, HRB.out.below HB3.out⟩) (by omega) HL3.out.st (by have := HSB.out.1; omega))
              unfold Sto.str at KA
              obtain ⟨ap, hap⟩ : ∃ ap, ap = Sto.append s1 N1 bs := ⟨_, rfl⟩
              have HAP := Lib.hid hap
              have hzp := Sto.append_sz (s := s1) N1 bs
              rw [← hap] at KA hzp
              obtain ⟨a0, s2⟩ := ap
              simp only at hzp
              refine hK _ _ HS3 ?_
              clear hK K HS0 hb3 hap
              try simp only [Act.put]
              refine wpAnyE_one (i := 10) (by kernel_rfl) rfl (fun K hK => ?_)
              go_simp
              refine KA.out.mono ?_
              rintro e w4 ⟨rfl, m4, hst4, haf4⟩
              simp only at hst4
              have HL4 := Lib.hid (HL3.out.store hst4 haf4)
              have HA4 : Hid (Aft turnsM w w4 base (LRow m x) (LRow m4 x)) := Lib.hid ((HAR.out.trans (Aft.of_below HB3.out (LRow m1 x))).trans (laft haf4))
              have HS4 := HPS.out _ _ _ _ HL4.out HZ1.out.symm
              simp only
              refine hK _ _ HS4 ?_
              clear hK K HS3 hst4 haf4 KA
              try simp only [Act.put]
              refine wpAnyE_last (by kernel_rfl) (by kernel_rfl) rfl (fun K hK => ?_)
              go_simp
              refine hK _ _ ?_
              clear hK K HS4
              have HCC : Hid (Wal.commit s l = if a0 ≠ 0 then (a0, s2, { l1 with broken := true }) else
                  (let b := Sto.sync s2 N1
                  if b.1 ≠ 0 then (b.1, b.2, { l1 with broken := true }) else
                  (0, b.2, { l1 with size := l1.size + bs.length, waiting := [] }))) := Lib.hid (by
                rw [HC.out, HRO.out]
                simp only
                rw [if_neg (by simp), ← HZ1.out, ← HN1.out, ← HBB.out, ← HAP.out])
              by_cases ha0 : a0 = 0
              · subst ha0
                rw [if_neg (by simp)] at HCC
                go_wp2_with fail
                obtain ⟨V2, hV2⟩ : ∃ V2, w4.drew = V2 := ⟨_, rfl⟩
                have hbV2 : Below w4.heap.size w4 V2 := by rw [← hV2]; exact (Below.refl _ _).drew
                have HBV2 := Lib.hid hbV2
                have HLV2 := Lib.hid (HL4.out.below hbV2)
                have HS0 := HPS.out _ _ _ _ HLV2.out HZ1.out.symm
                refine wp_region_E 10 (PtrS lb 2 (.pointer (some ⟨g, 0, none⟩)) (.int .i64 (z1 : Int))) (by kernel_rfl) ?_
                rw [hV2]
                clear hV2 hbV2
                refine wpAnyE_take (i := 0) (v := ?_) rfl (by kernel_rfl) (by kernel_rfl) (by kernel_rfl) (by kernel_rfl) (fun _ _ _ h => h) (Or.inl ⟨by rfl, ?_⟩) HS0 ?_
                rotate_left
                · (intro wy hSw; obtain ⟨q0, q2⟩ := hSw; go_simp; try with_reducible rfl)
                try simp only [Act.put, List.setIfInBounds_toArray]
                refine wpAnyE_take (i := 1) (v := ?_) rfl (by kernel_rfl) (by kernel_rfl) (by kernel_rfl) (by kernel_rfl) (fun _ _ _ h => h) (Or.inl ⟨by rfl, ?_⟩) HS0 ?_
                rotate_left
                · (intro wy hSw; obtain ⟨q0, q2⟩ := hSw; go_simp; try with_reducible rfl)
                try simp only [Act.put]
                refine wpAnyE_take (i := 2) (v := ?_) rfl (by kernel_rfl) (by kernel_rfl) (by kernel_rfl) (by kernel_rfl) (fun _ _ _ h => h) (Or.inl ⟨by rfl, ?_⟩) HS0 ?_
                rotate_left
                · (intro wy hSw; obtain ⟨q0, q2⟩ := hSw; go_simp; try with_reducible rfl)
                try simp only [Act.put]
                refine wpAnyE_take (i := 3) (v := ?_) rfl (by kernel_rfl) (by kernel_rfl) (by kernel_rfl) (by kernel_rfl) (fun _ _ _ h => h) (Or.inl ⟨by rfl, ?_⟩) HS0 ?_
                rotate_left
                · (intro wy hSw; obtain ⟨q0, q2⟩ := hSw; go_simp; try with_reducible rfl)
                try simp only [Act.put]
                refine wpAnyE_take (i := 4) (v := ?_) rfl (by kernel_rfl) (by kernel_rfl) (by kernel_rfl) (by kernel_rfl) (fun _ _ _ h => h) (Or.inl ⟨by rfl, ?_⟩) HS0 ?_
                rotate_left
                · (intro wy hSw; obtain ⟨q0, q2⟩ := hSw; go_simp; try with_reducible rfl)
                try simp only [Act.put]
                refine wpAnyE_take (i := 5) (v := ?_) rfl (by kernel_rfl) (by kernel_rfl) (by kernel_rfl) (by kernel_rfl) (fun _ _ _ h => h) (Or.inl ⟨by rfl, ?_⟩) HS0 ?_
                rotate_left
                · (intro wy hSw; obtain ⟨q0, q2⟩ := hSw; go_simp; try with_reducible rfl)
                try simp only [Act.put]
                refine wpAnyE_take (i := 6) (v := ?_) rfl (by kernel_rfl) (by kernel_rfl) (by kernel_rfl) (by kernel_rfl) (fun _ _ _ h => h) (Or.inl ⟨by rfl, ?_⟩) HS0 ?_
                rotate_left
                · (intro wy hSw; obtain ⟨q0, q2⟩ := hSw; go_simp; try with_reducible rfl)
                try simp only [Act.put]
                refine wpAnyE_take (i := 7) (v := ?_) rfl (by kernel_rfl) (by kernel_rfl) (by kernel_rfl) (by kernel_rfl) (fun _ _ _ h => h) (Or.inl ⟨by rfl, ?_⟩) HS0 ?_
                rotate_left
                · (intro wy hSw; obtain ⟨q0, q2⟩ := hSw; go_simp; try with_reducible rfl)
                try simp only [Act.put]
                refine wpAnyE_one (i := 8) (by kernel_rfl) rfl (fun K hK => ?_)
                go_simp
                refine (KN1.out V2).mono ?_
                rintro e w5 ⟨rfl, hb5⟩
                have HB5 := Lib.hid (HBV2.out.trans (hb5.mono HBV2.out.size))
                have HL5 := Lib.hid (HL4.out.below HB5.out)
                have HS5 := HPS.out _ _ _ _ HL5.out HZ1.out.symm
                have KY := Lib.hid (sync_any N1 hNl1 HL5.out.st (by have := HSB.out.1; omega))
                unfold Sto.str at KY
                obtain ⟨sy, hsy⟩ : ∃ sy, sy = Sto.sync s2 N1 := ⟨_, rfl⟩
                have HSY := Lib.hid hsy
                rw [← hsy] at KY HCC
                obtain ⟨y0, s3⟩ := sy
                refine hK _ _ HS5 ?_
                clear hK K HS0 hb5 hsy
                try simp only [Act.put]
                refine wpAnyE_one (i := 9) (by kernel_rfl) rfl (fun K hK => ?_)
                go_simp
                refine KY.out.mono ?_
                rintro e w6 ⟨rfl, m6, hst6, haf6⟩
                simp only at hst6
                have HL6 := Lib.hid (HL5.out.store hst6 haf6)
                have HA6 : Hid (Aft turnsM w w6 base (LRow m x) (LRow m6 x)) := Lib.hid ((HA4.out.trans (Aft.of_below HB5.out (LRow m4 x))).trans (laft haf6))
                have HS6 := HPS.out _ _ _ _ HL6.out HZ1.out.symm
                simp only
                refine hK _ _ HS6 ?_
                clear hK K HS5 hst6 haf6 KY
                try simp only [Act.put]
                refine wpAnyE_last (by kernel_rfl) (by kernel_rfl) rfl (fun K hK => ?_)
                go_simp
                refine hK _ _ ?_
                clear hK K HS6
                by_cases hy0 : y0 = 0
                · subst hy0
                  simp only at HCC
                  rw [if_neg (by simp)] at HCC
                  have HEM := Lib.hid (HL6.out.emptied (l1.size + bs.length) (by
                    have h9 := HSB.out.2.2
                    have h8 := Sto.append_fit (s := s1) (n := N1) (b := bs) HLC.out.st.r.ok.room.2 (by rw [← HAP.out])
                    omega))
                  have f4 := HL6.out.frozen 4
                  obtain ⟨_, _, _, _, k4, _⟩ := HL6.out.cells
                  rw [← HLB.out] at HEM f4 k4
                  go_wp2_with fail
                  go_ret
                  rw [HCC.out]
                  exact ⟨rfl, m6, ⟨lb, none, 0, []⟩, HLB.out, HEM.out.1, HA6.out.trans HEM.out.2⟩
                · have e1 : (y0 == 0) = false := by simpa using hy0
                  have e2 : (y0 != 0) = true := by simpa using hy0
                  have KB := Lib.hid (broke_any HL6.out y0)
                  rw [← HLB.out] at KB
                  simp only at HCC
                  rw [if_pos hy0] at HCC
                  have HBK : Hid (brk l1 y0 = { l1 with broken := true }) := Lib.hid (if_neg hy0)
                  clear hy0
                  go_wp2_with fail
                  refine KB.out.mono ?_
                  rintro e w7 ⟨rfl, m7, hls7, haf7⟩
                  rw [HBK.out] at hls7
                  have HL7 := Lib.hid hls7
                  have HA7 := Lib.hid (HA6.out.trans haf7)
                  clear hls7 haf7 KB
                  go_wp2_with fail
                  go_ret
                  rw [HCC.out]
                  exact ⟨rfl, m7, x, rfl, HL7.out, HA7.out⟩
              · have e1 : (a0 == 0) = false := by simpa using ha0
                have e2 : (a0 != 0) = true := by simpa using ha0
                have KB := Lib.hid (broke_any HL4.out a0)
                rw [← HLB.out] at KB
                rw [if_pos ha0] at HCC
                have HBK : Hid (brk l1 a0 = { l1 with broken := true }) := Lib.hid (if_neg ha0)
                clear ha0
                go_wp2_with fail
                refine KB.out.mono ?_
                rintro e w7 ⟨rfl, m7, hls7, haf7⟩
                rw [HBK.out] at hls7
                have HL7 := Lib.hid hls7
                have HA7 := Lib.hid (HA4.out.trans haf7)
                clear hls7 haf7 KB
                go_wp2_with fail
                go_ret
                rw [HCC.out]
                exact ⟨rfl, m7, x, rfl, HL7.out, HA7.out⟩
      · have hoff : (rc, rb) = (8, []) := by
          rw [HRD.out]
          unfold Sto.read
          rw [if_pos HQ.out.symm]
        injection hoff with h1 h2
        subst h1 h2
        have KB := Lib.hid (broke_any HL2.out 8)
        rw [← HLB.out] at KB
        have HE : Hid (Wal.commit s l = (8, s, { l with broken := true })) := Lib.hid (by
          rw [HC.out]
          unfold Wal.room
          rw [if_pos HQ.out.symm]
          rfl)
        have HBK : Hid (brk l 8 = { l with broken := true }) := Lib.hid (if_neg (by decide))
        go_wp2_with fail
        refine KB.out.mono ?_
        rintro e w3 ⟨rfl, m3, hls3, haf3⟩
        rw [HBK.out] at hls3
        have HL3 := Lib.hid hls3
        have HA3 : Hid (Aft turnsM w w3 base (LRow m x) (LRow m3 x)) := Lib.hid ((Aft.of_below HB2.out _).trans haf3)
        clear hls3 haf3 KB
        go_wp2_with fail
        go_ret
        rw [HE.out]
        exact ⟨rfl, m3, x, rfl, HL3.out, HA3.out⟩
  · have HE : Hid (Wal.commit s l = (9, s, l)) := Lib.hid (by unfold Wal.commit; rw [if_pos HO.out.symm])
    go_wp2_with fail
    go_ret
    rw [HE.out]
    exact ⟨rfl, m, x, rfl, H.out, Aft.refl _ _ _⟩
end
end Ref
end Go.Proofs.YtaiokogbhfliiaaGreatDoor

namespace Go.Proofs.YtaiokogbhfliiaaGreatDoor
namespace Sto
theorem meet_zero {s s1 : St} {l : List Str} (h : (0, s1) = meet s l) : ∃ p, s1 = { s with plan := p } := by
  unfold meet at h
  split at h
  · injection h with h _; cases h
  · split at h
    · injection h with h _; cases h
    · split at h
      · injection h with _ h
        exact ⟨s.plan, h⟩
      · split at h
        · injection h with h _; cases h
        · split at h
          · injection h with h _; cases h
          · injection h with _ h
            exact ⟨_, h⟩
theorem read_remove {s : St} {n : Str} (hok : Ok s) (h : (remove s n).1 = 0) : (∀ m, m ≠ n → read (remove s n).2 m = read s m) ∧ (read (remove s n).2 n).2 = [] := by
  obtain ⟨x, hx⟩ : ∃ x, x = meet s [n] := ⟨_, rfl⟩
  obtain ⟨x0, s1⟩ := x
  by_cases h0 : x0 = 0
  · subst h0
    obtain ⟨p, hp⟩ := meet_zero hx
    rcases hf : find s1.now n with _ | i
    · rw [remove_none hx hf] at h
      cases h
    · rw [remove_ok hx hf]
      subst hp
      have hs := hok.gnow.srt
      refine ⟨fun m hm => ?_, ?_⟩
      · unfold read
        show (if s.off = true then _ else if isName m = false then _ else match find (del s.now n) m with | none => _ | some i => _) = _
        rw [find_del_other hs hm]
        rfl
      · unfold read
        show ((if s.off = true then _ else if isName n = false then _ else match find (del s.now n) n with | none => _ | some i => _ : Int × List UInt8)).2 = _
        rw [find_del_same]
        split
        · rfl
        · split <;> rfl
  · rw [remove_bad hx h0] at h
    exact absurd h h0
end Sto
namespace Wal
/-- Can the file go? -/
def oldp (s : Sto.St) (l : Lg) (n : Int) (f : Nat) : Bool := f != l.last && (match (told s f).getLast? with | none => true | some z => decide ((z.1 : Int) ≤ n))
theorem olds_oldp (s : Sto.St) (l : Lg) (n : Int) : olds s l n = (files s).filter (oldp s l n) := rfl
theorem oldp_remove {s : Sto.St} {l : Lg} {n : Int} (hok : Sto.Ok s) {g : Nat} (hg : g < 1000000) (hold : oldp s l n g = true) (h : (Sto.remove s (name g)).1 = 0) (f : Nat) (hf : f < 1000000) : oldp (Sto.remove s (name g)).2 l n f = oldp s l n f := by
  obtain ⟨h1, h2⟩ := Sto.read_remove hok h
  by_cases e : f = g
  · subst e
    rw [hold]
    have h3 : told (Sto.remove s (name f)).2 f = [] := by
      unfold told
      rw [h2]
      rfl
    unfold oldp at hold ⊢
    rw [h3]
    simp only [Bool.and_eq_true] at hold
    simp only [List.getLast?_nil, Bool.and_true]
    exact hold.1
  · have h3 : told (Sto.remove s (name g)).2 f = told s f := by
      unfold told
      rw [h1 (name f) (fun e2 => e (by
        have := congrArg numbered e2
        rwa [numbered_name f hf, numbered_name g hg] at this))]
    unfold oldp
    rw [h3]
end Wal
end Go.Proofs.YtaiokogbhfliiaaGreatDoor

namespace Go.Proofs.YtaiokogbhfliiaaGreatDoor
open Go.RowKit Go.Maps

namespace Ref
section
variable {w w' : World} {base g : Nat} {s s' : Sto.St} {m m' : Mem} {l l' : Wal.Lg} {x : Lm}
theorem brk_self (h : l.broken = false) (c : Int) : { l with broken := c != 0 } = brk l c := by
  unfold brk
  by_cases h0 : c = 0
  · rw [if_pos h0, h0]
    obtain ⟨a, b, c, d, e, f⟩ := l
    simp only at h
    subst h
    rfl
  · rw [if_neg h0, bne_iff_ne.2 h0]
def CellS (lb fb fo k : Nat) (v0 v1 : Value) (W : World) : Prop := W.cell? ⟨lb, 0, none⟩ = some v0 ∧ W.cell? ⟨fb, fo + k, none⟩ = some v1
/-- What lies in a round of Retire. -/
structure RtI (w1 : World) (base g : Nat) (s : Sto.St) (m : Mem) (l : Wal.Lg) (x : Lm) (n : Int) (fs : List Nat) (k : Nat) (an : Bool) (sk : Sto.St) (mk : Mem) (wr : World) : Prop where
  an : an = decide ((fs.take k).filter (Wal.oldp s l n) ≠ [])
  rm : Wal.removes s ((fs.take k).filter (Wal.oldp s l n)) = (0, sk)
  old : ∀ f, f < 1000000 → Wal.oldp sk l n f = Wal.oldp s l n f
  files : sk.files.length ≤ s.files.length
  kept : sk.kept.length ≤ s.kept.length + k
  ls : LS wr base g sk mk l x
  aft : Aft turnsM w1 wr base (LRow m x) (LRow mk x)
theorem RtI.skip {w1 wr w2 : World} {n : Int} {fs : List Nat} {k : Nat} {an : Bool} {sk : Sto.St} {mk : Mem} (h : RtI w1 base g s m l x n fs k an sk mk wr) (hb : Below wr.heap.size wr w2) (hk : k < fs.length) (hf : fs[k] < 1000000) (ho : Wal.oldp sk l n fs[k] = false) : RtI w1 base g s m l x n fs (k + 1) an sk mk w2 := by
  have e : (fs.take (k + 1)).filter (Wal.oldp s l n) = (fs.take k).filter (Wal.oldp s l n) := by
    rw [List.take_succ_eq_append_getElem hk, List.filter_append, List.filter_cons_of_neg (by rw [← h.old _ hf, ho]; simp), List.filter_nil, List.append_nil]
  exact ⟨by rw [e]; exact h.an, by rw [e]; exact h.rm, h.old, h.files, by have := h.kept; omega, h.ls.below hb, h.aft.trans (Aft.of_below hb _)⟩
theorem RtI.gone {w1 wr w2 w3 : World} {n : Int} {fs : List Nat} {k : Nat} {an : Bool} {sk : Sto.St} {mk mk' : Mem} (h : RtI w1 base g s m l x n fs k an sk mk wr) (hb : Below wr.heap.size wr w2) (hk : k < fs.length) (hf : fs[k] < 1000000) (ho : Wal.oldp sk l n fs[k] = true) (hst : StAt w3 base g (Sto.remove sk (Wal.name fs[k])).2 mk') (haf : Aft turns w2 w3 base (Row mk) (Row mk')) :
    ((Sto.remove sk (Wal.name fs[k])).1 = 0 → RtI w1 base g s m l x n fs (k + 1) true (Sto.remove sk (Wal.name fs[k])).2 mk' w3) ∧ LS w3 base g (Sto.remove sk (Wal.name fs[k])).2 mk' l x ∧ Aft turnsM w1 w3 base (LRow m x) (LRow mk' x) := by
  have e : (fs.take (k + 1)).filter (Wal.oldp s l n) = (fs.take k).filter (Wal.oldp s l n) ++ [fs[k]] := by
    rw [List.take_succ_eq_append_getElem hk, List.filter_append, List.filter_cons_of_pos (by rw [← h.old _ hf, ho]), List.filter_nil]
  have hls := (h.ls.below hb).store hst haf
  have haf2 := (h.aft.trans (Aft.of_below hb (LRow mk x))).trans (laft haf)
  have hsz := Sto.remove_sz (s := sk) (Wal.name fs[k])
  refine ⟨fun h0 => ⟨by rw [e]; simp, ?_, fun f hf2 => by rw [Wal.oldp_remove h.ls.st.r.ok hf ho h0 f hf2, h.old f hf2], by have := h.files; omega, by have := h.kept; omega, hls, haf2⟩, hls, haf2⟩
  rw [e, Wal.removes_snoc _ _ _ _ h.rm, ← h0]
set_option maxHeartbeats 8000000 in
set_option maxRecDepth 100000 in
theorem retire_any (h : LS w base g s m l x) (hf : s.files.length ≤ 100000) (hk : s.kept.length ≤ 400000) (n : Int) :
    Calls Tryz.prog 81 #[.pointer (some ⟨x.lb, 0, none⟩), .int .i64 n] w (LOp w base g m x (Wal.retire s l n)) := by
  have H := Lib.hid h
  obtain ⟨c0, _, c2, _, _, c5⟩ := h.cells
  obtain ⟨lb, hlb⟩ : ∃ lb, lb = x.lb := ⟨_, rfl⟩
  obtain ⟨o, ho⟩ : ∃ o, o = l.broken := ⟨_, rfl⟩
  obtain ⟨z, hz⟩ : ∃ z, z = l.last := ⟨_, rfl⟩
  rw [← hlb] at c0 c2 c5 ⊢
  rw [← ho] at c5
  rw [← hz] at c2
  have HLB := Lib.hid hlb
  have HO := Lib.hid ho
  have HZ := Lib.hid hz
  have hlt : lb < w.heap.size := by rw [hlb]; exact h.tag.lt
  have KF := Lib.hid (files_any h.st (by omega))
  clear h hlb ho hz
  go_enter Tryz.func81, Tryz.ntmps81
  rcases o with _ | _
  · obtain ⟨fs, hfs⟩ : ∃ fs, fs = Wal.files s := ⟨_, rfl⟩
    have HFS := Lib.hid hfs
    rw [← hfs] at KF
    have hfl : fs.length ≤ 100000 := by
      rw [hfs]
      have h1 := Wal.filesOf_len (Sto.names s)
      have h2 : (Sto.names s).length ≤ s.files.length := by unfold Sto.names; rw [List.length_map]; exact H.out.st.r.ok.gnow.len
      have h3 : Wal.filesOf (Sto.names s) = Wal.files s := rfl
      rw [h3] at h1
      omega
    have HFN : Hid (∀ k ∈ fs, k < 1000000) := Lib.hid (fun k hk => by
      rw [hfs] at hk
      unfold Wal.files at hk
      obtain ⟨hk, _⟩ := List.mem_filter.1 hk
      obtain ⟨q, _, rfl⟩ := List.mem_map.1 hk
      exact Wal.numbered_bd q)
    have HRT : Hid (Wal.retire s l n = if Wal.olds s l n = [] then (0, s, l) else
        let a := Wal.removes s (Wal.olds s l n)
        if a.1 ≠ 0 then (a.1, a.2, { l with broken := true }) else
        let b := Sto.syncDir a.2
        (b.1, b.2, { l with broken := b.1 != 0 })) := Lib.hid (by unfold Wal.retire; rw [if_neg (by rw [← HO.out]; simp)])
    have HOE : Hid (Wal.olds s l n = fs.filter (Wal.oldp s l n)) := Lib.hid (by rw [hfs]; rfl)
    clear hfs
    go_wp2_with fail
    refine KF.out.mono ?_
    rintro e w1 ⟨FA, fcp, rfl, ho1, hb1⟩
    have HO1 := Lib.hid ho1
    have HB1 := Lib.hid hb1
    have HI0 : Hid (RtI w1 base g s m l x n fs 0 false s m w1) := Lib.hid ⟨rfl, rfl, fun _ _ => rfl, Nat.le_refl _, Nat.le_refl _, H.out.below hb1, Aft.refl _ _ _⟩
    clear ho1 hb1 KF c0 c2 c5
    go_wp2_with fail
    go_loopw [6, 7] (fun av i wr => ∃ (k : Nat) (an : Bool) (sk : Sto.St) (mk : Mem), k ≤ fs.length ∧ i = .int .i64 (k : Int) ∧ av = .bool an ∧ Hid (RtI w1 base g s m l x n fs k an sk mk wr)) (fun _ i _ => fs.length - (intOf i).toNat)
    case atStart => exact ⟨0, false, s, m, by omega, rfl, rfl, HI0⟩
    case round =>
      obtain ⟨k, an, sk, mk, hk, rfl, rfl, HI⟩ := hrel
      by_cases hkl : k < fs.length
      · have hkl' : (k : Int) < (fs.length : Int) := by omega
        have hof : OwnS Wal.N1 1 wr w.heap.size 3 FA fcp fs := HO1.out.keep (fun q e => HI.out.aft.tag (Sto.ownTagS HO1.out e) (by decide))
        obtain ⟨fb, fo, hA, hfb, hc⟩ := RdS.row (f := Wal.N1) (n := 1) (fun _ => rfl) (by omega) hof.rd (by omega)
        have d0 := hc k hkl 0 _ rfl
        rw [Nat.add_zero, Nat.mul_one] at d0
        have HFK := Lib.hid (HFN.out fs[k] (List.getElem_mem hkl))
        obtain ⟨f, hfe⟩ : ∃ f, f = fs[k] := ⟨_, rfl⟩
        rw [← hfe] at d0 HFK
        have HFE := Lib.hid hfe
        have hfk : f < 1000000 := HFK.out
        obtain ⟨c0, _, c2, _, _, _⟩ := HI.out.ls.cells
        rw [← HLB.out] at c0 c2
        rw [← HZ.out] at c2
        have hlr : lb < wr.heap.size := by rw [HLB.out]; exact HI.out.ls.tag.lt
        subst hA
        have HCE : Hid (∀ V, Below wr.heap.size wr V → CellS lb fb fo k (.pointer (some ⟨g, 0, none⟩)) (.int .i64 (f : Int)) V ∧ V.cell? ⟨lb, 2, none⟩ = some (.int .i64 (z : Int))) := Lib.hid (fun V hV => ⟨⟨(hV.cell (p := ⟨lb, 0, none⟩) hlr).trans c0, (hV.cell (p := ⟨fb, fo + k, none⟩) hfb).trans d0⟩, (hV.cell (p := ⟨lb, 2, none⟩) hlr).trans c2⟩)
        have KT := Lib.hid (fun V (hV : Below wr.heap.size wr V) => tells_any (HI.out.ls.below hV).st (by have := HI.out.files; omega) f hfk (Wal.told sk f) rfl)
        obtain ⟨T, hT⟩ : ∃ T, T = Wal.told sk f := ⟨_, rfl⟩
        rw [← hT] at KT
        have HT := Lib.hid hT
        clear hof hc hfe c0 c2 d0 hT
        go_wp2_with fail
        obtain ⟨V, hV⟩ : ∃ V, wr.drew = V := ⟨_, rfl⟩
        have hbV : Below wr.heap.size wr V := by rw [← hV]; exact (Below.refl _ _).drew
        have HBV := Lib.hid hbV
        have HS0 := (HCE.out V hbV).1
        refine wp_region_E 9 (CellS lb fb fo k (.pointer (some ⟨g, 0, none⟩)) (.int .i64 (f : Int))) (by kernel_rfl) ?_
        rw [hV]
        clear hV hbV
        refine wpAnyE_take (i := 0) (v := ?_) rfl (by kernel_rfl) (by kernel_rfl) (by kernel_rfl) (by kernel_rfl) (fun _ _ _ h => h) (Or.inl ⟨by rfl, ?_⟩) HS0 ?_
        rotate_left
        · (intro wy hSw; obtain ⟨q0, q1⟩ := hSw; go_simp; try with_reducible rfl)
        try simp only [Act.put, List.setIfInBounds_toArray]
        refine wpAnyE_take (i := 1) (v := ?_) rfl (by kernel_rfl) (by kernel_rfl) (by kernel_rfl) (by kernel_rfl) (fun _ _ _ h => h) (Or.inl ⟨by rfl, ?_⟩) HS0 ?_
        rotate_left
        · (intro wy hSw; obtain ⟨q0, q1⟩ := hSw; go_simp; try with_reducible rfl)
        try simp only [Act.put]
        refine wpAnyE_take (i := 2) (v := ?_) rfl (by kernel_rfl) (by kernel_rfl) (by kernel_rfl) (by kernel_rfl) (fun _ _ _ h => h) (Or.inl ⟨by rfl, ?_⟩) HS0 ?_
        rotate_left
        · (intro wy hSw; obtain ⟨q0, q1⟩ := hSw; go_simp; try with_reducible rfl)
        try simp only [Act.put]
        refine wpAnyE_take (i := 3) (v := ?_) rfl (by kernel_rfl) (by kernel_rfl) (by kernel_rfl) (by kernel_rfl) (fun _ _ _ h => h) (Or.inl ⟨by rfl, ?_⟩) HS0 ?_
        rotate_left
        · (intro wy hSw; obtain ⟨q0, q1⟩ := hSw; go_simp; try with_reducible rfl)
        try simp only [Act.put]
        refine wpAnyE_take (i := 4) (v := ?_) rfl (by kernel_rfl) (by kernel_rfl) (by kernel_rfl) (by kernel_rfl) (fun _ _ _ h => h) (Or.inl ⟨by rfl, ?_⟩) HS0 ?_
        rotate_left
        · (intro wy hSw; obtain ⟨q0, q1⟩ := hSw; go_simp; try with_reducible rfl)
        try simp only [Act.put]
        refine wpAnyE_take (i := 5) (v := ?_) rfl (by kernel_rfl) (by kernel_rfl) (by kernel_rfl) (by kernel_rfl) (fun _ _ _ h => h) (Or.inl ⟨by rfl, ?_⟩) HS0 ?_
        rotate_left
        · (intro wy hSw; obtain ⟨q0, q1⟩ := hSw; go_simp; try with_reducible rfl)
        try simp only [Act.put]
        refine wpAnyE_take (i := 6) (v := ?_) rfl (by kernel_rfl) (by kernel_rfl) (by kernel_rfl) (by kernel_rfl) (fun _ _ _ h => h) (Or.inl ⟨by rfl, ?_⟩) HS0 ?_
        rotate_left
        · (intro wy hSw; obtain ⟨q0, q1⟩ := hSw; go_simp; try with_reducible rfl)
        try simp only [Act.put]
        refine wpAnyE_take (i := 7) (v := ?_) rfl (by kernel_rfl) (by kernel_rfl) (by kernel_rfl) (by kernel_rfl) (fun _ _ _ h => h) (Or.inl ⟨by rfl, ?_⟩) HS0 ?_
        rotate_left
        · (intro wy hSw; obtain ⟨q0, q1⟩ := hSw; go_simp; try with_reducible rfl)
        try simp only [Act.put]
        refine wpAnyE_one (i := 8) (by kernel_rfl) rfl (fun K hK => ?_)
        go_simp
        refine (KT.out V HBV.out).mono ?_
        rintro e w3 ⟨TA, tc, LT, rfl, hLT, hOT, _, hb3⟩
        have HB3 := Lib.hid (HBV.out.trans (hb3.mono HBV.out.size))
        have HS3 := (HCE.out w3 HB3.out).1
        have htl : T.length = LT.length := by rw [← hLT, List.length_map]
        rw [htl]
        have HLT := Lib.hid hLT
        have HOT := Lib.hid hOT
        refine hK _ _ HS3 ?_
        clear hK K HS0 hb3 hLT hOT KT htl
        try simp only [Act.put]
        refine wpAnyE_last (by kernel_rfl) (by kernel_rfl) rfl (fun K hK => ?_)
        go_simp
        refine hK _ _ ?_
        clear hK K HS3
        obtain ⟨⟨y0, y1⟩, y2⟩ := HCE.out w3 HB3.out
        have HTE : Hid (Wal.oldp sk l n f = (f != z && (match LT.getLast? with | none => true | some v => decide ((v.n : Int) ≤ n)))) := Lib.hid (by
          unfold Wal.oldp
          rw [← HZ.out, ← HT.out, ← HLT.out, List.getLast?_map]
          rcases LT.getLast? with _ | v <;> rfl)
        by_cases hfz : f = z
        · have e1 : ((f : Int) == (z : Int)) = true := by rw [hfz]; simp
          have HOF : Hid (Wal.oldp sk l n f = false) := Lib.hid (by rw [HTE.out, hfz]; simp)
          clear hfz
          go_wp2_with fail
          go_quiet (fail)
          refine Sto.drewN_of (fun X hbX hXh => ?_)
          have HBX := Lib.hid (HB3.out.trans (hbX.mono HB3.out.size))
          clear hbX hXh
          go_wp2_with fail
          exact ⟨⟨k + 1, an, sk, mk, hkl, by simp, rfl, Lib.hid (HI.out.skip HBX.out hkl (by rw [← HFE.out]; exact HFK.out) (by rw [← HFE.out]; exact HOF.out))⟩, by simp only [intOf]; omega⟩
        · have e1 : ((f : Int) == (z : Int)) = false := by simp; omega
          rcases Nat.eq_zero_or_pos LT.length with h0 | hpos
          · have HOF : Hid (Wal.oldp sk l n f = true) := Lib.hid (by rw [HTE.out, List.eq_nil_of_length_eq_zero h0]; simp; exact hfz)
            have hle := List.eq_nil_of_length_eq_zero h0
            rw [hle]
            clear hfz h0 hle
            go_wp2_with fail
            go_quiet (fail)
            refine Sto.drewN_of (fun X hbX hXh => ?_)
            have HBX := Lib.hid (HB3.out.trans (hbX.mono HB3.out.size))
            clear hbX hXh
            obtain ⟨N, hN⟩ : ∃ N, N = Wal.name f := ⟨_, rfl⟩
            have KN := Lib.hid (fun V => name_any f hfk V N hN)
            have HN := Lib.hid hN
            have hNl : N.length ≤ 9000000000000000 := by rw [hN]; exact name_len _
            clear hN y0 y1 y2
            have HNX := Lib.hid (HCE.out X HBX.out).1
            obtain ⟨y0, y1⟩ := HNX.out
            go_wp2_with fail
            obtain ⟨V2, hV2⟩ : ∃ V2, X.drew = V2 := ⟨_, rfl⟩
            have hbV2 : Below X.heap.size X V2 := by rw [← hV2]; exact (Below.refl _ _).drew
            have HBV2 := Lib.hid (HBX.out.trans (hbV2.mono HBX.out.size))
            have HS0 := (HCE.out V2 HBV2.out).1
            refine wp_region_E 10 (CellS lb fb fo k (.pointer (some ⟨g, 0, none⟩)) (.int .i64 (f : Int))) (by kernel_rfl) ?_
            rw [hV2]
            clear hV2 hbV2 y0 y1
            refine wpAnyE_take (i := 0) (v := ?_) rfl (by kernel_rfl) (by kernel_rfl) (by kernel_rfl) (by kernel_rfl) (fun _ _ _ h => h) (Or.inl ⟨by rfl, ?_⟩) HS0 ?_
            rotate_left
            · (intro wy hSw; obtain ⟨q0, q1⟩ := hSw; go_simp; try with_reducible rfl)
            try simp only [Act.put, List.setIfInBounds_toArray]
            refine wpAnyE_take (i := 1) (v := ?_) rfl (by kernel_rfl) (by kernel_rfl) (by kernel_rfl) (by kernel_rfl) (fun _ _ _ h => h) (Or.inl ⟨by rfl, ?_⟩) HS0 ?_
            rotate_left
            · (intro wy hSw; obtain ⟨q0, q1⟩ := hSw; go_simp; try with_reducible rfl)
            try simp only [Act.put]
            refine wpAnyE_take (i := 2) (v := ?_) rfl (by kernel_rfl) (by kernel_rfl) (by kernel_rfl) (by kernel_rfl) (fun _ _ _ h => h) (Or.inl ⟨by rfl, ?_⟩) HS0 ?_
            rotate_left
            · (intro wy hSw; obtain ⟨q0, q1⟩ := hSw; go_simp; try with_reducible rfl)
            try simp only [Act.put]
            refine wpAnyE_take (i := 3) (v := ?_) rfl (by kernel_rfl) (by kernel_rfl) (by kernel_rfl) (by kernel_rfl) (fun _ _ _ h => h) (Or.inl ⟨by rfl, ?_⟩) HS0 ?_
            rotate_left
            · (intro wy hSw; obtain ⟨q0, q1⟩ := hSw; go_simp; try with_reducible rfl)
            try simp only [Act.put]
            refine wpAnyE_take (i := 4) (v := ?_) rfl (by kernel_rfl) (by kernel_rfl) (by kernel_rfl) (by kernel_rfl) (fun _ _ _ h => h) (Or.inl ⟨by rfl, ?_⟩) HS0 ?_
            rotate_left
            · (intro wy hSw; obtain ⟨q0, q1⟩ := hSw; go_simp; try with_reducible rfl)
            try simp only [Act.put]
            refine wpAnyE_take (i := 5) (v := ?_) rfl (by kernel_rfl) (by kernel_rfl) (by kernel_rfl) (by kernel_rfl) (fun _ _ _ h => h) (Or.inl ⟨by rfl, ?_⟩) HS0 ?_
            rotate_left
            · (intro wy hSw; obtain ⟨q0, q1⟩ := hSw; go_simp; try with_reducible rfl)
            try simp only [Act.put]
            refine wpAnyE_take (i := 6) (v := ?_) rfl (by kernel_rfl) (by kernel_rfl) (by kernel_rfl) (by kernel_rfl) (fun _ _ _ h => h) (Or.inl ⟨by rfl, ?_⟩) HS0 ?_
            rotate_left
            · (intro wy hSw; obtain ⟨q0, q1⟩ := hSw; go_simp; try with_reducible rfl)
            try simp only [Act.put]
            refine wpAnyE_take (i := 7) (v := ?_) rfl (by kernel_rfl) (by kernel_rfl) (by kernel_rfl) (by kernel_rfl) (fun _ _ _ h => h) (Or.inl ⟨by rfl, ?_⟩) HS0 ?_
            rotate_left
            · (intro wy hSw; obtain ⟨q0, q1⟩ := hSw; go_simp; try with_reducible rfl)
            try simp only [Act.put]
            refine wpAnyE_one (i := 8) (by kernel_rfl) rfl (fun K hK => ?_)
            go_simp
            refine (KN.out V2).mono ?_
            rintro e w4 ⟨rfl, hb4⟩
            have HB4 := Lib.hid (HBV2.out.trans (hb4.mono HBV2.out.size))
            have HL4 := Lib.hid (HI.out.ls.below HB4.out)
            have KR := Lib.hid (remove_any N hNl HL4.out.st (by have := HI.out.files; omega) (by have := HI.out.kept; omega))
            unfold Sto.str at KR
            have HS4 := (HCE.out w4 HB4.out).1
            refine hK _ _ HS4 ?_
            clear hK K HS0 hb4 KN
            try simp only [Act.put]
            refine wpAnyE_one (i := 9) (by kernel_rfl) rfl (fun K hK => ?_)
            go_simp
            refine KR.out.mono ?_
            rintro e w5 ⟨rfl, mk5, hst5, haf5⟩
            rw [HN.out, HFE.out] at hst5
            have hg := HI.out.gone HB4.out hkl (by rw [← HFE.out]; exact HFK.out) (by rw [← HFE.out]; exact HOF.out) hst5 haf5
            rw [← HFE.out, ← HN.out] at hg
            obtain ⟨rm, hrm⟩ : ∃ rm, rm = Sto.remove sk N := ⟨_, rfl⟩
            have HRM := Lib.hid hrm
            rw [← hrm] at hg ⊢
            obtain ⟨r0, s5⟩ := rm
            simp only at hg
            have HG := Lib.hid hg
            have HS5 : CellS lb fb fo k (.pointer (some ⟨g, 0, none⟩)) (.int .i64 (f : Int)) w5 := by
              obtain ⟨k0, _, _, _, _, _⟩ := hg.2.1.cells
              rw [← HLB.out] at k0
              refine ⟨k0, ?_⟩
              have hb5 : ∀ q, q < w4.heap.size → Sto.Tag w4 q 3 → w5.heap[q]? = w4.heap[q]? := fun q _ t => haf5.tag t (by decide)
              have hof : OwnS Wal.N1 1 w4 w.heap.size 3 (some ⟨fb, fo, none⟩) fcp fs := (HO1.out.keep (fun q e => HI.out.aft.tag (Sto.ownTagS HO1.out e) (by decide))).below HB4.out
              have tg := Sto.ownTagS hof (k := fb) rfl
              exact (World.cell?_of_block (a := ⟨fb, fo + k, none⟩) (hb5 fb tg.lt tg)).trans HS4.2
            refine hK _ _ HS5 ?_
            clear hK K HS4 hst5 haf5 KR hg hrm
            try simp only
            refine wpAnyE_last (by kernel_rfl) (by kernel_rfl) rfl (fun K hK => ?_)
            go_simp
            refine hK _ _ ?_
            clear hK K HS5
            by_cases hr0 : r0 = 0
            · subst hr0
              go_wp2_with fail
              exact ⟨⟨k + 1, true, s5, mk5, hkl, by simp, rfl, Lib.hid (HG.out.1 rfl)⟩, by simp only [intOf]; omega⟩
            · have e1 : (r0 == 0) = false := by simpa using hr0
              have e2 : (r0 != 0) = true := by simpa using hr0
              have KB := Lib.hid (broke_any HG.out.2.1 r0)
              rw [← HLB.out] at KB
              have HBK : Hid (brk l r0 = { l with broken := true }) := Lib.hid (if_neg hr0)
              have HRE : Hid (Wal.retire s l n = (r0, s5, { l with broken := true })) := Lib.hid (by
                have hsp : fs = fs.take k ++ f :: fs.drop (k + 1) := by
                  rw [HFE.out]
                  rw [← List.drop_eq_getElem_cons hkl, List.take_append_drop]
                have ho : Wal.olds s l n = (fs.take k).filter (Wal.oldp s l n) ++ f :: (fs.drop (k + 1)).filter (Wal.oldp s l n) := by
                  rw [HOE.out]
                  refine (congrArg (List.filter (Wal.oldp s l n)) hsp).trans ?_
                  rw [List.filter_append, List.filter_cons_of_pos (by rw [← HI.out.old f HFK.out, HOF.out])]
                have hst := Wal.removes_stop _ _ _ f ((fs.drop (k + 1)).filter (Wal.oldp s l n)) HI.out.rm (by rw [← HN.out, ← HRM.out]; exact hr0)
                rw [HRT.out, if_neg (by rw [ho]; simp), ho, hst, ← HN.out, ← HRM.out]
                simp only
                rw [if_pos hr0])
              clear hr0
              go_wp2_with fail
              refine KB.out.mono ?_
              rintro e w6 ⟨rfl, m6, hls6, haf6⟩
              rw [HBK.out] at hls6
              have HL6 := Lib.hid hls6
              have HA6 := Lib.hid (HG.out.2.2.trans haf6)
              clear hls6 haf6 KB
              go_wp2_with fail
              go_ret
              rw [HRE.out]
              exact ⟨rfl, m6, HL6.out, (Aft.of_below HB1.out (LRow m x)).trans HA6.out⟩
          · have e3 : decide (0 < LT.length) = true := decide_eq_true hpos
            have hTl : LT.length ≤ 16777216 := by
              have h9 := told_len HI.out.ls.st f
              rw [← HT.out, ← HLT.out, List.length_map] at h9
              exact h9
            have hT1 : (LT.length : Int) - 1 < (LT.length : Int) := by omega
            have hT2 : (0 : Int) ≤ (LT.length : Int) - 1 := by omega
            have hpos' : (0 : Int) < (LT.length : Int) := by omega
            obtain ⟨tb, tq, hA, _, hc⟩ := RdS.row (f := Wal.Bv.cells) (n := 2) (fun _ => rfl) (by omega) HOT.out.rd (by omega)
            have hjl : LT.length - 1 < LT.length := by omega
            have t0 := hc (LT.length - 1) hjl 0 _ rfl
            rw [Nat.add_zero] at t0
            have HGL : Hid (LT.getLast? = some LT[LT.length - 1]) := Lib.hid (by rw [List.getLast?_eq_getElem?, List.getElem?_eq_getElem hjl])
            obtain ⟨v, hv⟩ : ∃ v, v = LT[LT.length - 1] := ⟨_, rfl⟩
            rw [← hv] at t0 HGL
            rw [HGL.out] at HTE
            obtain ⟨vn, vA, vc, vb⟩ := v
            simp only at t0 HTE
            subst hA
            clear hv hc
            by_cases hgt : n < (vn : Int)
            · have e4 : decide (n < (vn : Int)) = true := decide_eq_true hgt
              have HOF : Hid (Wal.oldp sk l n f = false) := Lib.hid (by rw [HTE.out, decide_eq_false (by omega : ¬ (vn : Int) ≤ n), Bool.and_false])
              clear hfz
              go_wp2_with fail
              go_quiet (fail)
              refine Sto.drewN_of (fun X hbX hXh => ?_)
              have HBX := Lib.hid (HB3.out.trans (hbX.mono HB3.out.size))
              clear hbX hXh t0
              go_wp2_with fail
              exact ⟨⟨k + 1, an, sk, mk, hkl, by simp, rfl, Lib.hid (HI.out.skip HBX.out hkl (by rw [← HFE.out]; exact HFK.out) (by rw [← HFE.out]; exact HOF.out))⟩, by simp only [intOf]; omega⟩
            · have e4 : decide (n < (vn : Int)) = false := decide_eq_false hgt
              have HOF : Hid (Wal.oldp sk l n f = true) := Lib.hid (by rw [HTE.out, decide_eq_true (by omega : (vn : Int) ≤ n), Bool.and_true]; exact bne_iff_ne.2 hfz)
              clear hfz
              go_wp2_with fail
              go_quiet (fail)
              refine Sto.drewN_of (fun X hbX hXh => ?_)
              have HBX := Lib.hid (HB3.out.trans (hbX.mono HB3.out.size))
              clear hbX hXh t0
              obtain ⟨N, hN⟩ : ∃ N, N = Wal.name f := ⟨_, rfl⟩
              have KN := Lib.hid (fun V => name_any f hfk V N hN)
              have HN := Lib.hid hN
              have hNl : N.length ≤ 9000000000000000 := by rw [hN]; exact name_len _
              clear hN y0 y1 y2
              have HNX := Lib.hid (HCE.out X HBX.out).1
              obtain ⟨y0, y1⟩ := HNX.out
              go_wp2_with fail
              obtain ⟨V2, hV2⟩ : ∃ V2, X.drew = V2 := ⟨_, rfl⟩
              have hbV2 : Below X.heap.size X V2 := by rw [← hV2]; exact (Below.refl _ _).drew
              have HBV2 := Lib.hid (HBX.out.trans (hbV2.mono HBX.out.size))
              have HS0 := (HCE.out V2 HBV2.out).1
              refine wp_region_E 10 (CellS lb fb fo k (.pointer (some ⟨g, 0, none⟩)) (.int .i64 (f : Int))) (by kernel_rfl) ?_
              rw [hV2]
              clear hV2 hbV2 y0 y1
              refine wpAnyE_take (i := 0) (v := ?_) rfl (by kernel_rfl) (by kernel_rfl) (by kernel_rfl) (by kernel_rfl) (fun _ _ _ h => h) (Or.inl ⟨by rfl, ?_⟩) HS0 ?_
              rotate_left
              · (intro wy hSw; obtain ⟨q0, q1⟩ := hSw; go_simp; try with_reducible rfl)
              try simp only [Act.put, List.setIfInBounds_toArray]
              refine wpAnyE_take (i := 1) (v := ?_) rfl (by kernel_rfl) (by kernel_rfl) (by kernel_rfl) (by kernel_rfl) (fun _ _ _ h => h) (Or.inl ⟨by rfl, ?_⟩) HS0 ?_
              rotate_left
              · (intro wy hSw; obtain ⟨q0, q1⟩ := hSw; go_simp; try with_reducible rfl)
              try simp only [Act.put]
              refine wpAnyE_take (i := 2) (v := ?_) rfl (by kernel_rfl) (by kernel_rfl) (by kernel_rfl) (by kernel_rfl) (fun _ _ _ h => h) (Or.inl ⟨by rfl, ?_⟩) HS0 ?_
              rotate_left
              · (intro wy hSw; obtain ⟨q0, q1⟩ := hSw; go_simp; try with_reducible rfl)
              try simp only [Act.put]
              refine wpAnyE_take (i := 3) (v := ?_) rfl (by kernel_rfl) (by kernel_rfl) (by kernel_rfl) (by kernel_rfl) (fun _ _ _ h => h) (Or.inl ⟨by rfl, ?_⟩) HS0 ?_
              rotate_left
              · (intro wy hSw; obtain ⟨q0, q1⟩ := hSw; go_simp; try with_reducible rfl)
              try simp only [Act.put]
              refine wpAnyE_take (i := 4) (v := ?_) rfl (by kernel_rfl) (by kernel_rfl) (by kernel_rfl) (by kernel_rfl) (fun _ _ _ h => h) (Or.inl ⟨by rfl, ?_⟩) HS0 ?_
              rotate_left
              · (intro wy hSw; obtain ⟨q0, q1⟩ := hSw; go_simp; try with_reducible rfl)
              try simp only [Act.put]
              refine wpAnyE_take (i := 5) (v := ?_) rfl (by kernel_rfl) (by kernel_rfl) (by kernel_rfl) (by kernel_rfl) (fun _ _ _ h => h) (Or.inl ⟨by rfl, ?_⟩) HS0 ?_
              rotate_left
              · (intro wy hSw; obtain ⟨q0, q1⟩ := hSw; go_simp; try with_reducible rfl)
              try simp only [Act.put]
              refine wpAnyE_take (i := 6) (v := ?_) rfl (by kernel_rfl) (by kernel_rfl) (by kernel_rfl) (by kernel_rfl) (fun _ _ _ h => h) (Or.inl ⟨by rfl, ?_⟩) HS0 ?_
              rotate_left
              · (intro wy hSw; obtain ⟨q0, q1⟩ := hSw; go_simp; try with_reducible rfl)
              try simp only [Act.put]
              refine wpAnyE_take (i := 7) (v := ?_) rfl (by kernel_rfl) (by kernel_rfl) (by kernel_rfl) (by kernel_rfl) (fun _ _ _ h => h) (Or.inl ⟨by rfl, ?_⟩) HS0 ?_
              rotate_left
              · (intro wy hSw; obtain ⟨q0, q1⟩ := hSw; go_simp; try with_reducible rfl)
              try simp only [Act.put]
              refine wpAnyE_one (i := 8) (by kernel_rfl) rfl (fun K hK => ?_)
              go_simp
              refine (KN.out V2).mono ?_
              rintro e w4 ⟨rfl, hb4⟩
              have HB4 := Lib.hid (HBV2.out.trans (hb4.mono HBV2.out.size))
              have HL4 := Lib.hid (HI.out.ls.below HB4.out)
              have KR := Lib.hid (remove_any N hNl HL4.out.st (by have := HI.out.files; omega) (by have := HI.out.kept; omega))
              unfold Sto.str at KR
              have HS4 := (HCE.out w4 HB4.out).1
              refine hK _ _ HS4 ?_
              clear hK K HS0 hb4 KN
              try simp only [Act.put]
              refine wpAnyE_one (i := 9) (by kernel_rfl) rfl (fun K hK => ?_)
              go_simp
              refine KR.out.mono ?_
              rintro e w5 ⟨rfl, mk5, hst5, haf5⟩
              rw [HN.out, HFE.out] at hst5
              have hg := HI.out.gone HB4.out hkl (by rw [← HFE.out]; exact HFK.out) (by rw [← HFE.out]; exact HOF.out) hst5 haf5
              rw [← HFE.out, ← HN.out] at hg
              obtain ⟨rm, hrm⟩ : ∃ rm, rm = Sto.remove sk N := ⟨_, rfl⟩
              have HRM := Lib.hid hrm
              rw [← hrm] at hg ⊢
              obtain ⟨r0, s5⟩ := rm
              simp only at hg
              have HG := Lib.hid hg
              have HS5 : CellS lb fb fo k (.pointer (some ⟨g, 0, none⟩)) (.int .i64 (f : Int)) w5 := by
                obtain ⟨k0, _, _, _, _, _⟩ := hg.2.1.cells
                rw [← HLB.out] at k0
                refine ⟨k0, ?_⟩
                have hb5 : ∀ q, q < w4.heap.size → Sto.Tag w4 q 3 → w5.heap[q]? = w4.heap[q]? := fun q _ t => haf5.tag t (by decide)
                have hof : OwnS Wal.N1 1 w4 w.heap.size 3 (some ⟨fb, fo, none⟩) fcp fs := (HO1.out.keep (fun q e => HI.out.aft.tag (Sto.ownTagS HO1.out e) (by decide))).below HB4.out
                have tg := Sto.ownTagS hof (k := fb) rfl
                exact (World.cell?_of_block (a := ⟨fb, fo + k, none⟩) (hb5 fb tg.lt tg)).trans HS4.2
              refine hK _ _ HS5 ?_
              clear hK K HS4 hst5 haf5 KR hg hrm
              try simp only
              refine wpAnyE_last (by kernel_rfl) (by kernel_rfl) rfl (fun K hK => ?_)
              go_simp
              refine hK _ _ ?_
              clear hK K HS5
              by_cases hr0 : r0 = 0
              · subst hr0
                go_wp2_with fail
                exact ⟨⟨k + 1, true, s5, mk5, hkl, by simp, rfl, Lib.hid (HG.out.1 rfl)⟩, by simp only [intOf]; omega⟩
              · have e1 : (r0 == 0) = false := by simpa using hr0
                have e2 : (r0 != 0) = true := by simpa using hr0
                have KB := Lib.hid (broke_any HG.out.2.1 r0)
                rw [← HLB.out] at KB
                have HBK : Hid (brk l r0 = { l with broken := true }) := Lib.hid (if_neg hr0)
                have HRE : Hid (Wal.retire s l n = (r0, s5, { l with broken := true })) := Lib.hid (by
                  have hsp : fs = fs.take k ++ f :: fs.drop (k + 1) := by
                    rw [HFE.out]
                    rw [← List.drop_eq_getElem_cons hkl, List.take_append_drop]
                  have ho : Wal.olds s l n = (fs.take k).filter (Wal.oldp s l n) ++ f :: (fs.drop (k + 1)).filter (Wal.oldp s l n) := by
                    rw [HOE.out]
                    refine (congrArg (List.filter (Wal.oldp s l n)) hsp).trans ?_
                    rw [List.filter_append, List.filter_cons_of_pos (by rw [← HI.out.old f HFK.out, HOF.out])]
                  have hst := Wal.removes_stop _ _ _ f ((fs.drop (k + 1)).filter (Wal.oldp s l n)) HI.out.rm (by rw [← HN.out, ← HRM.out]; exact hr0)
                  rw [HRT.out, if_neg (by rw [ho]; simp), ho, hst, ← HN.out, ← HRM.out]
                  simp only
                  rw [if_pos hr0])
                clear hr0
                go_wp2_with fail
                refine KB.out.mono ?_
                rintro e w6 ⟨rfl, m6, hls6, haf6⟩
                rw [HBK.out] at hls6
                have HL6 := Lib.hid hls6
                have HA6 := Lib.hid (HG.out.2.2.trans haf6)
                clear hls6 haf6 KB
                go_wp2_with fail
                go_ret
                rw [HRE.out]
                exact ⟨rfl, m6, HL6.out, (Aft.of_below HB1.out (LRow m x)).trans HA6.out⟩
      · have hkl' : ¬ (k : Int) < (fs.length : Int) := by omega
        have HKE : Hid (fs.take k = fs) := Lib.hid (List.take_of_length_le (by omega))
        rcases an with _ | _
        · have HOL : Hid (Wal.olds s l n = [] ∧ sk = s) := Lib.hid (by
            have h1 := HI.out.an
            rw [HKE.out] at h1
            have h2 : fs.filter (Wal.oldp s l n) = [] := by simpa using h1.symm
            have h3 := HI.out.rm
            rw [HKE.out, h2] at h3
            injection h3 with _ h3
            exact ⟨by rw [HOE.out]; exact h2, h3.symm⟩)
          go_wp2_with fail
          go_ret
          rw [HRT.out, if_pos HOL.out.1]
          have h4 := HI.out.ls
          rw [HOL.out.2] at h4
          exact ⟨rfl, mk, h4, (Aft.of_below HB1.out (LRow m x)).trans HI.out.aft⟩
        · have HOL : Hid (Wal.olds s l n ≠ [] ∧ Wal.removes s (Wal.olds s l n) = (0, sk)) := Lib.hid (by
            have h1 := HI.out.an
            have h3 := HI.out.rm
            rw [HKE.out] at h1 h3
            rw [HOE.out]
            exact ⟨by simpa using h1.symm, h3⟩)
          obtain ⟨c0, _, _, _, _, _⟩ := HI.out.ls.cells
          rw [← HLB.out] at c0
          have KD := Lib.hid (syncDir_any HI.out.ls.st (by have := HI.out.files; omega))
          obtain ⟨b, hb⟩ : ∃ b, b = Sto.syncDir sk := ⟨_, rfl⟩
          rw [← hb] at KD
          have HRE : Hid (Wal.retire s l n = (b.1, b.2, brk l b.1)) := Lib.hid (by
            rw [HRT.out, if_neg HOL.out.1, HOL.out.2]
            simp only
            rw [if_neg (by simp), ← hb, brk_self HO.out.symm])
          clear hb
          go_wp2_with fail
          refine KD.out.mono ?_
          rintro e w4 ⟨rfl, m4, hst4, haf4⟩
          have HL4 := Lib.hid (HI.out.ls.store hst4 haf4)
          have HA4 := Lib.hid (HI.out.aft.trans (laft (x := x) haf4))
          have KB := Lib.hid (broke_any HL4.out b.1)
          rw [← HLB.out] at KB
          clear hst4 haf4 KD c0
          go_wp2_with fail
          refine KB.out.mono ?_
          rintro e w5 ⟨rfl, m5, hls5, haf5⟩
          have HL5 := Lib.hid hls5
          have HA5 := Lib.hid (HA4.out.trans haf5)
          clear hls5 haf5 KB
          go_wp2_with fail
          go_ret
          rw [HRE.out]
          exact ⟨rfl, m5, HL5.out, (Aft.of_below HB1.out (LRow m x)).trans HA5.out⟩
  · have HE : Hid (Wal.retire s l n = (9, s, l)) := Lib.hid (by unfold Wal.retire; rw [if_pos HO.out.symm])
    go_wp2_with fail
    go_ret
    rw [HE.out]
    exact ⟨rfl, m, H.out, Aft.refl _ _ _⟩
end
end Ref
end Go.Proofs.YtaiokogbhfliiaaGreatDoor
