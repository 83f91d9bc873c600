/- Parts of the proof, one behind the other: Contracts of the log: its files. -/
import Derived.Test.YtaiokogbhfliiaaGreatDoorMrg25
import Derived.Test.YtaiokogbhfliiaaGreatDoorMrg32
namespace Go.Proofs.YtaiokogbhfliiaaGreatDoor
open Go.RowKit Go.Maps

namespace Wal
def N1 (n : Nat) : List Value := [.int .i64 (n : Int)]
theorem numT : RT Tryz.prog 88 84 N1 1 8 (.int .i64 0) :=
  ⟨Tryz.underlying88, by kernel_rfl, fun _ => rfl, fun v u hu => by simp [N1] at hu; subst hu; rfl, by omega, rfl⟩
theorem rd_num_new (w : World) (n : Nat) : RdS N1 1 (w.alloc (.cells #[.int .i64 (n : Int)] 84)) (w.heap.size + 1) (some ⟨w.heap.size, 0, none⟩) [n] := by
  refine RdS.of (f := N1) (n := 1) (l := [n]) (fun _ => rfl) _ 0 (by omega) (fun k hk j u hj => ?_)
  obtain rfl : k = 0 := by simp at hk; exact hk
  have hj' : (N1 n)[j]? = some u := hj
  rw [cell_of_row _ w.heap.size _ _ _ (0, 0) (heap_alloc_new w _)]
  simpa [N1] using hj'
def filesOf (l : List (List UInt8)) : List Nat := (l.map numbered).filter fun n => decide (0 < n)
theorem filesOf_snoc (l : List (List UInt8)) (x : List UInt8) : filesOf (l ++ [x]) = if 0 < numbered x then filesOf l ++ [numbered x] else filesOf l := by
  unfold filesOf
  rw [List.map_append, List.filter_append]
  by_cases h : 0 < numbered x
  · rw [if_pos h]; simp [h]
  · rw [if_neg h]; simp [h]
theorem filesOf_len (l : List (List UInt8)) : (filesOf l).length ≤ l.length := by
  unfold filesOf
  have := List.length_filter_le (fun n => decide (0 < n)) (l.map numbered)
  simpa using this
theorem numbered_bd (l : List UInt8) : numbered l < 1000000 := by
  unfold numbered
  split
  · rename_i h
    have h1 := Prs.dval_bound _ h.2.2
    have h2 : (l.drop 4).length = 6 := by rw [List.length_drop]; omega
    rw [h2] at h1
    exact h1
  · omega
set_option maxHeartbeats 1000000 in
set_option maxRecDepth 100000 in
theorem files_any {w : World} {base g : Nat} {s : Sto.St} {m : Sto.Mem} (h : Sto.StAt w base g s m) (hf : s.files.length ≤ 1000000) :
    Calls Tryz.prog 45 #[.pointer (some ⟨g, 0, none⟩)] w fun e w' => ∃ A c, e = .returned (.slice A (files s).length c) ∧ OwnS N1 1 w' w.heap.size 84 A c (files s) ∧ Below w.heap.size w w' := by
  have hnl : (Sto.names s).length ≤ 1000000 := by
    unfold Sto.names
    rw [List.length_map]
    exact Nat.le_trans h.r.ok.gnow.len hf
  have KN := Lib.hid (Sto.names_any h hf)
  have HE : Hid (files s = filesOf (Sto.names s)) := Lib.hid rfl
  obtain ⟨l, hl⟩ : ∃ l, l = Sto.names s := ⟨_, rfl⟩
  rw [← hl] at KN HE hnl
  rw [HE.out]
  clear h hl
  go_enter Tryz.func45, Tryz.ntmps45
  go_wp2_with fail
  refine KN.out.mono ?_
  rintro e w1 ⟨A, c, rfl, ho, hb1⟩
  have HO := Lib.hid ho
  have HB1 := Lib.hid hb1
  clear ho hb1
  go_wp2_with fail
  go_loopw [3, 10] (fun o i wr => ∃ (k oc : Nat) (OA : Option Addr) (L : List Nat), k ≤ l.length ∧ i = .int .i64 (k : Int) ∧ o = .slice OA L.length oc ∧ L.length ≤ k ∧ Hid (L = filesOf (l.take k)) ∧ Hid (OwnS N1 1 wr w.heap.size 84 OA oc L) ∧ Hid (OwnS Sto.S1 1 wr w.heap.size 9 A c l) ∧ Hid (Below w.heap.size w wr)) (fun _ i _ => l.length - (intOf i).toNat)
  case atStart => exact ⟨0, 0, none, [], by omega, rfl, rfl, Nat.le_refl _, Lib.hid rfl, Lib.hid (OwnS.nil _ _ _), HO, HB1⟩
  case round =>
    obtain ⟨k, oc, OA, L, hk, rfl, rfl, hLk, HL, HOL, HON, HB⟩ := hrel
    by_cases hlt : k < l.length
    · obtain ⟨b, off, hA, hb, hc⟩ := RdS.row (f := Sto.S1) (n := 1) (fun _ => rfl) (by omega) HON.out.rd (by omega)
      have c0 := hc k hlt 0 _ rfl
      rw [Nat.add_zero, Nat.mul_one] at c0
      have KM := Lib.hid (numbered_any l[k] wr)
      have HSN : Hid (filesOf (l.take (k + 1)) = if 0 < numbered l[k] then L ++ [numbered l[k]] else L) := Lib.hid (by
        rw [List.take_succ_eq_append_getElem hlt, filesOf_snoc, HL.out])
      have hnb := numbered_bd l[k]
      obtain ⟨S, hS⟩ : ∃ S, S = (⟨(l[k]).toArray⟩ : ByteArray) := ⟨_, rfl⟩
      obtain ⟨z, hz⟩ : ∃ z, z = numbered l[k] := ⟨_, rfl⟩
      have c0' : wr.cell? ⟨b, off + k, none⟩ = some (.string S) := by rw [hS]; exact c0
      rw [← hS, ← hz] at KM
      rw [← hz] at HSN hnb
      subst hA
      clear c0 hc hS hz
      go_wp2_with fail
      refine KM.out.mono ?_
      rintro e w2 ⟨rfl, hb2⟩
      have HB2 := Lib.hid (HB.out.trans (hb2.mono HB.out.size))
      have HON2 := Lib.hid (HON.out.below hb2)
      have HOL2 := Lib.hid (HOL.out.below hb2)
      clear hb2 c0'
      by_cases hz0 : (0 : Int) < (z : Int)
      · have hws := HB2.out.size
        go_wp2_with (at_builtin; refine wpList_append_s _ rfl _ _ numT rfl w.heap.size OA oc L rfl (HOL2.out.alloc _) (w2.heap.size + 1) (some ⟨w2.heap.size, 0, none⟩) 1 1 [z] rfl rfl (rd_num_new w2 z) (by simp; omega) (by unfold maxLen; simp; omega) (by simp; omega) ?_; intro A3 c3 L3 w8 hl3 ho3 hg3 hat3)
        have hl3 : L3 = L ++ [z] := hl3
        subst hl3
        have HON8 : Hid (OwnS Sto.S1 1 w8 w.heap.size 9 (some ⟨b, off, none⟩) c l) := Lib.hid (HON2.out.keep (fun k e => by
          have t1 := Sto.ownTagS HON2.out e
          rw [hg3.block k (by simp; have := t1.lt; omega) (fun e2 => (Sto.ownTagS HOL2.out e2.symm).ne t1 (by decide) rfl), Below.heap_alloc _ _ _ t1.lt]))
        have HB8 : Hid (Below w.heap.size w w8) := Lib.hid ((HB2.out.alloc hws _).grown hg3 (by simp; omega) (fun g e => (HOL2.out.blk_ge g e).1))
        exact ⟨⟨k + 1, c3, A3, L ++ [z], hlt, by simp, by simp, by simp; omega, Lib.hid (by rw [HSN.out, if_pos (by omega)]), Lib.hid ho3, HON8, HB8⟩, by simp only [intOf]; omega⟩
      · have HLN : Hid (L = filesOf (l.take (k + 1))) := Lib.hid (by rw [HSN.out, if_neg (by omega)])
        go_wp2_with fail
        exact ⟨⟨k + 1, oc, OA, L, hlt, by simp, rfl, by omega, HLN, HOL2, HON2, HB2⟩, by simp only [intOf]; omega⟩
    · have hke : k = l.length := by omega
      subst hke
      have HLE : Hid (L = filesOf l) := Lib.hid (by rw [HL.out, List.take_length])
      go_wp2_with fail
      go_ret
      rw [← HLE.out]
      exact ⟨OA, oc, rfl, HOL.out, HB.out⟩
end Wal
end Go.Proofs.YtaiokogbhfliiaaGreatDoor
