/- Parts of the proof, one behind the other: Contracts of the reference's store: IsName, find, without, with, made.; Contracts of the reference's store: IsName, made.; Contracts of the reference's store: may, Plan, New.; The reference's store: how its memory turns.; Contracts of the reference's store: New, Plan, SyncDir, Read, Names, Size.; Contracts of the reference's store: change, Size.; Contracts of the reference's store: Size, Create, Remove, Sync.; Contracts of the reference's store: Create, Sync, Append.; Contracts of the reference's store: Append.; Contracts of the reference's store: Crash.; Contracts of the reference's store: Crash, walked.; Contracts of the reference's log: a file's name, the number of a name.; The reference store's Same (at strings); files in memory; much, at files and steps.; Both stores beside each other; stores. -/
import Derived.Test.YtaiokogbhfliiaaGreatDoorSrg01
import Derived.Test.YtaiokogbhfliiaaGreatDoorSrg03
import Derived.Test.YtaiokogbhfliiaaGreatDoorMrg01
import Derived.Test.YtaiokogbhfliiaaGreatDoorMrg33
import Derived.BigQuiet
import Derived.Test.YtaiokogbhfliiaaGreatDoorMrg17
import Derived.Test.YtaiokogbhfliiaaGreatDoorMrg28
import Derived.Test.YtaiokogbhfliiaaGreatDoorMrg06
import Derived.Test.YtaiokogbhfliiaaGreatDoorMrg24
import Derived.Lib.SlBytesConst
import Derived.Test.YtaiokogbhfliiaaGreatDoorMrg38
namespace Go.Proofs.YtaiokogbhfliiaaGreatDoor
open Go.RowKit Go.Maps

namespace Ref
theorem rd_one {α : Type} {f : α → List Value} {n : Nat} (hf : ∀ a, (f a).length = n) (w : World) (a : α) (T : TypeId) : RdS f n (w.alloc (.cells (f a).toArray T)) (w.heap.size + 1) (some ⟨w.heap.size, 0, none⟩) [a] := by
  refine RdS.of hf _ 0 (by omega) (fun k hk j u hj => ?_)
  obtain rfl : k = 0 := by simpa using hk
  rw [cell_of_row _ w.heap.size _ _ _ (0, 0) (heap_alloc_new w _)]
  simpa using hj
theorem rd_en {w : World} {A : Option Addr} {l : Sto.Dir} {B : Nat} (h : RdS E1 2 w B A l) {k : Nat} (hk : k < l.length) : ∃ b off, A = some ⟨b, off, none⟩ ∧ b < B ∧ w.cell? ⟨b, off + k * 2, none⟩ = some (.string ⟨(l[k]).1.toArray⟩) ∧ w.cell? ⟨b, off + k * 2 + 1, none⟩ = some (.int .i64 ((l[k]).2 : Int)) := by
  obtain ⟨b, off, hA, hb, hc⟩ := RdS.row (f := E1) (n := 2) (fun _ => rfl) (by omega) h (by omega)
  have c0 := hc k hk 0 _ rfl
  have c1 := hc k hk 1 _ rfl
  rw [Nat.add_zero] at c0
  exact ⟨b, off, hA, hb, c0, c1⟩
/-- Two strings, the same or not. -/
theorem str_cases {a b : Sto.Str} {S R : ByteArray} (hS : (⟨a.toArray⟩ : ByteArray) = S) (hR : (⟨b.toArray⟩ : ByteArray) = R) : (a = b ∧ S = R ∧ (S.toList == R.toList) = true ∧ (S.toList != R.toList) = false) ∨ (a ≠ b ∧ (S.toList == R.toList) = false ∧ (S.toList != R.toList) = true) := by
  by_cases h : a = b
  · subst h
    have e : S = R := hS.symm.trans hR
    subst e
    exact .inl ⟨rfl, rfl, by simp, by simp⟩
  · have h1 := str_ne hS hR h
    exact .inr ⟨h, h1, by rw [bne, h1]; rfl⟩
def fnd (l : Sto.Dir) (n : Sto.Str) : Int := match Sto.find l n with
  | none => -1
  | some i => (i : Int)
theorem fnd_at {l : Sto.Dir} {n : Sto.Str} {k : Nat} (hk : k < l.length) (h : (l[k]).1 = n) (hp : ∀ p ∈ l.take k, p.1 ≠ n) : fnd l n = ((l[k]).2 : Int) := by
  have e : l.take k ++ l[k] :: l.drop (k + 1) = l := by rw [List.getElem_cons_drop]; exact List.take_append_drop k l
  have h1 : (l.take k ++ l[k] :: l.drop (k + 1)).find? (fun p => p.1 == n) = some l[k] := by
    rw [List.find?_append]
    have h2 : (l.take k).find? (fun p => p.1 == n) = none := by
      rw [List.find?_eq_none]
      intro p hm
      simpa using hp p hm
    rw [h2, Option.none_or, List.find?_cons_of_pos (by simpa using h)]
  rw [e] at h1
  unfold fnd Sto.find
  rw [h1]; rfl
theorem fnd_none {l : Sto.Dir} {n : Sto.Str} (hp : ∀ p ∈ l, p.1 ≠ n) : fnd l n = -1 := by
  unfold fnd
  rw [Sto.find_none.2 hp]
set_option maxHeartbeats 1000000 in
set_option maxRecDepth 100000 in
theorem find_any (A : Option Addr) (c : Nat) (l : Sto.Dir) (n : Sto.Str) (w : World) (h : RdS E1 2 w w.heap.size A l) (hl : l.length ≤ 9000000000000000) :
    Calls Tryz.prog 84 #[.slice A l.length c, Sto.str n] w fun e w' => e = .returned (.int .i64 (fnd l n)) ∧ w' = w := by
  have H := Lib.hid h
  clear h
  obtain ⟨N, hN⟩ : ∃ N, (⟨n.toArray⟩ : ByteArray) = N := ⟨_, rfl⟩
  unfold Sto.str
  rw [hN]
  have HN := Lib.hid hN
  clear hN
  go_enter Tryz.func84, Tryz.ntmps84
  go_wp2_with fail
  go_loop [5] (fun i => ∃ k : Nat, i = .int .i64 (k : Int) ∧ k ≤ l.length ∧ Hid (∀ p ∈ l.take k, p.1 ≠ n)) (fun i => l.length - (intOf i).toNat)
  case atStart => exact ⟨0, rfl, by omega, Lib.hid (fun _ h => by simp at h)⟩
  case round =>
    obtain ⟨k, rfl, hk, HP⟩ := hrel
    by_cases hlt : k < l.length
    · have hlt' : (k : Int) < (l.length : Int) := by omega
      obtain ⟨b, off, hA, hb, c0, c1⟩ := rd_en H.out hlt
      have HK : Hid (l.take (k + 1) = l.take k ++ [l[k]]) := Lib.hid (List.take_succ_eq_append_getElem hlt)
      have HF := Lib.hid (fun h => fnd_at hlt h HP.out)
      obtain ⟨p, hp⟩ : ∃ p, p = l[k] := ⟨_, rfl⟩
      rw [← hp] at c0 c1 HK HF
      obtain ⟨q, i⟩ := p
      simp only at c0 c1 HK HF
      obtain ⟨S, hS⟩ : ∃ S, (⟨q.toArray⟩ : ByteArray) = S := ⟨_, rfl⟩
      rw [hS] at c0
      subst hA
      clear hp
      rcases str_cases hS HN.out with ⟨h1, rfl, h3, h4⟩ | ⟨h1, h3, h4⟩
      · have HE : Hid (fnd l n = (i : Int)) := Lib.hid (HF.out h1)
        clear h1 hS HF HK
        go_wp2_with fail
        go_ret
        rw [HE.out]
        exact ⟨rfl, rfl⟩
      · have HQ := Lib.hid h1
        clear h1 hS HF
        go_wp2_with fail
        go_round
        case rel => exact ⟨k + 1, by simp, hlt, Lib.hid (by
          rw [HK.out]
          intro p hm
          rcases List.mem_append.1 hm with hm | hm
          · exact HP.out p hm
          · rw [List.mem_singleton] at hm
            rw [hm]; exact HQ.out)⟩
        case measure => simp [intOf]; omega
    · have hlt' : ¬ (k : Int) < (l.length : Int) := by omega
      have HE : Hid (fnd l n = -1) := Lib.hid (fnd_none (by
        have h9 := HP.out
        rwa [List.take_of_length_le (by omega)] at h9))
      go_wp2_with fail
      go_ret
      rw [HE.out]
      exact ⟨rfl, rfl⟩
/-- A directory of the call's own. -/
def DirP (w : World) (l : Sto.Dir) (e : Ending) (w' : World) : Prop := ∃ A c, e = .returned (.slice A l.length c) ∧ OwnS E1 2 w' w.heap.size 128 A c l ∧ Below w.heap.size w w'
theorem del_snoc (l : Sto.Dir) (p : Sto.Str × Nat) (n : Sto.Str) : Sto.del (l ++ [p]) n = Sto.del l n ++ (if p.1 = n then [] else [p]) := by
  unfold Sto.del
  rw [List.filter_append]
  congr 1
  by_cases h : p.1 = n
  · rw [if_pos h, List.filter_cons_of_neg (by simpa using h)]; rfl
  · rw [if_neg h, List.filter_cons_of_pos (by simpa using h)]; rfl
/-- A row of the call's own grows. -/
theorem own_app {w w1 w8 : World} {A : Option Addr} {o : Obj} (hb : Below w.heap.size w w1) (hA : ∀ k, blk A = some k → w.heap.size ≤ k) (hg : (w1.alloc o).grownBy w8 (blk A)) : Below w.heap.size w w8 := by
  have h1 := hb.alloc hb.size o
  exact ⟨hg.os.trans h1.os, hg.tape.trans h1.tape, hg.output.trans h1.output, Nat.le_trans h1.size hg.size, fun k hk => (hg.block k (Nat.lt_of_lt_of_le hk h1.size) (fun e => by have := hA k e.symm; omega)).trans (h1.block k hk)⟩
set_option maxHeartbeats 1000000 in
set_option maxRecDepth 100000 in
theorem without_any (A : Option Addr) (c : Nat) (l : Sto.Dir) (n : Sto.Str) (w : World) (h : RdS E1 2 w w.heap.size A l) (hl : l.length ≤ 10000000) :
    Calls Tryz.prog 110 #[.slice A l.length c, Sto.str n] w (DirP w (Sto.del l n)) := by
  have H := Lib.hid h
  clear h
  obtain ⟨N, hN⟩ : ∃ N, (⟨n.toArray⟩ : ByteArray) = N := ⟨_, rfl⟩
  unfold Sto.str
  rw [hN]
  have HN := Lib.hid hN
  clear hN
  go_enter Tryz.func110, Tryz.ntmps110
  go_wp2_with fail
  go_loopw [5, 6] (fun o i wr => ∃ (k oc : Nat) (OA : Option Addr) (Q : Sto.Dir), k ≤ l.length ∧ i = .int .i64 (k : Int) ∧ o = .slice OA Q.length oc ∧ Q.length ≤ k ∧ Hid (Q = Sto.del (l.take k) n) ∧ Hid (OwnS E1 2 wr w.heap.size 128 OA oc Q) ∧ Hid (Below w.heap.size w wr)) (fun _ i _ => l.length - (intOf i).toNat)
  case atStart => exact ⟨0, 0, none, [], by omega, rfl, rfl, Nat.le_refl _, Lib.hid rfl, Lib.hid (OwnS.nil _ _ _), Lib.hid (Below.refl _ _)⟩
  case round =>
    obtain ⟨k, oc, OA, Q, hk, rfl, rfl, hql, HQ, HO, HB⟩ := hrel
    by_cases hlt : k < l.length
    · have hlt' : (k : Int) < (l.length : Int) := by omega
      obtain ⟨b, off, hA, hb, c0, c1⟩ := rd_en ((H.out.below HB.out (Nat.le_refl _)).more HB.out.size) hlt
      have HK : Hid (Sto.del (l.take (k + 1)) n = Q ++ (if (l[k]).1 = n then [] else [l[k]])) := Lib.hid (by rw [List.take_succ_eq_append_getElem hlt, del_snoc, HQ.out])
      obtain ⟨p, hp⟩ : ∃ p, p = l[k] := ⟨_, rfl⟩
      rw [← hp] at c0 c1 HK
      obtain ⟨q, i⟩ := p
      simp only at c0 c1 HK
      obtain ⟨S, hS⟩ : ∃ S, (⟨q.toArray⟩ : ByteArray) = S := ⟨_, rfl⟩
      rw [hS] at c0
      have HRD : Hid (RdS E1 2 (wr.alloc (.cells #[.string S, .int .i64 (i : Int)] 128)) (wr.heap.size + 1) (some ⟨wr.heap.size, 0, none⟩) [(q, i)]) := Lib.hid (by
        rw [← hS]
        exact rd_one (fun _ => rfl) wr (q, i) _)
      subst hA
      clear hp
      rcases str_cases hS HN.out with ⟨h1, rfl, h3, h4⟩ | ⟨h1, h3, h4⟩
      · have HE : Hid (Sto.del (l.take (k + 1)) n = Q) := Lib.hid (by rw [HK.out, if_pos h1, List.append_nil])
        clear h1 hS HK
        go_wp2_with fail
        exact ⟨⟨k + 1, oc, OA, Q, hlt, by simp, rfl, by omega, Lib.hid HE.out.symm, HO, HB⟩, by simp only [intOf]; omega⟩
      · have HE : Hid (Sto.del (l.take (k + 1)) n = Q ++ [(q, i)]) := Lib.hid (by rw [HK.out, if_neg h1])
        have hqm : Q.length ≤ 10000000 := by omega
        have hbs : w.heap.size ≤ wr.heap.size := HB.out.size
        clear h1 hS HK
        go_wp2_with (at_builtin; refine wpList_append_s _ rfl _ _ enT rfl w.heap.size OA oc Q rfl (HO.out.alloc _) (wr.heap.size + 1) (some ⟨wr.heap.size, 0, none⟩) 1 1 [(q, i)] rfl rfl HRD.out (by simp; omega) (by unfold maxLen; simp; omega) (by simp; omega) ?_; intro A8 c8 L8 w8 hl8 ho8 hg8 hat8; have HGO := Lib.hid hg8; have HOO := Lib.hid ho8; have HLO := Lib.hid hl8; clear hg8 ho8 hl8 hat8)
        have hll : L8.length = Q.length + 1 := by rw [HLO.out, List.length_append]; rfl
        exact ⟨⟨k + 1, c8, A8, L8, hlt, by simp, rfl, by omega, Lib.hid (by rw [HLO.out, HE.out]), HOO, Lib.hid (own_app HB.out (fun k e => (HO.out.blk_ge k e).1) HGO.out)⟩, by simp only [intOf]; omega⟩
    · have hlt' : ¬ (k : Int) < (l.length : Int) := by omega
      have HE : Hid (Sto.del l n = Q) := Lib.hid (by rw [HQ.out, List.take_of_length_le (by omega)])
      go_wp2_with fail
      go_ret
      rw [HE.out]
      exact ⟨OA, oc, rfl, HO.out, HB.out⟩
theorem less_before : ∀ a b : List UInt8, Op.bytesLess a b = bytesBefore a b
  | [], [] => rfl
  | [], _ :: _ => rfl
  | _ :: _, [] => rfl
  | a :: r, b :: s => by
    unfold Op.bytesLess bytesBefore
    rw [less_before r s]
/-- What is put where, round by round. -/
structure PutI (x : Sto.Str × Nat) (r : Sto.Dir) (k : Nat) (p : Bool) (Q : Sto.Dir) : Prop where
  len : Q.length ≤ k + 1
  no : p = false → Q = r.take k ∧ Sto.ins x r = Q ++ Sto.ins x (r.drop k)
  yes : p = true → Sto.ins x r = Q ++ r.drop k
section
variable {x y : Sto.Str × Nat} {r Q : Sto.Dir} {k : Nat}
theorem PutI.skip (h : PutI x r k false Q) (hd : r.drop k = y :: r.drop (k + 1)) (ht : r.take (k + 1) = r.take k ++ [y]) (hb : bytesBefore x.1 y.1 = false) : PutI x r (k + 1) false (Q ++ [y]) := by
  have hl := h.len
  obtain ⟨h1, h2⟩ := h.no rfl
  refine ⟨by rw [List.length_append, List.length_singleton]; omega, fun _ => ⟨by rw [ht, h1], ?_⟩, fun h => (by cases h)⟩
  rw [h2, hd, Sto.ins, if_neg (by simp [hb]), List.append_assoc]; rfl
theorem PutI.here (h : PutI x r k false Q) (hd : r.drop k = y :: r.drop (k + 1)) (hb : bytesBefore x.1 y.1 = true) : PutI x r (k + 1) true (Q ++ [x] ++ [y]) := by
  obtain ⟨h1, h2⟩ := h.no rfl
  have hl : Q.length ≤ k := by rw [h1, List.length_take]; omega
  refine ⟨by rw [List.length_append, List.length_append, List.length_singleton, List.length_singleton]; omega, fun h => (by cases h), fun _ => ?_⟩
  rw [h2, hd, Sto.ins, if_pos hb, List.append_assoc, List.append_assoc]; rfl
theorem PutI.rest (h : PutI x r k true Q) (hd : r.drop k = y :: r.drop (k + 1)) : PutI x r (k + 1) true (Q ++ [y]) := by
  have hl := h.len
  refine ⟨by rw [List.length_append, List.length_singleton]; omega, fun h => (by cases h), fun _ => ?_⟩
  rw [h.yes rfl, hd, List.append_assoc]; rfl
theorem PutI.last (h : PutI x r k false Q) (hk : r.length ≤ k) : Sto.ins x r = Q ++ [x] := by
  rw [(h.no rfl).2, List.drop_of_length_le hk]; rfl
theorem PutI.done (h : PutI x r k true Q) (hk : r.length ≤ k) : Sto.ins x r = Q := by
  rw [h.yes rfl, List.drop_of_length_le hk, List.append_nil]
end
set_option maxHeartbeats 1000000 in
set_option maxRecDepth 100000 in
theorem with_any (A : Option Addr) (c : Nat) (l : Sto.Dir) (n : Sto.Str) (i : Nat) (w : World) (h : RdS E1 2 w w.heap.size A l) (hl : l.length ≤ 10000000) :
    Calls Tryz.prog 109 #[.slice A l.length c, Sto.str n, .int .i64 (i : Int)] w (DirP w (Sto.put l n i)) := by
  have KW := Lib.hid (without_any A c l n w h hl)
  clear h
  obtain ⟨N, hN⟩ : ∃ N, (⟨n.toArray⟩ : ByteArray) = N := ⟨_, rfl⟩
  unfold Sto.str at KW ⊢
  rw [hN] at KW ⊢
  have HN := Lib.hid hN
  clear hN
  go_enter Tryz.func109, Tryz.ntmps109
  go_wp2_with fail
  refine KW.out.mono ?_
  rintro e w1 ⟨RA, rc, rfl, ho1, hb1⟩
  obtain ⟨r, hr⟩ : ∃ r, r = Sto.del l n := ⟨_, rfl⟩
  have HR : Hid (Sto.put l n i = Sto.ins (n, i) r) := Lib.hid (by rw [hr]; rfl)
  rw [← hr] at ho1 ⊢
  have hrl : r.length ≤ 10000000 := by
    have := Sto.del_len (l := l) (n := n)
    rw [hr]; omega
  have HO1 := Lib.hid ho1
  have HB1 := Lib.hid hb1
  have hbs1 : w.heap.size ≤ w1.heap.size := hb1.size
  clear ho1 hb1 KW hr
  go_wp2_with fail
  go_loopw [7, 9, 10] (fun o p j wr => ∃ (k oc : Nat) (b : Bool) (OA : Option Addr) (Q : Sto.Dir), k ≤ r.length ∧ j = .int .i64 (k : Int) ∧ p = .bool b ∧ o = .slice OA Q.length oc ∧ Hid (PutI (n, i) r k b Q) ∧ Hid (OwnS E1 2 wr w1.heap.size 128 OA oc Q) ∧ Hid (Below w1.heap.size w1 wr)) (fun _ _ j _ => r.length - (intOf j).toNat)
  case atStart => exact ⟨0, 0, false, none, [], by omega, rfl, rfl, rfl, Lib.hid ⟨by simp, fun _ => ⟨rfl, rfl⟩, fun h => by cases h⟩, Lib.hid (OwnS.nil _ _ _), Lib.hid (Below.refl _ _)⟩
  case round =>
    obtain ⟨k, oc, b, OA, Q, hk, rfl, rfl, rfl, HP, HO, HB⟩ := hrel
    have hql : Q.length ≤ k + 1 := HP.out.len
    have hbs : w1.heap.size ≤ wr.heap.size := HB.out.size
    by_cases hlt : k < r.length
    · have hlt' : (k : Int) < (r.length : Int) := by omega
      obtain ⟨bb, off, hA, hb, c0, c1⟩ := rd_en (HO1.out.rd.below HB.out (Nat.le_refl _)) hlt
      have HK : Hid (r.take (k + 1) = r.take k ++ [r[k]] ∧ r.drop k = r[k] :: r.drop (k + 1)) := Lib.hid ⟨List.take_succ_eq_append_getElem hlt, List.drop_eq_getElem_cons hlt⟩
      obtain ⟨p, hp⟩ : ∃ p, p = r[k] := ⟨_, rfl⟩
      rw [← hp] at c0 c1 HK
      obtain ⟨q, j⟩ := p
      simp only at c0 c1 HK
      obtain ⟨S, hS⟩ : ∃ S, (⟨q.toArray⟩ : ByteArray) = S := ⟨_, rfl⟩
      rw [hS] at c0
      have HL : Hid (S.toList = q ∧ N.toList = n) := Lib.hid (by
        have := HN.out
        subst hS this
        exact ⟨by rw [ByteArray.toList_eq], by rw [ByteArray.toList_eq]⟩)
      have HRD : Hid (∀ V : World, RdS E1 2 (V.alloc (.cells #[.string S, .int .i64 (j : Int)] 128)) (V.heap.size + 1) (some ⟨V.heap.size, 0, none⟩) [(q, j)]) := Lib.hid (fun V => by
        rw [← hS]
        exact rd_one (fun _ => rfl) V (q, j) _)
      subst hA
      clear hp hS
      rcases b with _ | _
      · rcases hbq : bytesBefore n q with _ | _
        · have HE : Hid (PutI (n, i) r (k + 1) false (Q ++ [(q, j)])) := Lib.hid (HP.out.skip HK.out.2 HK.out.1 hbq)
          have hle : (Op.bytesLess S.toList N.toList = true) ∨ (Op.bytesLess S.toList N.toList = false ∧ (S.toList == N.toList) = true) := by
            have h1 := less_tri N.toList S.toList
            rw [HL.out.1, HL.out.2] at h1 ⊢
            rw [less_before, hbq] at h1
            rcases h2 : Op.bytesLess q n with _ | _
            · right
              refine ⟨rfl, ?_⟩
              rcases h3 : (q == n) with _ | _
              · have := h1.2 ⟨h2, h3⟩; cases this
              · rfl
            · exact .inl rfl
          clear hbq
          rcases hle with hle | ⟨hle, heq⟩
          all_goals
            go_wp2_with (at_builtin; refine wpList_append_s _ rfl _ _ enT rfl w1.heap.size OA oc Q rfl (HO.out.alloc _) (wr.heap.size + 1) (some ⟨wr.heap.size, 0, none⟩) 1 1 [(q, j)] rfl rfl (HRD.out wr) (by simp; omega) (by unfold maxLen; simp; omega) (by simp; omega) ?_; intro A8 c8 L8 w8 hl8 ho8 hg8 hat8; have HGO := Lib.hid hg8; have HOO := Lib.hid ho8; have HLO := Lib.hid hl8; clear hg8 ho8 hl8 hat8)
            exact ⟨⟨k + 1, c8, false, A8, L8, hlt, by simp, rfl, rfl, Lib.hid (by rw [HLO.out]; exact HE.out), HOO, Lib.hid (own_app HB.out (fun k e => (HO.out.blk_ge k e).1) HGO.out)⟩, by simp only [intOf]; omega⟩
        · have HE : Hid (PutI (n, i) r (k + 1) true (Q ++ [(n, i)] ++ [(q, j)])) := Lib.hid (HP.out.here HK.out.2 hbq)
          have hlt2 : Op.bytesLess S.toList N.toList = false ∧ (S.toList == N.toList) = false := by
            have h1 := less_tri N.toList S.toList
            rw [HL.out.1, HL.out.2] at h1 ⊢
            rw [less_before, hbq] at h1
            exact h1.1 rfl
          obtain ⟨hl1, hl2⟩ := hlt2
          have HRN : Hid (∀ V : World, RdS E1 2 (V.alloc (.cells #[.string N, .int .i64 (i : Int)] 128)) (V.heap.size + 1) (some ⟨V.heap.size, 0, none⟩) [(n, i)]) := Lib.hid (fun V => by
            rw [← HN.out]
            exact rd_one (fun _ => rfl) V (n, i) _)
          clear hbq
          go_wp2_with (first | (at_builtin; refine wpList_append_s _ rfl _ _ enT rfl w1.heap.size OA oc Q rfl (HO.out.alloc _) (wr.heap.size + 1) (some ⟨wr.heap.size, 0, none⟩) 1 1 [(n, i)] rfl rfl (HRN.out wr) (by simp; omega) (by unfold maxLen; simp; omega) (by simp; omega) ?_; intro A8 c8 L8 w8 hl8 ho8 hg8 hat8; have HGO := Lib.hid hg8; have HOO := Lib.hid ho8; have HLO := Lib.hid hl8; have HB8 := Lib.hid (own_app HB.out (fun k e => (HO.out.blk_ge k e).1) HGO.out); have d0 := (HB8.out.cell (p := ⟨bb, off + k * 2, none⟩) hb).trans ((HB.out.cell (p := ⟨bb, off + k * 2, none⟩) hb).symm.trans c0); have d1 := (HB8.out.cell (p := ⟨bb, off + k * 2 + 1, none⟩) hb).trans ((HB.out.cell (p := ⟨bb, off + k * 2 + 1, none⟩) hb).symm.trans c1); have hll : L8.length ≤ 10000002 := (by rw [HLO.out, List.length_append]; simp; omega); have hbs8 : w1.heap.size ≤ w8.heap.size := HB8.out.size; clear hg8 ho8 hl8 hat8) | (at_builtin; refine wpList_append_s _ rfl _ _ enT rfl w1.heap.size A8 c8 L8 rfl (HOO.out.alloc _) (w8.heap.size + 1) (some ⟨w8.heap.size, 0, none⟩) 1 1 [(q, j)] rfl rfl (HRD.out w8) (by simp; omega) (by unfold maxLen; simp; omega) (by simp; omega) ?_; intro A9 c9 L9 w9 hl9 ho9 hg9 hat9; have HG9 := Lib.hid hg9; have HO9 := Lib.hid ho9; have HL9 := Lib.hid hl9; clear hg9 ho9 hl9 hat9))
          exact ⟨⟨k + 1, c9, true, A9, L9, hlt, by simp, rfl, rfl, Lib.hid (by rw [HL9.out, HLO.out]; exact HE.out), HO9, Lib.hid (own_app HB8.out (fun k e => (HOO.out.blk_ge k e).1) HG9.out)⟩, by simp only [intOf]; omega⟩
      · have HE : Hid (PutI (n, i) r (k + 1) true (Q ++ [(q, j)])) := Lib.hid (HP.out.rest HK.out.2)
        go_wp2_with (at_builtin; refine wpList_append_s _ rfl _ _ enT rfl w1.heap.size OA oc Q rfl (HO.out.alloc _) (wr.heap.size + 1) (some ⟨wr.heap.size, 0, none⟩) 1 1 [(q, j)] rfl rfl (HRD.out wr) (by simp; omega) (by unfold maxLen; simp; omega) (by simp; omega) ?_; intro A8 c8 L8 w8 hl8 ho8 hg8 hat8; have HGO := Lib.hid hg8; have HOO := Lib.hid ho8; have HLO := Lib.hid hl8; clear hg8 ho8 hl8 hat8)
        exact ⟨⟨k + 1, c8, true, A8, L8, hlt, by simp, rfl, rfl, Lib.hid (by rw [HLO.out]; exact HE.out), HOO, Lib.hid (own_app HB.out (fun k e => (HO.out.blk_ge k e).1) HGO.out)⟩, by simp only [intOf]; omega⟩
    · have hlt' : ¬ (k : Int) < (r.length : Int) := by omega
      have hrk : r.length ≤ k := by omega
      rcases b with _ | _
      · have HE : Hid (Sto.put l n i = Q ++ [(n, i)]) := Lib.hid (by rw [HR.out]; exact HP.out.last hrk)
        have HRN : Hid (∀ V : World, RdS E1 2 (V.alloc (.cells #[.string N, .int .i64 (i : Int)] 128)) (V.heap.size + 1) (some ⟨V.heap.size, 0, none⟩) [(n, i)]) := Lib.hid (fun V => by
          rw [← HN.out]
          exact rd_one (fun _ => rfl) V (n, i) _)
        clear hrk
        go_wp2_with (at_builtin; refine wpList_append_s _ rfl _ _ enT rfl w1.heap.size OA oc Q rfl (HO.out.alloc _) (wr.heap.size + 1) (some ⟨wr.heap.size, 0, none⟩) 1 1 [(n, i)] rfl rfl (HRN.out wr) (by simp; omega) (by unfold maxLen; simp; omega) (by simp; omega) ?_; intro A8 c8 L8 w8 hl8 ho8 hg8 hat8; have HGO := Lib.hid hg8; have HOO := Lib.hid ho8; have HLO := Lib.hid hl8; clear hg8 ho8 hl8 hat8)
        go_ret
        rw [HE.out, ← HLO.out]
        exact ⟨A8, c8, rfl, HOO.out.mono hbs1, HB1.out.trans ((own_app HB.out (fun k e => (HO.out.blk_ge k e).1) HGO.out).mono hbs1)⟩
      · have HE : Hid (Sto.put l n i = Q) := Lib.hid (by rw [HR.out]; exact HP.out.done hrk)
        clear hrk
        go_wp2_with fail
        go_ret
        rw [HE.out]
        exact ⟨OA, oc, rfl, HO.out.mono hbs1, HB1.out.trans (HB.out.mono hbs1)⟩
end Ref
end Go.Proofs.YtaiokogbhfliiaaGreatDoor

namespace Go.Proofs.YtaiokogbhfliiaaGreatDoor
open Go.RowKit Go.Maps

namespace Ref
theorem idx_str (s : ByteArray) (k x : Nat) (hk : k < s.size) (hx : x = s[k].toNat) (w : World) : (Instr.index 9 (.string s) (.int .i64 (k : Int))).run Tryz.prog w = .ok (.int .u8 (x : Int)) w := by
  rw [run_index_string (h := Tryz.underlying9)]
  subst hx
  simp [hk]
theorem isName_any0 (n : Sto.Str) : Sto.isName n = (decide (1 ≤ n.length ∧ n.length ≤ 64) && n.all Sto.nameChar) := rfl
set_option maxHeartbeats 2000000 in
set_option maxRecDepth 100000 in
theorem isName_any (n : Sto.Str) (w : World) (hn : n.length ≤ 9000000000000000) :
    Calls Tryz.prog 94 #[Sto.str n] w fun e w' => e = .returned (.bool (Sto.isName n)) ∧ w' = w := by
  obtain ⟨q, hq⟩ : ∃ q, q = Sto.isName n := ⟨_, rfl⟩
  rw [← hq]
  have HQ := Lib.hid hq
  clear hq
  obtain ⟨S, hS⟩ : ∃ S, S = (⟨n.toArray⟩ : ByteArray) := ⟨_, rfl⟩
  unfold Sto.str
  rw [← hS]
  obtain ⟨L, hL⟩ : ∃ L, L = n.length := ⟨_, rfl⟩
  have hsz : S.size = L := by rw [hS, hL]; exact Sto.str_size n
  have HS := Lib.hid hS
  have HL := Lib.hid hL
  rw [← hL] at hn
  clear hS hL
  go_enter Tryz.func94, Tryz.ntmps94
  go_wp2_with fail
  go_loop [3] (fun i => ∃ k : Nat, i = .int .i64 (k : Int) ∧ k ≤ L ∧ Hid (∀ z (hz : z < n.length), z < k → Sto.nameChar n[z] = true)) (fun i => L - (intOf i).toNat)
  case atStart => exact ⟨0, rfl, by omega, Lib.hid (fun z hz hj => by omega)⟩
  case round =>
    obtain ⟨j, rfl, hj, HZ⟩ := hrel
    by_cases hjl : j < L
    · have hjl' : (j : Int) < (L : Int) := by omega
      have hjn : j < n.length := by have := HL.out; omega
      obtain ⟨x, hx⟩ : ∃ x : Nat, x = n[j].toNat := ⟨_, rfl⟩
      have hix : ∀ w : World, (Instr.index 9 (.string S) (.int .i64 (j : Int))).run Tryz.prog w = .ok (.int .u8 (x : Int)) w := idx_str S j x (by omega) (by
        rw [hx]
        have := HS.out
        subst this
        rfl)
      have hch := Sto.nameChar_iff n[j] x hx
      have HCH := Lib.hid hch
      have HBAD : Hid (Sto.nameChar n[j] = false → q = false) := Lib.hid (fun h => by rw [HQ.out]; exact Sto.isName_no hjn h)
      have HGOOD : Hid (Sto.nameChar n[j] = true → ∀ z (hz : z < n.length), z < j + 1 → Sto.nameChar n[z] = true) := Lib.hid (fun h z hz hzj => by
        rcases Nat.lt_or_ge z j with h3 | h3
        · exact HZ.out z hz h3
        · obtain rfl : z = j := by omega
          exact h)
      clear hx hch
      have hcases : (97 ≤ x ∧ x ≤ 122) ∨ (48 ≤ x ∧ x ≤ 57) ∨ x = 45 ∨ x = 46 ∨ ((x < 48 ∧ x ≠ 45 ∧ x ≠ 46) ∨ (58 ≤ x ∧ x < 97) ∨ 122 < x) := by omega
      by_cases hgood : (97 ≤ x ∧ x ≤ 122) ∨ (48 ≤ x ∧ x ≤ 57) ∨ x = 45 ∨ x = 46
      · have HG := Lib.hid (HGOOD.out (by rw [HCH.out]; exact decide_eq_true hgood))
        clear hgood
        have FIN : Hid (∃ k : Nat, (Value.int .i64 ((j : Int) + 1)) = .int .i64 (k : Int) ∧ k ≤ L ∧ Hid (∀ z (hz : z < n.length), z < k → Sto.nameChar n[z] = true)) := Lib.hid ⟨j + 1, by simp, by omega, HG⟩
        rcases hcases with ⟨t1, t2⟩ | ⟨t1, t2⟩ | t1 | t1 | ⟨t1, t2, t3⟩ | ⟨t1, t2⟩ | t1
        · go_wp2_with fail
          go_round
          case rel => exact FIN.out
          case measure => simp [intOf]; omega
        · have b1 : ¬ (97 : Int) ≤ (x : Int) := by omega
          go_wp2_with fail
          go_round
          case rel => exact FIN.out
          case measure => simp [intOf]; omega
        · subst t1
          go_wp2_with fail
          all_goals exact ⟨FIN.out, by simp only [intOf]; omega⟩
        · subst t1
          go_wp2_with fail
          all_goals exact ⟨FIN.out, by simp only [intOf]; omega⟩
        all_goals (exfalso; have := HG.out j hjn (by omega); rw [HCH.out, decide_eq_true_iff] at this; omega)
      · have HB := Lib.hid (HBAD.out (by rw [HCH.out]; exact decide_eq_false hgood))
        rcases hcases with ⟨t1, t2⟩ | ⟨t1, t2⟩ | t1 | t1 | ⟨t1, t2, t3⟩ | ⟨t1, t2⟩ | t1
        · exact absurd (.inl ⟨t1, t2⟩) hgood
        · exact absurd (.inr (.inl ⟨t1, t2⟩)) hgood
        · exact absurd (.inr (.inr (.inl t1))) hgood
        · exact absurd (.inr (.inr (.inr t1))) hgood
        · have e1 : ((x : Int) == 45) = false := by simp; omega
          have e2 : ((x : Int) == 46) = false := by simp; omega
          clear hgood t2 t3
          go_wp2_with fail
          go_ret
          exact ⟨by rw [HB.out]; rfl, rfl⟩
        · have e1 : ((x : Int) == 45) = false := by simp; omega
          have e2 : ((x : Int) == 46) = false := by simp; omega
          have b1 : ¬ (97 : Int) ≤ (x : Int) := by omega
          have b2 : ¬ (x : Int) ≤ 57 := by omega
          clear hgood
          go_wp2_with fail
          go_ret
          exact ⟨by rw [HB.out]; rfl, rfl⟩
        · have e1 : ((x : Int) == 45) = false := by simp; omega
          have e2 : ((x : Int) == 46) = false := by simp; omega
          have b1 : ¬ (x : Int) ≤ 122 := by omega
          have b2 : ¬ (x : Int) ≤ 57 := by omega
          clear hgood
          go_wp2_with fail
          go_ret
          exact ⟨by rw [HB.out]; rfl, rfl⟩
    · have hjl' : ¬ (j : Int) < (L : Int) := by omega
      have HE : Hid (q = decide (1 ≤ L ∧ L ≤ 64)) := Lib.hid (by
        rw [HQ.out, isName_any0, HL.out]
        have : n.all Sto.nameChar = true := List.all_eq_true.2 fun c hc => by
          obtain ⟨z, hz, e⟩ := List.getElem_of_mem hc
          rw [← e]; exact HZ.out z hz (by have := HL.out; omega)
        rw [this, Bool.and_true])
      by_cases h1 : (1 : Int) ≤ (L : Int)
      · by_cases h2 : (L : Int) ≤ 64
        · have HF : Hid (q = true) := Lib.hid (by rw [HE.out]; exact decide_eq_true (by omega))
          go_wp2_with fail
          go_ret
          exact ⟨by rw [HF.out]; rfl, rfl⟩
        · have HF : Hid (q = false) := Lib.hid (by rw [HE.out]; exact decide_eq_false (by omega))
          go_wp2_with fail
          go_ret
          exact ⟨by rw [HF.out]; rfl, rfl⟩
      · have HF : Hid (q = false) := Lib.hid (by rw [HE.out]; exact decide_eq_false (by omega))
        go_wp2_with fail
        go_ret
        exact ⟨by rw [HF.out]; rfl, rfl⟩
set_option maxHeartbeats 1000000 in
set_option maxRecDepth 100000 in
theorem made_any (A : Option Addr) (c : Nat) (l : Sto.Dir) (x : Sto.Chg) (v0 v1 v2 v3 : Value) (hv : C4 x = [v0, v1, v2, v3]) (w : World) (h : RdS E1 2 w w.heap.size A l) (hl : l.length ≤ 10000000) :
    Calls Tryz.prog 78 #[.slice A l.length c, .agg #[v0, v1, v2, v3]] w (DirP w (Sto.made l x)) := by
  cases x with
  | put n i =>
    simp only [C4, List.cons.injEq, and_true] at hv
    obtain ⟨rfl, rfl, rfl, rfl⟩ := hv
    have KW := Lib.hid (fun V (hV : Below w.heap.size w V) => with_any A c l n i V ((h.below hV (Nat.le_refl _)).more hV.size) hl)
    clear h
    unfold Sto.str at KW ⊢
    go_enter Tryz.func78, Tryz.ntmps78
    go_wp2_with fail
    refine (KW.out _ ((Below.refl _ _).alloc (Nat.le_refl _) _)).mono ?_
    rintro e w1 ⟨A1, c1, rfl, ho1, hb1⟩
    have HO1 := Lib.hid (ho1.mono (base' := w.heap.size) (by simp))
    have HB1 := Lib.hid (((Below.refl _ w).alloc (Nat.le_refl _) _).trans (hb1.mono (by simp)))
    clear ho1 hb1 KW
    go_wp2_with fail
    go_ret
    exact ⟨A1, c1, rfl, HO1.out, HB1.out⟩
  | ren a b i =>
    simp only [C4, List.cons.injEq, and_true] at hv
    obtain ⟨rfl, rfl, rfl, rfl⟩ := hv
    have KD := Lib.hid (fun V (hV : Below w.heap.size w V) => without_any A c l a V ((h.below hV (Nat.le_refl _)).more hV.size) hl)
    have hdl : (Sto.del l a).length ≤ 10000000 := by have := Sto.del_len (l := l) (n := a); omega
    have KW := Lib.hid (fun A2 c2 V (hV : RdS E1 2 V V.heap.size A2 (Sto.del l a)) => with_any A2 c2 (Sto.del l a) b i V hV hdl)
    clear h
    unfold Sto.str at KW KD ⊢
    go_enter Tryz.func78, Tryz.ntmps78
    go_wp2_with fail
    go_region_with (first
      | (go_at_call 110; (with_reducible refine (KD.out _ (((Below.refl _ _).alloc (Nat.le_refl _) _).drew)).mono ?_); rintro e w1 ⟨A1, c1, rfl, ho1, hb1⟩; have HO1 := Lib.hid ho1; have HB1 := Lib.hid hb1; have q2 := (hb1.cell (p := ⟨w.heap.size, 2, none⟩) (by simp)).trans (cell_of_row (w.alloc (.cells #[.int .i64 1, .string ⟨a.toArray⟩, .string ⟨b.toArray⟩, .int .i64 (i : Int)] 124)) w.heap.size 2 _ _ (0, 0) (heap_alloc_new w _)); have q3 := (hb1.cell (p := ⟨w.heap.size, 3, none⟩) (by simp)).trans (cell_of_row (w.alloc (.cells #[.int .i64 1, .string ⟨a.toArray⟩, .string ⟨b.toArray⟩, .int .i64 (i : Int)] 124)) w.heap.size 3 _ _ (0, 0) (heap_alloc_new w _)); simp only [List.getElem?_toArray, List.getElem?_cons_succ, List.getElem?_cons_zero] at q2 q3; clear ho1 hb1)
      | (go_at_call 109; (with_reducible refine (KW.out _ _ _ HO1.out.rd).mono ?_); rintro e w2 ⟨A2, c2, rfl, ho2, hb2⟩; have HO2 := Lib.hid ho2; have HB2 := Lib.hid hb2; clear ho2 hb2))
    all_goals
      (go_wp2_with fail
       go_ret
       exact ⟨A2, c2, rfl, HO2.out.mono (by have := HB1.out.size; simp at this; omega), (((Below.refl _ w).alloc (Nat.le_refl _) _).drew.trans (HB1.out.mono (by simp))).trans (HB2.out.mono (by have := HB1.out.size; simp at this; omega))⟩)
  | del n =>
    simp only [C4, List.cons.injEq, and_true] at hv
    obtain ⟨rfl, rfl, rfl, rfl⟩ := hv
    have KW := Lib.hid (fun V (hV : Below w.heap.size w V) => without_any A c l n V ((h.below hV (Nat.le_refl _)).more hV.size) hl)
    clear h
    unfold Sto.str at KW ⊢
    go_enter Tryz.func78, Tryz.ntmps78
    go_wp2_with fail
    refine (KW.out _ ((Below.refl _ _).alloc (Nat.le_refl _) _)).mono ?_
    rintro e w1 ⟨A1, c1, rfl, ho1, hb1⟩
    have HO1 := Lib.hid (ho1.mono (base' := w.heap.size) (by simp))
    have HB1 := Lib.hid (((Below.refl _ w).alloc (Nat.le_refl _) _).trans (hb1.mono (by simp)))
    clear ho1 hb1 KW
    go_wp2_with fail
    go_ret
    exact ⟨A1, c1, rfl, HO1.out, HB1.out⟩
end Ref
end Go.Proofs.YtaiokogbhfliiaaGreatDoor

namespace Go.Proofs.YtaiokogbhfliiaaGreatDoor
open Go.RowKit Go.Maps

namespace Ref
/-- What an operation comes to. -/
def OpR (w : World) (base g : Nat) (m : Mem) (x : Int × Sto.St) (e : Ending) (w' : World) : Prop := e = .returned (.int .i64 x.1) ∧ ∃ m', StAt w' base g x.2 m' ∧ Aft turns w w' base (Row m) (Row m')
section
variable {w w' w1 : World} {base g : Nat} {s : Sto.St} {m : Mem}
theorem StAt.bs (h : StAt w base g s m) : base ≤ w.heap.size := Nat.le_trans h.r.gb (Nat.le_of_lt h.r.gl)
theorem StR.turn (h : StR w base g s m) {p : List UInt8} {o : Bool} {A : Option Addr} {c : Nat} (hp : Rby w base A p) (hc : p.length ≤ c) : StR w base g { s with plan := p, off := o } { m with PA := A, pc := c } :=
  ⟨h.gb, h.gl, h.fs, h.frow, h.fb, h.fcap, h.now, h.disk, h.kept, hp, hc, h.ok.turn p o⟩
theorem StAt.setOff (h : StAt w base g s m) (o : Bool) : StAt (w.setCell ⟨g, 6, none⟩ (.bool o)) base g { s with off := o } m :=
  ⟨(heap_set7 h.box _).2.2.2.2.2, ((h.r.setG h.gt 6 (.bool o)).turn (h.r.setG h.gt 6 (.bool o)).plan h.r.pcap)⟩
theorem StAt.setPlan (h : StAt w base g s m) {p : List UInt8} {A : Option Addr} {c : Nat} (hp : Rby w base A p) (hc : p.length ≤ c) : StAt (w.setCell ⟨g, 5, none⟩ (.slice A p.length c)) base g { s with plan := p } { m with PA := A, pc := c } :=
  ⟨(heap_set7 h.box _).2.2.2.2.1, ((h.r.setG h.gt 5 _).turn (p := p) (o := s.off) (A := A) (c := c) (hp.keep (by simp) (fun k e => heap_setCell_other w ⟨g, 5, none⟩ k _ ((hp.at_ k e).2.ne h.gt (by decide)))) hc)⟩
theorem Rby.sub {A A' : Option Addr} {b b' : List UInt8} (h : Rby w base A b) (hr : RdB w w.heap.size A' b') (hb : ∀ k, blk A' = some k → blk A = some k) : Rby w base A' b' := ⟨hr, fun k e => h.at_ k (hb k e)⟩
theorem meet_two (s : Sto.St) (n : Sto.Str) : Sto.meet s [n, n] = Sto.meet s [n] := by unfold Sto.meet; simp
theorem meet_dir (s : Sto.St) : Sto.meet s [[97], [97]] = Sto.meet s [] := by
  unfold Sto.meet
  rw [show ([[97], [97]] : List Sto.Str).all Sto.isName = true by decide]; rfl
set_option maxHeartbeats 2000000 in
set_option maxRecDepth 100000 in
theorem may_any (a b : Sto.Str) (h : StAt w base g s m) (ha : a.length ≤ 9000000000000000) (hb : b.length ≤ 9000000000000000) :
    Calls Tryz.prog 83 #[.pointer (some ⟨g, 0, none⟩), Sto.str a, Sto.str b] w (OpR w base g m (Sto.meet s [a, b])) := by
  have KA := Lib.hid (isName_any a w ha)
  have KB := Lib.hid (isName_any b w hb)
  have H1 := Lib.hid h
  have hgt := h.gt
  have HGT := Lib.hid hgt
  have HGB := Lib.hid h.r.gb
  clear h hgt
  obtain ⟨q, hq⟩ : ∃ q, q = Sto.isName a := ⟨_, rfl⟩
  obtain ⟨r, hr⟩ : ∃ r, r = Sto.isName b := ⟨_, rfl⟩
  rw [← hq] at KA
  rw [← hr] at KB
  have HQ : Hid (([a, b] : List Sto.Str).all Sto.isName = (q && r)) := Lib.hid (by rw [hq, hr]; simp)
  obtain ⟨SA, hSA⟩ : ∃ S, S = Sto.str a := ⟨_, rfl⟩
  obtain ⟨SB, hSB⟩ : ∃ S, S = Sto.str b := ⟨_, rfl⟩
  rw [← hSA] at KA ⊢
  rw [← hSB] at KB ⊢
  clear hq hr hSA hSB
  go_enter Tryz.func83, Tryz.ntmps83
  go_wp2_with fail
  refine KA.out.mono ?_
  rintro e w1 ⟨rfl, rfl⟩
  go_wp2_with fail
  refine KB.out.mono ?_
  rintro e w2 ⟨rfl, rfl⟩
  by_cases hqr : (q && r) = true
  · rw [Bool.and_eq_true] at hqr
    obtain ⟨rfl, rfl⟩ := hqr
    obtain ⟨c0, c1, c2, c3, c4, c5, c6⟩ := H1.out.cells
    obtain ⟨o, ho⟩ : ∃ o, o = s.off := ⟨_, rfl⟩
    rw [← ho] at c6
    have HO := Lib.hid ho
    clear ho c0 c1 c2 c3 c4 KA KB
    rcases o with _ | _
    · rcases hp : s.plan with _ | ⟨x, p⟩
      · have HE : Hid (Sto.meet s [a, b] = (0, s)) := Lib.hid (by unfold Sto.meet; rw [HQ.out, ← HO.out, hp]; rfl)
        rw [hp] at c5
        clear hp
        go_wp2_with fail
        go_ret
        rw [HE.out]
        exact ⟨rfl, m, H1.out, Aft.refl _ _ _⟩
      · have hpl := H1.out.r.plan
        have hpc := H1.out.r.pcap
        rw [hp] at hpl hpc c5
        obtain ⟨pg, po, hPA, hlt, hcell⟩ := hpl.rd.at_ (k := 0) (by simp)
        rw [Nat.add_zero] at hcell
        obtain ⟨X, hX⟩ : ∃ X : Nat, X = x.toNat := ⟨_, rfl⟩
        have hcell2 : w2.cell? ⟨pg, po, none⟩ = some (.int .u8 (X : Int)) := by rw [hX]; exact hcell
        have hdrop := hpl.rd.drop (k := 1) (cap := m.pc) (by simp) hpc
        rw [List.drop_one, List.tail_cons] at hdrop
        have HPL := Lib.hid hpl
        obtain ⟨N, hN⟩ : ∃ N, N = p.length := ⟨_, rfl⟩
        have hpn : (x :: p).length = N + 1 := by rw [hN]; rfl
        rw [hpn] at c5 hpc
        rw [hPA] at c5
        obtain ⟨C, hC⟩ : ∃ C, C = m.pc := ⟨_, rfl⟩
        rw [← hC] at c5 hpc hdrop
        have fz5 := H1.out.frozen 5
        have fz6 : ∀ v : Value, (w2.setCell ⟨g, 5, none⟩ v).frozen? ⟨g, 6, none⟩ = false := fun v => frozen_of_row _ g 6 _ _ (heap_set7 H1.out.box v).2.2.2.2.1
        have key : ∀ (A' : Option Addr) (C' : Nat), RdB w2 w2.heap.size A' p → N ≤ C' → (A' = some ⟨pg, po, none⟩ ∨ A' = some ⟨pg, po + 1, none⟩) →
            StAt (w2.setCell ⟨g, 5, none⟩ (.slice A' N C')) base g { s with plan := p } { m with PA := A', pc := C' } ∧ Aft turns w2 (w2.setCell ⟨g, 5, none⟩ (.slice A' N C')) base (Row m) (Row { m with PA := A', pc := C' }) := fun A' C' h1 h2 h4 => by
          have hb : ∀ k, blk A' = some k → blk m.PA = some k := fun k e => by
            rw [hPA]
            rcases h4 with h4 | h4 <;> (rw [h4] at e; simpa [blk] using e)
          have := H1.out.setPlan (p := p) (A := A') (c := C') (HPL.out.sub h1 hb) (by omega)
          rw [← hN] at this
          exact ⟨this, (Aft.setG HGT.out HGB.out 5 _ (Row m)).rows (fun k _ h => h.imp id (hb k))⟩
        have KEY := Lib.hid key
        have HX := Lib.hid hX
        have HME : Hid (Sto.meet s [a, b] = if x = 1 then (7, { s with plan := p }) else if x = 2 then (8, { s with plan := p, off := true }) else (0, { s with plan := p })) := Lib.hid (by
          unfold Sto.meet
          rw [HQ.out, ← HO.out, hp]; rfl)
        have HX1 : Hid (x = 1 ↔ X = 1) := Lib.hid (by rw [hX, ← UInt8.toNat_inj]; rfl)
        have HX2 : Hid (x = 2 ↔ X = 2) := Lib.hid (by rw [hX, ← UInt8.toNat_inj]; rfl)
        clear key hX hcell hpl hp hpn hN hC
        have fin : ∀ (A' : Option Addr) (C' : Nat), StAt (w2.setCell ⟨g, 5, none⟩ (.slice A' N C')) base g { s with plan := p } { m with PA := A', pc := C' } ∧ Aft turns w2 (w2.setCell ⟨g, 5, none⟩ (.slice A' N C')) base (Row m) (Row { m with PA := A', pc := C' }) →
            (X = 1 → OpR w2 base g m (Sto.meet s [a, b]) (.returned (.int .i64 7)) (w2.setCell ⟨g, 5, none⟩ (.slice A' N C'))) ∧
            (X = 2 → OpR w2 base g m (Sto.meet s [a, b]) (.returned (.int .i64 8)) ((w2.setCell ⟨g, 5, none⟩ (.slice A' N C')).setCell ⟨g, 6, none⟩ (.bool true))) ∧
            (X ≠ 1 → X ≠ 2 → OpR w2 base g m (Sto.meet s [a, b]) (.returned (.int .i64 0)) (w2.setCell ⟨g, 5, none⟩ (.slice A' N C'))) := fun A' C' ⟨h1, h2⟩ => by
          rw [HME.out]
          refine ⟨fun hx => ?_, fun hx => ?_, fun hx hx2 => ?_⟩
          · rw [if_pos (HX1.out.2 hx)]
            exact ⟨rfl, _, h1, h2⟩
          · rw [if_neg (fun e => by have := HX1.out.1 e; omega), if_pos (HX2.out.2 hx)]
            exact ⟨rfl, _, h1.setOff true, h2.trans (Aft.setG h1.gt HGB.out 6 _ _)⟩
          · rw [if_neg (fun e => hx (HX1.out.1 e)), if_neg (fun e => hx2 (HX2.out.1 e))]
            exact ⟨rfl, _, h1, h2⟩
        have FIN := Lib.hid fin
        clear fin
        by_cases hC1 : C = 1
        · subst hC1
          rw [if_pos rfl, hPA] at hdrop
          have hN0 : N = 0 := by omega
          subst hN0
          have HF := Lib.hid (FIN.out _ _ (KEY.out _ 0 hdrop (by omega) (.inl rfl)))
          clear hdrop KEY FIN HME HPL
          by_cases t1 : X = 1
          · subst t1
            go_wp2_with fail
            go_ret
            exact HF.out.1 (by trivial)
          · by_cases t2 : X = 2
            · subst t2
              go_wp2_with fail
              go_ret
              exact HF.out.2.1 (by trivial)
            · have u1 : ((X : Int) == 1) = false := by simp; omega
              have u2 : ((X : Int) == 2) = false := by simp; omega
              have HFF := Lib.hid (HF.out.2.2 t1 t2)
              clear t1 t2
              go_wp2_with fail
              go_ret
              exact HFF.out
        · obtain ⟨D, rfl⟩ : ∃ D, C = D + 2 := ⟨C - 2, by omega⟩
          rw [if_neg (by omega), hPA] at hdrop
          have HF := Lib.hid (FIN.out _ _ (KEY.out (some ⟨pg, po + 1, none⟩) (D + 1) hdrop (by omega) (.inr rfl)))
          clear hdrop KEY FIN HME HPL
          by_cases t1 : X = 1
          · subst t1
            go_wp2_with fail
            go_ret
            exact HF.out.1 (by trivial)
          · by_cases t2 : X = 2
            · subst t2
              go_wp2_with fail
              go_ret
              exact HF.out.2.1 (by trivial)
            · have u1 : ((X : Int) == 1) = false := by simp; omega
              have u2 : ((X : Int) == 2) = false := by simp; omega
              have HFF := Lib.hid (HF.out.2.2 t1 t2)
              clear t1 t2
              go_wp2_with fail
              go_ret
              exact HFF.out
    · have HE : Hid (Sto.meet s [a, b] = (8, s)) := Lib.hid (by unfold Sto.meet; rw [HQ.out, ← HO.out]; rfl)
      go_wp2_with fail
      go_ret
      rw [HE.out]
      exact ⟨rfl, m, H1.out, Aft.refl _ _ _⟩
  · have HE : Hid (Sto.meet s [a, b] = (1, s)) := Lib.hid (by unfold Sto.meet; rw [HQ.out]; simp [hqr])
    have hqr' : q = false ∨ (q = true ∧ r = false) := by cases q <;> cases r <;> simp_all
    clear hqr
    rcases hqr' with rfl | ⟨rfl, rfl⟩
    · go_wp2_with fail
      go_ret
      rw [HE.out]
      exact ⟨rfl, m, H1.out, Aft.refl _ _ _⟩
    · go_wp2_with fail
      go_ret
      rw [HE.out]
      exact ⟨rfl, m, H1.out, Aft.refl _ _ _⟩
end
end Ref
end Go.Proofs.YtaiokogbhfliiaaGreatDoor

namespace Go.Proofs.YtaiokogbhfliiaaGreatDoor
open Go.RowKit Go.Maps

namespace Ref
section
variable {w w' w1 w2 w3 : World} {base g : Nat} {s : Sto.St} {m : Mem}
/-- Bytes, rows of entries, what is kept stay; the files are new. -/
theorem StR.files (h : StR w base g s m) (hs : w.heap.size ≤ w'.heap.size) (hk : ∀ k T, Sto.Tag w k T → base ≤ k → T ∈ ([5, 128, 124] : List TypeId) → (T = 5 → Row m k) → w'.heap[k]? = w.heap[k]?) {FA : Option Addr} {fc : Nat} {FV : List Fv} {fs : List Sto.Fl} (hf : FV.map Fv.f = fs)
    (hr : OwnS Fv.cells 2 w' base 126 FA fc FV) (hb : ∀ v ∈ FV, Rby w' base v.A v.f.b) (hcap : ∀ v ∈ FV, v.f.b.length ≤ v.c) (hok : Sto.Ok { s with files := fs }) : StR w' base g { s with files := fs } { m with FA := FA, fc := fc, FV := FV } :=
  ⟨h.gb, Nat.lt_of_lt_of_le h.gl hs, hf, hr, hb, hcap,
    h.now.keep (fun k e => hk k _ (Sto.ownTagS h.now e) (h.now.blk_ge k e).1 (by decide) (fun e => absurd e (by decide))), h.disk.keep (fun k e => hk k _ (Sto.ownTagS h.disk e) (h.disk.blk_ge k e).1 (by decide) (fun e => absurd e (by decide))),
    h.kept.keep (fun k e => hk k _ (Sto.ownTagS h.kept e) (h.kept.blk_ge k e).1 (by decide) (fun e => absurd e (by decide))), h.plan.keep hs (fun k e => hk k _ (h.plan.at_ k e).2 (h.plan.at_ k e).1 (by decide) (fun _ => .inr e)), h.pcap, hok⟩
/-- Bytes and files stay; the directories are new, and what is kept. -/
theorem StR.dirs (h : StR w base g s m) (hs : w.heap.size ≤ w'.heap.size) (hk : ∀ k T, Sto.Tag w k T → base ≤ k → T ∈ ([5, 126] : List TypeId) → (T = 5 → Row m k) → w'.heap[k]? = w.heap[k]?) {NA DA KA : Option Addr} {nc dc kc : Nat} {now disk : Sto.Dir} {kept : List Sto.Chg}
    (hn : OwnS E1 2 w' base 128 NA nc now) (hd : OwnS E1 2 w' base 128 DA dc disk) (hkp : OwnS C4 4 w' base 124 KA kc kept) (hok : Sto.Ok { s with now := now, disk := disk, kept := kept }) :
    StR w' base g { s with now := now, disk := disk, kept := kept } { m with NA := NA, nc := nc, DA := DA, dc := dc, KA := KA, kc := kc } :=
  ⟨h.gb, Nat.lt_of_lt_of_le h.gl hs, h.fs, h.frow.keep (fun k e => hk k _ (Sto.ownTagS h.frow e) (h.frow.blk_ge k e).1 (by decide) (fun e => absurd e (by decide))),
    fun v hv => (h.fb v hv).keep hs (fun k e => hk k _ ((h.fb v hv).at_ k e).2 ((h.fb v hv).at_ k e).1 (by decide) (fun _ => .inl ⟨v, hv, e⟩)), h.fcap,
    hn, hd, hkp, h.plan.keep hs (fun k e => hk k _ (h.plan.at_ k e).2 (h.plan.at_ k e).1 (by decide) (fun _ => .inr e)), h.pcap, hok⟩
theorem newPlan (h : StAt w base g s m) (hb : Below w.heap.size w w1) {p : List UInt8} {A : Option Addr} {c : Nat} (ho : Own w1 w.heap.size 5 A c p) :
    StAt (w1.setCell ⟨g, 5, none⟩ (.slice A p.length c)) base g { s with plan := p } { m with PA := A, pc := c } ∧ Aft turns w (w1.setCell ⟨g, 5, none⟩ (.slice A p.length c)) base (Row m) (Row { m with PA := A, pc := c }) := by
  have h1 := h.below hb
  refine ⟨h1.setPlan (Rby.own ho h.bs) ho.cap, ((Aft.of_below hb (Row m)).trans (Aft.setG h1.gt h.r.gb 5 _ (Row m))).rows (fun k hk e => e.imp id (fun e => ?_))⟩
  have := (ho.blk_ge k e).1
  omega
/-- The directory is synced. -/
theorem synced (h : StAt w base g s m) (hb : Below w.heap.size w w1) {A : Option Addr} {c : Nat} (ho : OwnS E1 2 w1 w.heap.size 128 A c s.now) (hok : Sto.Ok { s with disk := s.now, kept := [] }) :
    StAt ((w1.setCell ⟨g, 3, none⟩ (.slice A s.now.length c)).setCell ⟨g, 4, none⟩ (.slice none 0 0)) base g { s with disk := s.now, kept := [] } { m with DA := A, dc := c, KA := none, kc := 0 } ∧
    Aft turns w ((w1.setCell ⟨g, 3, none⟩ (.slice A s.now.length c)).setCell ⟨g, 4, none⟩ (.slice none 0 0)) base (Row m) (Row m) := by
  have h1 := h.below hb
  have hg := h1.gt
  have hb3 := (heap_set7 h1.box (.slice A s.now.length c)).2.2.1
  have hb4 := (heap_set7 hb3 (.slice none 0 0)).2.2.2.1
  have hne : ∀ k T, Sto.Tag w1 k T → T ≠ 83 → ((w1.setCell ⟨g, 3, none⟩ (.slice A s.now.length c)).setCell ⟨g, 4, none⟩ (.slice none 0 0)).heap[k]? = w1.heap[k]? := fun k T t hT =>
    (heap_setCell_other _ ⟨g, 4, none⟩ k _ (t.ne hg hT)).trans (heap_setCell_other _ ⟨g, 3, none⟩ k _ (t.ne hg hT))
  refine ⟨⟨hb4, ?_⟩, ((Aft.of_below hb (Row m)).trans (Aft.setG hg h.r.gb 3 _ (Row m))).trans (Aft.setG ⟨_, _, hb3⟩ h.r.gb 4 _ (Row m))⟩
  refine h1.r.dirs (by simp) (fun k T t _ hT _ => hne k T t (fun e => by rw [e] at hT; revert hT; decide)) (h1.r.now.keep (fun k e => hne k _ (Sto.ownTagS h1.r.now e) (by decide))) ((ho.mono h.bs).keep (fun k e => hne k _ (Sto.ownTagS ho e) (by decide))) (OwnS.nil _ _ _) hok
/-- A change is made, and kept. -/
theorem changed (h : StAt w base g s m) {x : Sto.Chg} (hb : Below w.heap.size w w2) {NA : Option Addr} {nc : Nat} (hn : OwnS E1 2 w2 w.heap.size 128 NA nc (Sto.made s.now x)) {V : World} (hV : V = w2.setCell ⟨g, 2, none⟩ (.slice NA (Sto.made s.now x).length nc)) (hb2 : Below V.heap.size V w1) {KA : Option Addr} {kc : Nat} (hg3 : w1.grownBy w3 (blk m.KA))
    (ho : OwnS C4 4 w3 base 124 KA kc (s.kept ++ [x])) (hok : Sto.Ok (Sto.change s x)) :
    (w3.heap[g]? = some (.cells #[.int .i64 s.room, .slice m.FA m.FV.length m.fc, .slice NA (Sto.made s.now x).length nc, .slice m.DA s.disk.length m.dc, .slice m.KA s.kept.length m.kc, .slice m.PA s.plan.length m.pc, .bool s.off] 83)) ∧
    StAt (w3.setCell ⟨g, 4, none⟩ (.slice KA (s.kept ++ [x]).length kc)) base g (Sto.change s x) { m with NA := NA, nc := nc, KA := KA, kc := kc } ∧ Aft turns w (w3.setCell ⟨g, 4, none⟩ (.slice KA (s.kept ++ [x]).length kc)) base (Row m) (Row m) := by
  have h2 := h.below hb
  have hbV : V.heap[g]? = some (.cells #[.int .i64 s.room, .slice m.FA m.FV.length m.fc, .slice NA (Sto.made s.now x).length nc, .slice m.DA s.disk.length m.dc, .slice m.KA s.kept.length m.kc, .slice m.PA s.plan.length m.pc, .bool s.off] 83) := by
    rw [hV]; exact (heap_set7 h2.box _).2.1
  have hVs : w2.heap.size ≤ V.heap.size := by rw [hV]; simp
  have hVk : ∀ k, k ≠ g → V.heap[k]? = w2.heap[k]? := fun k hk => by rw [hV]; exact heap_setCell_other w2 ⟨g, 2, none⟩ k _ hk
  have hgV : g < V.heap.size := (Array.getElem?_eq_some_iff.1 hbV).1
  have hKt : ∀ k, blk m.KA = some k → Sto.Tag w1 k 124 ∧ base ≤ k ∧ k < w2.heap.size := fun k e => by
    have t := Sto.ownTagS h2.r.kept e
    exact ⟨(t.keep (hVk k (t.ne h2.gt (by decide)))).keep (hb2.block k (Nat.lt_of_lt_of_le t.lt hVs)), (h2.r.kept.blk_ge k e).1, t.lt⟩
  have hT : ∀ k T, Sto.Tag w2 k T → T ≠ 83 → T ≠ 124 → w3.heap[k]? = w2.heap[k]? := fun k T t h1 h3 => by
    have e1 := hVk k (t.ne h2.gt h1)
    have e2 := hb2.block k (Nat.lt_of_lt_of_le t.lt hVs)
    have t2 : Sto.Tag w1 k T := (t.keep e1).keep e2
    exact (hg3.block k t2.lt (fun e => (hKt k e.symm).1.ne t2 (Ne.symm h3) rfl)).trans (e2.trans e1)
  have hb3 := (hg3.block g (Nat.lt_of_lt_of_le hgV hb2.size) (fun e => (hKt g e.symm).1.ne (Sto.Tag.keep ⟨_, _, hbV⟩ (hb2.block g hgV)) (by decide) rfl)).trans ((hb2.block g hgV).trans hbV)
  have ht3 : Sto.Tag w3 g 83 := ⟨_, _, hb3⟩
  have hn4 : ∀ k T, Sto.Tag w3 k T → T ≠ 83 → (w3.setCell ⟨g, 4, none⟩ (.slice KA (s.kept ++ [x]).length kc)).heap[k]? = w3.heap[k]? := fun k T t h1 => heap_setCell_other _ ⟨g, 4, none⟩ k _ (t.ne ht3 h1)
  have hsz : w2.heap.size ≤ w3.heap.size := Nat.le_trans hVs (Nat.le_trans hb2.size hg3.size)
  have hall : ∀ k T, Sto.Tag w2 k T → T ≠ 83 → T ≠ 124 → (w3.setCell ⟨g, 4, none⟩ (.slice KA (s.kept ++ [x]).length kc)).heap[k]? = w2.heap[k]? := fun k T t h1 h3 => (hn4 k T (t.keep (hT k T t h1 h3)) h1).trans (hT k T t h1 h3)
  refine ⟨hb3, ⟨(heap_set7 hb3 _).2.2.2.1, ?_⟩, ?_⟩
  · refine h2.r.dirs (by simp; omega) (fun k T t _ hT _ => hall k T t (fun e => by rw [e] at hT; revert hT; decide) (fun e => by rw [e] at hT; revert hT; decide)) ((hn.mono h.bs).keep (fun k e => hall k _ (Sto.ownTagS hn e) (by decide) (by decide))) (h2.r.disk.keep (fun k e => hall k _ (Sto.ownTagS h2.r.disk e) (by decide) (by decide))) (ho.keep (fun k e => hn4 k _ (Sto.ownTagS ho e) (by decide))) hok
  · refine (Aft.of_below hb (Row m)).trans ⟨?_, ?_, ?_, by simp; omega, fun k hk hn => ?_, fun _ _ h => h⟩
    · show w3.os = w2.os
      rw [hg3.os, hb2.os, hV]; rfl
    · show w3.tape = w2.tape
      rw [hg3.tape, hb2.tape, hV]; rfl
    · show w3.output = w2.output
      rw [hg3.output, hb2.output, hV]; rfl
    · have hkg : k ≠ g := fun e => by
        rcases hn with hn | hn
        · have := h.r.gb; omega
        · exact hn _ (by decide) (e ▸ h2.gt)
      have hkK : blk m.KA ≠ some k := fun e => by
        rcases hn with hn | hn
        · have := (hKt k e).2.1; omega
        · exact hn _ (by decide) (Sto.ownTagS h2.r.kept e)
      rw [heap_setCell_other _ ⟨g, 4, none⟩ k _ hkg, hg3.block k (by have := hb2.size; omega) (fun e => hkK e.symm), hb2.block k (by omega)]
      exact hVk k hkg
end
end Ref
end Go.Proofs.YtaiokogbhfliiaaGreatDoor

namespace Go.Proofs.YtaiokogbhfliiaaGreatDoor
open Go.RowKit Go.Maps

namespace Ref
theorem own_none {α : Type} (f : α → List Value) (n : Nat) (e : TypeId) (w : World) : OwnS f n (w.alloc (.cells #[] e)) w.heap.size e (some ⟨w.heap.size, 0, none⟩) 0 ([] : List α) :=
  World.ownsRow_lit (e := e) (size := n) w #[] 0 (Nat.le_refl _) (by unfold maxLen; omega) (by simp)
section
variable {w : World} {base g : Nat} {s : Sto.St} {m : Mem}
set_option maxRecDepth 100000 in
theorem new_any (room : Int) (hr1 : 1 ≤ room) (hr2 : room ≤ 16777216) (w : World) : Calls Tryz.prog 38 #[.int .i64 room] w fun e w' => ∃ g m, e = .returned (.tuple #[.pointer (some ⟨g, 0, none⟩), .int .i64 0]) ∧ StAt w' w.heap.size g (Sto.new room) m ∧ (∀ k, ¬ Row m k) ∧ Below w.heap.size w w' := by
  go_enter Tryz.func38, Tryz.ntmps38
  go_wp2_with fail
  go_ret2
  refine ⟨w.heap.size, ⟨none, 0, [], none, 0, none, 0, none, 0, none, 0⟩, rfl, ⟨heap_alloc_new w _, ⟨Nat.le_refl _, by simp, rfl, OwnS.nil _ _ _, (fun _ h => by cases h), (fun _ h => by cases h), OwnS.nil _ _ _, OwnS.nil _ _ _, OwnS.nil _ _ _, Rby.nil _ _, Nat.le_refl _, Sto.Ok.new room ⟨by omega, hr2⟩⟩⟩, fun k h => ?_, (Below.refl _ _).alloc (Nat.le_refl _) _⟩
  rcases h with ⟨v, hv, _⟩ | h
  · cases hv
  · cases h
set_option maxHeartbeats 1000000 in
set_option maxRecDepth 100000 in
theorem plan_any (h : StAt w base g s m) (bA : Option Addr) (bc : Nat) (b : List UInt8) (hb : RdB w w.heap.size bA b) (hl : b.length ≤ 140737488355328) :
    Calls Tryz.prog 14 #[.pointer (some ⟨g, 0, none⟩), .slice bA b.length bc] w fun e w' => e = .returned (.tuple #[]) ∧ ∃ m', StAt w' base g { s with plan := b } m' ∧ Aft turns w w' base (Row m) (Row m') := by
  have H := Lib.hid h
  have HN := Lib.hid (own_empty w)
  have HB := Lib.hid hb
  clear h hb
  go_enter Tryz.func14, Tryz.ntmps14
  go_wp2_with (at_builtin; refine wpList_append_b _ rfl _ _ bt rfl w.heap.size (some ⟨w.heap.size, 0, none⟩) 0 [] rfl HN.out w.heap.size bA b.length bc b rfl rfl (HB.out.alloc (Nat.le_refl _) _) (by simp only [List.length_nil]; omega) (by simp) ?_; intro A8 c8 L8 w8 hl8 ho8 hg8 hat8; have HL8 := Lib.hid hl8; have HO8 := Lib.hid ho8; have HB8 := Lib.hid (((Below.refl _ w).alloc (Nat.le_refl _) _).grown hg8 (by simp) (fun g e => by injection e with e; exact Nat.le_of_eq e)); obtain ⟨_, _, _, _, _, c5, _⟩ := (H.out.below HB8.out).cells; have f5 := (H.out.below HB8.out).frozen 5; clear hl8 ho8 hg8 hat8)
  go_end0
  have h9 := HO8.out
  have hl := HL8.out
  rw [List.nil_append] at hl
  subst hl
  obtain ⟨h1, h2⟩ := newPlan H.out HB8.out h9
  exact ⟨rfl, _, h1, h2⟩
set_option maxHeartbeats 1000000 in
set_option maxRecDepth 100000 in
theorem syncDir_any (h : StAt w base g s m) (hf : s.files.length ≤ 1000000) : Calls Tryz.prog 42 #[.pointer (some ⟨g, 0, none⟩)] w (OpR w base g m (Sto.syncDir s)) := by
  have KM := Lib.hid (may_any [97] [97] h (by simp) (by simp))
  rw [meet_dir] at KM
  obtain ⟨x, hx⟩ : ∃ x, x = Sto.meet s [] := ⟨_, rfl⟩
  rw [← hx] at KM
  have HX := Lib.hid hx
  have HOK := Lib.hid (Sto.Ok.syncDir h.r.ok)
  have HNF : Hid (x.2.files.length ≤ 1000000) := Lib.hid (by
    rw [hx]
    rcases Sto.meet_cases s [] with e | ⟨p, o, e⟩ <;> (rw [e]; exact hf))
  clear h hx
  obtain ⟨x0, s1⟩ := x
  go_enter Tryz.func42, Tryz.ntmps42
  go_wp2_with fail
  refine KM.out.mono ?_
  rintro e w1 ⟨rfl, m1, hst, haf⟩
  have HST := Lib.hid hst
  have HAF := Lib.hid haf
  clear hst haf KM
  simp only at HST
  by_cases h0 : x0 = 0
  · subst h0
    obtain ⟨_, _, c2, _, _, _, _⟩ := HST.out.cells
    have hgl := HST.out.r.gl
    have a2 : ∀ O, (w1.alloc O).cell? ⟨g, 2, none⟩ = some (.slice m1.NA s1.now.length m1.nc) := fun O => (World.cell?_alloc_lt w1 O _ hgl).trans c2
    have HN := Lib.hid (own_none E1 2 128 w1)
    have hnl : s1.now.length ≤ 1000000 := by have h8 := HST.out.r.ok.gnow.len; have h9 : s1.files.length ≤ 1000000 := HNF.out; omega
    have HRN := Lib.hid HST.out.r.now.rd
    have HE : Hid (Sto.syncDir s = (0, { s1 with disk := s1.now, kept := [] })) := Lib.hid (by unfold Sto.syncDir; rw [← HX.out]; rfl)
    go_wp2_with (at_builtin; refine wpList_append_s _ rfl _ _ enT rfl w1.heap.size (some ⟨w1.heap.size, 0, none⟩) 0 ([] : Sto.Dir) rfl HN.out w1.heap.size m1.NA s1.now.length m1.nc s1.now rfl rfl (HRN.out.alloc (Nat.le_refl _) _) (by simp; omega) (by unfold maxLen; simp; omega) (by simp) ?_; intro A8 c8 L8 w8 hl8 ho8 hg8 hat8; have HL8 := Lib.hid hl8; have HO8 := Lib.hid ho8; have HB8 := Lib.hid (((Below.refl _ w1).alloc (Nat.le_refl _) _).grown hg8 (by simp) (fun g e => by injection e with e; exact Nat.le_of_eq e)); obtain ⟨_, _, _, c3, c4, _, _⟩ := (HST.out.below HB8.out).cells; have f3 := (HST.out.below HB8.out).frozen 3; have f4 : ∀ v : Value, (w8.setCell ⟨g, 3, none⟩ v).frozen? ⟨g, 4, none⟩ = false := fun v => frozen_of_row _ g 4 _ _ (heap_set7 (HST.out.below HB8.out).box v).2.2.1; have d4 : ∀ v : Value, (w8.setCell ⟨g, 3, none⟩ v).cell? ⟨g, 4, none⟩ = some (.slice m1.KA s1.kept.length m1.kc) := fun v => (by rw [cell_of_row _ g 4 _ _ (0, 0) (heap_set7 (HST.out.below HB8.out).box v).2.2.1]; rfl); clear hl8 ho8 hg8 hat8)
    go_ret
    have h9 := HO8.out
    have hl := HL8.out
    rw [List.nil_append] at hl
    subst hl
    have hok := HOK.out
    rw [HE.out] at hok
    obtain ⟨h1, h2⟩ := synced HST.out HB8.out h9 hok
    rw [HE.out]
    exact ⟨rfl, _, h1, HAF.out.trans h2⟩
  · have HE : Hid (Sto.syncDir s = (x0, s1)) := Lib.hid (by unfold Sto.syncDir; rw [← HX.out]; simp only; rw [if_pos h0])
    have e1 : (x0 == 0) = false := by simpa using h0
    have e2 : (x0 != 0) = true := by simpa using h0
    clear h0
    go_wp2_with fail
    go_ret
    rw [HE.out]
    exact ⟨rfl, _, HST.out, HAF.out⟩
/-- A file of the row, by its number. -/
theorem file_row (h : StAt w base g s m) {i : Nat} (hi : i < s.files.length) : ∃ (hi2 : i < m.FV.length) (fb : Nat) (fo : Nat), m.FA = some ⟨fb, fo, none⟩ ∧ base ≤ fb ∧ fb < w.heap.size ∧ (m.FV[i]).f = Sto.file s i ∧ w.cell? ⟨fb, fo + i * 2, none⟩ = some (.slice (m.FV[i]).A (m.FV[i]).f.b.length (m.FV[i]).c) ∧ w.cell? ⟨fb, fo + i * 2 + 1, none⟩ = some (.int .i64 ((m.FV[i]).f.sure : Int)) ∧ Rby w base (m.FV[i]).A (m.FV[i]).f.b := by
  have hl : m.FV.length = s.files.length := by rw [← h.r.fs, List.length_map]
  have hi2 : i < m.FV.length := by omega
  obtain ⟨fb, fo, hA, hb, hc⟩ := RdS.row (f := Fv.cells) (n := 2) (fun _ => rfl) (by omega) h.r.frow.rd (by omega)
  have c0 := hc i hi2 0 _ rfl
  have c1 := hc i hi2 1 _ rfl
  rw [Nat.add_zero] at c0
  refine ⟨hi2, fb, fo, hA, (h.r.frow.blk_ge fb (by rw [hA]; rfl)).1, hb, ?_, c0, c1, h.r.fb _ (List.getElem_mem hi2)⟩
  have : m.FV[i].f = s.files[i] := by
    have h1 : (m.FV.map Fv.f)[i]? = s.files[i]? := by rw [h.r.fs]
    rw [List.getElem?_map, List.getElem?_eq_getElem hi2, List.getElem?_eq_getElem hi] at h1
    simpa using h1
  rw [this]
  unfold Sto.file
  rw [List.getD_eq_getElem?_getD, List.getElem?_eq_getElem hi]; rfl
set_option maxHeartbeats 1000000 in
set_option maxRecDepth 100000 in
theorem read_any (n : Sto.Str) (hn : n.length ≤ 9000000000000000) (h : StAt w base g s m) (hf : s.files.length ≤ 1000000) :
    Calls Tryz.prog 54 #[.pointer (some ⟨g, 0, none⟩), Sto.str n] w (Sto.ReadP w (Sto.read s n)) := by
  have KN := Lib.hid (isName_any n w hn)
  have H := Lib.hid h
  obtain ⟨_, c1, c2, _, _, _, c6⟩ := h.cells
  have hnl : s.now.length ≤ 1000000 := by have := h.r.ok.gnow.len; omega
  have KF := Lib.hid (find_any m.NA m.nc s.now n w h.r.now.rd (by omega))
  obtain ⟨o, ho⟩ : ∃ o, o = s.off := ⟨_, rfl⟩
  rw [← ho] at c6
  have HO := Lib.hid ho
  obtain ⟨q, hq⟩ : ∃ q, q = Sto.isName n := ⟨_, rfl⟩
  rw [← hq] at KN
  have HQ := Lib.hid hq
  obtain ⟨S, hS⟩ : ∃ S, S = Sto.str n := ⟨_, rfl⟩
  rw [← hS] at KN KF ⊢
  obtain ⟨fo, hfo⟩ : ∃ fo, fo = Sto.find s.now n := ⟨_, rfl⟩
  have HFO := Lib.hid hfo
  clear h hS ho hq hfo
  go_enter Tryz.func54, Tryz.ntmps54
  go_wp2_with fail
  refine KN.out.mono ?_
  rintro e w1 ⟨rfl, rfl⟩
  rcases o with _ | _
  · rcases q with _ | _
    · have HE : Hid (Sto.read s n = (1, [])) := Lib.hid (by unfold Sto.read; rw [← HO.out, ← HQ.out]; rfl)
      go_wp2_with fail
      go_ret2
      rw [HE.out]
      exact ⟨Below.refl _ _, none, 0, rfl, Own.nil _ _ _⟩
    · go_wp2_with fail
      refine KF.out.mono ?_
      rintro e w2 ⟨rfl, rfl⟩
      rcases fo with _ | i
      · have HFN : Hid (fnd s.now n = -1) := Lib.hid (by unfold fnd; rw [← HFO.out])
        rw [HFN.out]
        have HE : Hid (Sto.read s n = (4, [])) := Lib.hid (by unfold Sto.read; rw [← HO.out, ← HQ.out, ← HFO.out]; rfl)
        go_wp2_with fail
        go_ret2
        rw [HE.out]
        exact ⟨Below.refl _ _, none, 0, rfl, Own.nil _ _ _⟩
      · have HFN : Hid (fnd s.now n = (i : Int)) := Lib.hid (by unfold fnd; rw [← HFO.out])
        rw [HFN.out]
        have HE : Hid (Sto.read s n = (0, (Sto.file s i).b)) := Lib.hid (by unfold Sto.read; rw [← HO.out, ← HQ.out, ← HFO.out]; rfl)
        have hi : i < s.files.length := H.out.r.ok.find_lt HFO.out.symm
        obtain ⟨hi2, fb, fo, hFA, hfb, hfl, hfe, d0, d1, hrb⟩ := file_row H.out hi
        have hlen := (Sto.file_ok H.out.r.ok i).2
        have hil : (i : Int) < (m.FV.length : Int) := by omega
        rw [hfe] at d0 hrb
        obtain ⟨vA, hvA⟩ : ∃ vA, vA = m.FV[i].A := ⟨_, rfl⟩
        obtain ⟨vc, hvc⟩ : ∃ vc, vc = m.FV[i].c := ⟨_, rfl⟩
        obtain ⟨b, hb⟩ : ∃ b, b = (Sto.file s i).b := ⟨_, rfl⟩
        rw [← hvA, ← hvc, ← hb] at d0
        rw [← hvA, ← hb] at hrb
        rw [← hb] at HE hlen
        rw [hFA] at c1
        have hgl := H.out.r.gl
        have a1 : ∀ O, (w2.alloc O).cell? ⟨g, 1, none⟩ = some (.slice (some ⟨fb, fo, none⟩) m.FV.length m.fc) := fun O => (World.cell?_alloc_lt w2 O _ hgl).trans c1
        have a0 : ∀ O, (w2.alloc O).cell? ⟨fb, fo + i * 2, none⟩ = some (.slice vA b.length vc) := fun O => (World.cell?_alloc_lt w2 O _ hfl).trans d0
        have HRB := Lib.hid hrb.rd
        have hi0 : ¬ (i : Int) < 0 := by omega
        have HN := Lib.hid (own_empty w2)
        clear hvA hvc hb d1 hfe hFA hrb hi
        go_wp2_with (at_builtin; refine wpList_append_b _ rfl _ _ bt rfl w2.heap.size (some ⟨w2.heap.size, 0, none⟩) 0 [] rfl HN.out w2.heap.size vA b.length vc b rfl rfl (HRB.out.alloc (Nat.le_refl _) _) (by simp only [List.length_nil]; omega) (by simp) ?_; intro A8 c8 L8 w8 hl8 ho8 hg8 hat8; have HL8 := Lib.hid hl8; have HO8 := Lib.hid ho8; have HB8 := Lib.hid (((Below.refl _ w2).alloc (Nat.le_refl _) _).grown hg8 (by simp) (fun g e => by injection e with e; exact Nat.le_of_eq e)); clear hl8 ho8 hg8 hat8)
        go_ret2
        have h9 := HO8.out
        have hl := HL8.out
        rw [List.nil_append] at hl
        subst hl
        rw [HE.out]
        exact ⟨HB8.out, A8, c8, rfl, h9⟩
  · have HE : Hid (Sto.read s n = (8, [])) := Lib.hid (by unfold Sto.read; rw [← HO.out]; rfl)
    go_wp2_with fail
    go_ret2
    rw [HE.out]
    exact ⟨Below.refl _ _, none, 0, rfl, Own.nil _ _ _⟩
set_option maxHeartbeats 1000000 in
set_option maxRecDepth 100000 in
theorem names_any (h : StAt w base g s m) (hf : s.files.length ≤ 1000000) : Calls Tryz.prog 51 #[.pointer (some ⟨g, 0, none⟩)] w fun e w' => ∃ A c, e = .returned (.slice A (Sto.names s).length c) ∧ OwnS Sto.S1 1 w' w.heap.size 9 A c (Sto.names s) ∧ Below w.heap.size w w' := by
  have H := Lib.hid h
  have hnl : s.now.length ≤ 1000000 := by have := h.r.ok.gnow.len; omega
  have hgl := h.r.gl
  obtain ⟨_, _, k2, _, _, _, _⟩ := h.cells
  have HK2 := Lib.hid k2
  clear h k2
  go_enter Tryz.func51, Tryz.ntmps51
  go_wp2_with fail
  go_loopw [3, 4] (fun o i wr => ∃ (k oc : Nat) (OA : Option Addr) (Q : List Sto.Str), k ≤ s.now.length ∧ i = .int .i64 (k : Int) ∧ o = .slice OA Q.length oc ∧ Q.length ≤ k ∧ Hid (Q = (Sto.names s).take k) ∧ Hid (OwnS Sto.S1 1 wr w.heap.size 9 OA oc Q) ∧ Hid (Below w.heap.size w wr)) (fun _ i _ => s.now.length - (intOf i).toNat)
  case atStart => exact ⟨0, 0, none, [], by omega, rfl, rfl, Nat.le_refl _, Lib.hid rfl, Lib.hid (OwnS.nil _ _ _), Lib.hid (Below.refl _ _)⟩
  case round =>
    obtain ⟨k, oc, OA, Q, hk, rfl, rfl, hql, HQ, HO, HB⟩ := hrel
    have c2 := (HB.out.cell (p := ⟨g, 2, none⟩) hgl).trans HK2.out
    have hbs : w.heap.size ≤ wr.heap.size := HB.out.size
    by_cases hlt : k < s.now.length
    · have hlt' : (k : Int) < (s.now.length : Int) := by omega
      obtain ⟨b, off, hA, hb, c0, c1⟩ := rd_en (H.out.r.now.rd.below HB.out (Nat.le_refl _)) hlt
      have HK : Hid ((Sto.names s).take (k + 1) = Q ++ [(s.now[k]).1]) := Lib.hid (by
        have hlt2 : k < (Sto.names s).length := by unfold Sto.names; rw [List.length_map]; exact hlt
        rw [List.take_succ_eq_append_getElem hlt2, HQ.out]
        congr 2
        simp [Sto.names])
      obtain ⟨p, hp⟩ : ∃ p, p = s.now[k] := ⟨_, rfl⟩
      rw [← hp] at c0 HK
      obtain ⟨q, i⟩ := p
      simp only at c0 HK
      obtain ⟨S, hS⟩ : ∃ S, (⟨q.toArray⟩ : ByteArray) = S := ⟨_, rfl⟩
      rw [hS] at c0
      have HRD : Hid (RdS Sto.S1 1 (wr.alloc (.cells #[.string S] 9)) (wr.heap.size + 1) (some ⟨wr.heap.size, 0, none⟩) [q]) := Lib.hid (by
        rw [← hS]
        exact rd_one (fun _ => rfl) wr q _)
      rw [hA] at c2
      have hqm : Q.length ≤ 1000000 := by omega
      clear hp hS c1 hA
      go_wp2_with (at_builtin; refine wpList_append_s _ rfl _ _ Sto.strT rfl w.heap.size OA oc Q rfl (HO.out.alloc _) (wr.heap.size + 1) (some ⟨wr.heap.size, 0, none⟩) 1 1 [q] rfl rfl HRD.out (by simp; omega) (by unfold maxLen; simp; omega) (by simp; omega) ?_; intro A8 c8 L8 w8 hl8 ho8 hg8 hat8; have HGO := Lib.hid hg8; have HOO := Lib.hid ho8; have HLO := Lib.hid hl8; clear hg8 ho8 hl8 hat8)
      have hll : L8.length = Q.length + 1 := by rw [HLO.out, List.length_append]; rfl
      exact ⟨⟨k + 1, c8, A8, L8, hlt, by simp, rfl, by omega, Lib.hid (by rw [HLO.out, HK.out]), HOO, Lib.hid (own_app HB.out (fun k e => (HO.out.blk_ge k e).1) HGO.out)⟩, by simp only [intOf]; omega⟩
    · have hlt' : ¬ (k : Int) < (s.now.length : Int) := by omega
      have HE : Hid (Q = Sto.names s) := Lib.hid (by rw [HQ.out, List.take_of_length_le (by unfold Sto.names; rw [List.length_map]; omega)])
      go_wp2_with fail
      go_ret
      rw [← HE.out]
      exact ⟨OA, oc, rfl, HO.out, HB.out⟩
end
end Ref
end Go.Proofs.YtaiokogbhfliiaaGreatDoor

namespace Go.Proofs.YtaiokogbhfliiaaGreatDoor
open Go.RowKit Go.Maps

namespace Ref
section
variable {w : World} {base g : Nat} {s : Sto.St} {m : Mem}
/-- A cell of the store, and the four of a change. -/
def BoxS (g n j : Nat) (v v0 v1 v2 v3 : Value) (W : World) : Prop := W.cell? ⟨g, j, none⟩ = some v ∧ W.cell? ⟨n, 0, none⟩ = some v0 ∧ W.cell? ⟨n, 1, none⟩ = some v1 ∧ W.cell? ⟨n, 2, none⟩ = some v2 ∧ W.cell? ⟨n, 3, none⟩ = some v3
theorem BoxS.of {g n j : Nat} {v v0 v1 v2 v3 : Value} {W : World} {T : TypeId} (h : W.cell? ⟨g, j, none⟩ = some v) (h2 : W.heap[n]? = some (.cells #[v0, v1, v2, v3] T)) : BoxS g n j v v0 v1 v2 v3 W := by
  refine ⟨h, ?_, ?_, ?_, ?_⟩
  all_goals (rw [cell_of_row W n _ _ _ (0, 0) h2]; rfl)
/-- What change comes to. -/
def ChgR (w : World) (base g : Nat) (m : Mem) (s' : Sto.St) (e : Ending) (w' : World) : Prop := e = .returned (.tuple #[]) ∧ ∃ m', StAt w' base g s' m' ∧ Aft turns w w' base (Row m) (Row m')
set_option maxHeartbeats 1000000 in
set_option maxRecDepth 100000 in
theorem change_any (h : StAt w base g s m) (x : Sto.Chg) (v0 v1 v2 v3 : Value) (hv : C4 x = [v0, v1, v2, v3]) (hok : Sto.Ok (Sto.change s x)) (hf : s.files.length ≤ 1000000) (hl : s.kept.length ≤ 1000000) :
    Calls Tryz.prog 85 #[.pointer (some ⟨g, 0, none⟩), .agg #[v0, v1, v2, v3]] w (ChgR w base g m (Sto.change s x)) := by
  have H := Lib.hid h
  have HOK := Lib.hid hok
  have HV := Lib.hid hv
  have hgl := h.r.gl
  have hnl : s.now.length ≤ 1000000 := by have := h.r.ok.gnow.len; omega
  have KM := Lib.hid (fun V (hV : Below w.heap.size w V) => made_any m.NA m.nc s.now x v0 v1 v2 v3 hv V (h.r.now.below hV).rd (by omega))
  clear h hok hv
  go_enter Tryz.func85, Tryz.ntmps85
  go_wp2_with fail
  obtain ⟨V, hV⟩ : ∃ V, (w.alloc (.cells #[v0, v1, v2, v3] 124)).drew = V := ⟨_, rfl⟩
  have hbV : Below w.heap.size w V := by rw [← hV]; exact ((Below.refl _ _).alloc (Nat.le_refl _) _).drew
  have hxV : V.heap[w.heap.size]? = some (.cells #[v0, v1, v2, v3] 124) := by rw [← hV]; exact heap_alloc_new w _
  have HBV := Lib.hid hbV
  have HXV := Lib.hid hxV
  have HSV := Lib.hid (H.out.below hbV)
  have HS0 : BoxS g w.heap.size 2 (.slice m.NA s.now.length m.nc) v0 v1 v2 v3 V := BoxS.of HSV.out.cells.2.2.1 hxV
  have KM1 := Lib.hid (KM.out V hbV)
  refine wp_region_E 9 (BoxS g w.heap.size 2 (.slice m.NA s.now.length m.nc) v0 v1 v2 v3) (by kernel_rfl) ?_
  rw [hV]
  clear hV hbV hxV KM
  refine wpAnyE_take (i := 0) (v := ?_) rfl (by kernel_rfl) (by kernel_rfl) (by kernel_rfl) (by kernel_rfl) (fun _ _ _ h => h) (Or.inl ⟨by rfl, ?_⟩) HS0 ?_
  rotate_left
  · (intro wy hSw; obtain ⟨q, q0, q1, q2, q3⟩ := hSw; go_simp; try with_reducible rfl)
  try simp only [Act.put, List.setIfInBounds_toArray]
  refine wpAnyE_take (i := 1) (v := ?_) rfl (by kernel_rfl) (by kernel_rfl) (by kernel_rfl) (by kernel_rfl) (fun _ _ _ h => h) (Or.inl ⟨by rfl, ?_⟩) HS0 ?_
  rotate_left
  · (intro wy hSw; obtain ⟨q, q0, q1, q2, q3⟩ := hSw; go_simp; try with_reducible rfl)
  try simp only [Act.put]
  refine wpAnyE_take (i := 2) (v := ?_) rfl (by kernel_rfl) (by kernel_rfl) (by kernel_rfl) (by kernel_rfl) (fun _ _ _ h => h) (Or.inl ⟨by rfl, ?_⟩) HS0 ?_
  rotate_left
  · (intro wy hSw; obtain ⟨q, q0, q1, q2, q3⟩ := hSw; go_simp; try with_reducible rfl)
  try simp only [Act.put]
  refine wpAnyE_take (i := 3) (v := ?_) rfl (by kernel_rfl) (by kernel_rfl) (by kernel_rfl) (by kernel_rfl) (fun _ _ _ h => h) (Or.inl ⟨by rfl, ?_⟩) HS0 ?_
  rotate_left
  · (intro wy hSw; obtain ⟨q, q0, q1, q2, q3⟩ := hSw; go_simp; try with_reducible rfl)
  try simp only [Act.put]
  refine wpAnyE_take (i := 4) (v := ?_) rfl (by kernel_rfl) (by kernel_rfl) (by kernel_rfl) (by kernel_rfl) (fun _ _ _ h => h) (Or.inl ⟨by rfl, ?_⟩) HS0 ?_
  rotate_left
  · (intro wy hSw; obtain ⟨q, q0, q1, q2, q3⟩ := hSw; go_simp; try with_reducible rfl)
  try simp only [Act.put]
  refine wpAnyE_take (i := 5) (v := ?_) rfl (by kernel_rfl) (by kernel_rfl) (by kernel_rfl) (by kernel_rfl) (fun _ _ _ h => h) (Or.inl ⟨by rfl, ?_⟩) HS0 ?_
  rotate_left
  · (intro wy hSw; obtain ⟨q, q0, q1, q2, q3⟩ := hSw; go_simp; try with_reducible rfl)
  try simp only [Act.put]
  refine wpAnyE_one (i := 6) (by kernel_rfl) rfl (fun K hK => ?_)
  go_simp
  refine KM1.out.mono ?_
  rintro e w2 ⟨NA, nc, rfl, hn2, hb2⟩
  have HN2 := Lib.hid (hn2.mono (base' := w.heap.size) HBV.out.size)
  have HB2 := Lib.hid (HBV.out.trans (hb2.mono HBV.out.size))
  have HS2 := Lib.hid (H.out.below HB2.out)
  have hx2 : w2.heap[w.heap.size]? = some (.cells #[v0, v1, v2, v3] 124) := (hb2.block _ (Array.getElem?_eq_some_iff.1 HXV.out).1).trans HXV.out
  have HX2 := Lib.hid hx2
  have HSQ : BoxS g w.heap.size 2 (.slice m.NA s.now.length m.nc) v0 v1 v2 v3 w2 := BoxS.of HS2.out.cells.2.2.1 hx2
  have z2 := HS2.out.cells.2.2.1
  have f2 := HS2.out.frozen 2
  obtain ⟨nn, hnn⟩ : ∃ nn, nn = (Sto.made s.now x).length := ⟨_, rfl⟩
  have HNN := Lib.hid hnn
  rw [← hnn]
  refine hK _ _ HSQ ?_
  clear hK K HS0 hn2 hb2 hx2 hnn KM1 HXV
  try simp only [Act.put]
  refine wpAnyE_one (i := 7) (by kernel_rfl) rfl (fun K hK => ?_)
  go_simp
  refine hK _ _ HSQ ?_
  clear hK K
  refine wpAnyE_one (i := 8) (by kernel_rfl) rfl (fun K hK => ?_)
  go_simp
  refine hK _ _ HSQ ?_
  clear hK K
  refine wpAnyE_last (by kernel_rfl) (by kernel_rfl) rfl (fun K hK => ?_)
  go_simp
  refine hK _ _ ?_
  clear hK K HSQ z2 f2
  go_wp2_with fail
  obtain ⟨V3, hV3⟩ : ∃ V3, V3 = w2.setCell ⟨g, 2, none⟩ (.slice NA nn nc) := ⟨_, rfl⟩
  have HV3 := Lib.hid hV3
  rw [← hV3]
  obtain ⟨V4, hV4⟩ : ∃ V4, V3.drew = V4 := ⟨_, rfl⟩
  have hb4 : Below V3.heap.size V3 V4 := by rw [← hV4]; exact (Below.refl _ _).drew
  have HB4 := Lib.hid hb4
  have hgx : w.heap.size ≠ g := by omega
  have hx4 : V4.heap[w.heap.size]? = some (.cells #[v0, v1, v2, v3] 124) := by
    rw [← hV4]
    show V3.heap[w.heap.size]? = _
    rw [hV3, heap_setCell_other w2 ⟨g, 2, none⟩ w.heap.size _ hgx]
    exact HX2.out
  have hg4 : V4.heap[g]? = some (.cells #[.int .i64 s.room, .slice m.FA m.FV.length m.fc, .slice NA nn nc, .slice m.DA s.disk.length m.dc, .slice m.KA s.kept.length m.kc, .slice m.PA s.plan.length m.pc, .bool s.off] 83) := by
    rw [← hV4]
    show V3.heap[g]? = _
    rw [hV3]
    exact (heap_set7 HS2.out.box _).2.1
  have t4 : V4.cell? ⟨g, 4, none⟩ = some (.slice m.KA s.kept.length m.kc) := by rw [cell_of_row V4 g 4 _ _ (0, 0) hg4]; rfl
  have HS4 : BoxS g w.heap.size 4 (.slice m.KA s.kept.length m.kc) v0 v1 v2 v3 V4 := BoxS.of t4 hx4
  have HX4 := Lib.hid hx4
  have HG4 := Lib.hid hg4
  have HK4 : Hid (OwnS C4 4 V4 base 124 m.KA m.kc s.kept) := Lib.hid (HS2.out.r.kept.keep (fun k e => by
    rw [← hV4]
    show V3.heap[k]? = _
    rw [hV3]
    exact heap_setCell_other w2 ⟨g, 2, none⟩ k _ ((Sto.ownTagS HS2.out.r.kept e).ne HS2.out.gt (by decide))))
  have HGE : Hid (base ≤ V4.heap.size ∧ g < V4.heap.size ∧ w.heap.size < V4.heap.size) := Lib.hid ⟨by have := H.out.r.gb; have := (Array.getElem?_eq_some_iff.1 hg4).1; omega, (Array.getElem?_eq_some_iff.1 hg4).1, (Array.getElem?_eq_some_iff.1 hx4).1⟩
  have HKG : Hid (some g ≠ blk m.KA ∧ some w.heap.size ≠ blk m.KA) := Lib.hid ⟨fun e => (Sto.ownTagS HK4.out e.symm).ne ⟨_, _, hg4⟩ (by decide) rfl, fun e => by have := (H.out.r.kept.blk_ge _ e.symm).2; omega⟩
  refine wp_region_E 10 (BoxS g w.heap.size 4 (.slice m.KA s.kept.length m.kc) v0 v1 v2 v3) (by kernel_rfl) ?_
  rw [hV4]
  clear hV4 hb4 hV3 hx4 hg4 t4
  refine wpAnyE_take (i := 0) (v := ?_) rfl (by kernel_rfl) (by kernel_rfl) (by kernel_rfl) (by kernel_rfl) (fun _ _ _ h => h) (Or.inl ⟨by rfl, ?_⟩) HS4 ?_
  rotate_left
  · (intro wy hSw; obtain ⟨q, q0, q1, q2, q3⟩ := hSw; go_simp; try with_reducible rfl)
  try simp only [Act.put, List.setIfInBounds_toArray]
  refine wpAnyE_take (i := 1) (v := ?_) rfl (by kernel_rfl) (by kernel_rfl) (by kernel_rfl) (by kernel_rfl) (fun _ _ _ h => h) (Or.inl ⟨by rfl, ?_⟩) HS4 ?_
  rotate_left
  · (intro wy hSw; obtain ⟨q, q0, q1, q2, q3⟩ := hSw; go_simp; try with_reducible rfl)
  try simp only [Act.put]
  refine wpAnyE_take (i := 2) (v := ?_) rfl (by kernel_rfl) (by kernel_rfl) (by kernel_rfl) (by kernel_rfl) (fun _ _ _ h => h) (Or.inl ⟨by rfl, ?_⟩) HS4 ?_
  rotate_left
  · (intro wy hSw; obtain ⟨q, q0, q1, q2, q3⟩ := hSw; go_simp; try with_reducible rfl)
  try simp only [Act.put]
  refine wpAnyE_take (i := 3) (v := ?_) rfl (by kernel_rfl) (by kernel_rfl) (by kernel_rfl) (by kernel_rfl) (fun _ _ _ h => h) (Or.inl ⟨by rfl, ?_⟩) HS4 ?_
  rotate_left
  · (intro wy hSw; obtain ⟨q, q0, q1, q2, q3⟩ := hSw; go_simp; try with_reducible rfl)
  try simp only [Act.put]
  refine wpAnyE_take (i := 4) (v := ?_) rfl (by kernel_rfl) (by kernel_rfl) (by kernel_rfl) (by kernel_rfl) (fun _ _ _ h => h) (Or.inl ⟨by rfl, ?_⟩) HS4 ?_
  rotate_left
  · (intro wy hSw; obtain ⟨q, q0, q1, q2, q3⟩ := hSw; go_simp; try with_reducible rfl)
  try simp only [Act.put]
  refine wpAnyE_take (i := 5) (v := ?_) rfl (by kernel_rfl) (by kernel_rfl) (by kernel_rfl) (by kernel_rfl) (fun _ _ _ h => h) (Or.inl ⟨by rfl, ?_⟩) HS4 ?_
  rotate_left
  · (intro wy hSw; obtain ⟨q, q0, q1, q2, q3⟩ := hSw; go_simp; try with_reducible rfl)
  try simp only [Act.put]
  refine wpAnyE_one (i := 6) (by kernel_rfl) rfl (fun K hK => ?_)
  go_simp
  obtain ⟨W2, hW2⟩ : ∃ W2, V4.alloc (.cells #[v0, v1, v2, v3] 124) = W2 := ⟨_, rfl⟩
  have hbW : Below V4.heap.size V4 W2 := by rw [← hW2]; exact (Below.refl _ _).alloc (Nat.le_refl _) _
  have HBW := Lib.hid hbW
  have HRD : Hid (RdS C4 4 W2 (V4.heap.size + 1) (some ⟨V4.heap.size, 0, none⟩) [x]) := Lib.hid (by
    have h9 := rd_one (f := C4) (n := 4) (fun a => by cases a <;> rfl) V4 x 124
    rw [HV.out] at h9
    rw [← hW2]; exact h9)
  have HSW : BoxS g w.heap.size 4 (.slice m.KA s.kept.length m.kc) v0 v1 v2 v3 W2 := BoxS.of (by rw [cell_of_row W2 g 4 _ _ (0, 0) ((hbW.block g HGE.out.2.1).trans HG4.out)]; rfl) ((hbW.block _ HGE.out.2.2).trans HX4.out)
  rw [hW2]
  refine hK _ _ HSW ?_
  clear hK K HS4 hbW hW2
  refine wpAnyE_one (i := 7) (by kernel_rfl) rfl (fun K hK => ?_)
  refine step_append_sd W2 (by rfl) (some 20) (by rfl) (.tmp 17) (.tmp 19) chT (by rfl) base m.KA m.kc s.kept (by rfl) (HK4.out.below HBW.out) (V4.heap.size + 1) (some ⟨V4.heap.size, 0, none⟩) 1 1 [x] (by rfl) rfl HRD.out (by simp only [List.length_cons, List.length_nil]; omega) (by simp only [List.length_cons, List.length_nil]; unfold maxLen; omega) (Nat.le_trans HGE.out.1 HBW.out.size) ?_
  intro A8 c8 L8 w8 hl8 ho8 hg8 hat8
  have hg9 := (hg8.block g (Nat.lt_of_lt_of_le HGE.out.2.1 HBW.out.size) HKG.out.1).trans ((HBW.out.block g HGE.out.2.1).trans HG4.out)
  have hx9 := (hg8.block w.heap.size (Nat.lt_of_lt_of_le HGE.out.2.2 HBW.out.size) HKG.out.2).trans ((HBW.out.block _ HGE.out.2.2).trans HX4.out)
  have z8 : w8.cell? ⟨g, 4, none⟩ = some (.slice m.KA s.kept.length m.kc) := by rw [cell_of_row w8 g 4 _ _ (0, 0) hg9]; rfl
  have f8 := frozen_of_row w8 g 4 _ _ hg9
  have HS8 : BoxS g w.heap.size 4 (.slice m.KA s.kept.length m.kc) v0 v1 v2 v3 w8 := BoxS.of z8 hx9
  have HFIN : Hid (StAt (w8.setCell ⟨g, 4, none⟩ (.slice A8 L8.length c8)) base g (Sto.change s x) { m with NA := NA, nc := nc, KA := A8, kc := c8 } ∧ Aft turns w (w8.setCell ⟨g, 4, none⟩ (.slice A8 L8.length c8)) base (Row m) (Row m)) := Lib.hid (by
    subst hl8
    have hvv := HV3.out
    rw [HNN.out] at hvv
    exact (changed H.out HB2.out HN2.out hvv (HB4.out.trans (HBW.out.mono HB4.out.size)) hg8 ho8 HOK.out).2)
  obtain ⟨n8, hn8⟩ : ∃ n8, n8 = L8.length := ⟨_, rfl⟩
  rw [← hn8] at HFIN ⊢
  refine hK _ _ HS8 ?_
  clear hK K HSW hl8 ho8 hg8 hat8 hg9 hx9 hn8
  try simp only [Act.put]
  refine wpAnyE_one (i := 8) (by kernel_rfl) rfl (fun K hK => ?_)
  go_simp
  refine hK _ _ HS8 ?_
  clear hK K
  refine wpAnyE_one (i := 9) (by kernel_rfl) rfl (fun K hK => ?_)
  go_simp
  refine hK _ _ HS8 ?_
  clear hK K
  refine wpAnyE_last (by kernel_rfl) (by kernel_rfl) rfl (fun K hK => ?_)
  go_simp
  refine hK _ _ ?_
  clear hK K HS8 z8 f8
  go_wp2_with fail
  go_end0
  exact ⟨rfl, _, HFIN.out.1, HFIN.out.2⟩
end
end Ref
end Go.Proofs.YtaiokogbhfliiaaGreatDoor

namespace Go.Proofs.YtaiokogbhfliiaaGreatDoor
open Go.RowKit Go.Maps

namespace Ref
section
variable {w w1 w' : World} {base g : Nat} {s : Sto.St} {m : Mem}
def psum (s : Sto.St) (k : Nat) : Nat := ((s.now.take k).map fun p => (Sto.file s p.2).b.length).sum
theorem psum_succ {k : Nat} (hk : k < s.now.length) : psum s (k + 1) = psum s k + (Sto.file s (s.now[k]).2).b.length := by
  unfold psum
  rw [List.take_succ_eq_append_getElem hk, List.map_append, List.sum_append]
  simp
theorem psum_le (h : Sto.Ok s) : ∀ k, psum s k ≤ k * 16777216
  | 0 => by simp [psum]
  | k + 1 => by
    have ih := psum_le h k
    rcases Nat.lt_or_ge k s.now.length with hk | hk
    · rw [psum_succ hk]
      have := (Sto.file_ok h (s.now[k]).2).2
      omega
    · have : psum s (k + 1) = psum s k := by unfold psum; rw [List.take_of_length_le (by omega), List.take_of_length_le (by omega)]
      omega
theorem psum_all {k : Nat} (hk : s.now.length ≤ k) : psum s k = Sto.size s := by
  unfold psum Sto.size
  rw [List.take_of_length_le hk]
set_option maxHeartbeats 1000000 in
set_option maxRecDepth 100000 in
theorem size_any (h : StAt w base g s m) (hf : s.files.length ≤ 1000000) : Calls Tryz.prog 86 #[.pointer (some ⟨g, 0, none⟩)] w fun e w' => e = .returned (.int .i64 (Sto.size s : Int)) ∧ Below w.heap.size w w' := by
  have H := Lib.hid h
  have hnl : s.now.length ≤ 1000000 := by have := h.r.ok.gnow.len; omega
  clear h
  go_enter Tryz.func86, Tryz.ntmps86
  go_wp2_with fail
  go_loopw [3, 4] (fun z i wr => ∃ k : Nat, k ≤ s.now.length ∧ i = .int .i64 (k : Int) ∧ z = .int .i64 ((psum s k : Nat) : Int) ∧ Hid (Below w.heap.size w wr)) (fun _ i _ => s.now.length - (intOf i).toNat)
  case atStart => exact ⟨0, by omega, rfl, rfl, Lib.hid (Below.refl _ _)⟩
  case round =>
    obtain ⟨k, hk, rfl, rfl, HB⟩ := hrel
    have HS := Lib.hid (H.out.below HB.out)
    obtain ⟨_, c1, c2, _, _, _, _⟩ := HS.out.cells
    by_cases hlt : k < s.now.length
    · have hlt' : (k : Int) < (s.now.length : Int) := by omega
      obtain ⟨b, off, hA, hb, _, d1⟩ := rd_en HS.out.r.now.rd hlt
      have hi : (s.now[k]).2 < s.files.length := H.out.r.ok.gnow.lt _ (List.mem_map_of_mem (List.getElem_mem hlt))
      obtain ⟨hi2, fb, fo, hFA, _, _, hfe, e0, _, _⟩ := file_row HS.out hi
      have hps := psum_succ (s := s) hlt
      have hpb := psum_le H.out.r.ok (k + 1)
      have hsm : (k + 1) * 16777216 ≤ 1000001 * 16777216 := Nat.mul_le_mul_right _ (by omega)
      obtain ⟨i, hii⟩ : ∃ i, i = (s.now[k]).2 := ⟨_, rfl⟩
      simp only [← hii] at d1 hi2 hfe e0 hps
      rw [hfe] at e0
      obtain ⟨vA, hvA⟩ : ∃ vA, vA = m.FV[i].A := ⟨_, rfl⟩
      obtain ⟨vc, hvc⟩ : ∃ vc, vc = m.FV[i].c := ⟨_, rfl⟩
      obtain ⟨bl, hbl⟩ : ∃ bl, bl = (Sto.file s i).b.length := ⟨_, rfl⟩
      rw [← hvA, ← hvc, ← hbl] at e0
      rw [← hbl] at hps
      rw [hA] at c2
      rw [hFA] at c1
      obtain ⟨z, hz⟩ : ∃ z, z = psum s k := ⟨_, rfl⟩
      rw [← hz] at hps ⊢
      have HPS := Lib.hid hps
      have hz1 : z + bl ≤ 16777232777216 := by omega
      have hil : (i : Int) < (m.FV.length : Int) := by omega
      have hw : IntKind.i64.wrap ((z : Int) + (bl : Int)) = (z : Int) + (bl : Int) := by rw [IntKind.wrap_i64]; omega
      clear hvA hvc hbl hfe hFA hA hi hps hpb hsm hii hz hz1
      go_wp2_with fail
      go_quiet (fail)
      refine Sto.drewN_of (fun X hbX hXh => ?_)
      have HBX := Lib.hid (HB.out.trans (hbX.mono HB.out.size))
      clear hbX hXh
      go_wp2_with fail
      exact ⟨⟨k + 1, hlt, by simp, by rw [HPS.out]; simp, HBX⟩, by simp only [intOf]; omega⟩
    · have hlt' : ¬ (k : Int) < (s.now.length : Int) := by omega
      have HE : Hid (psum s k = Sto.size s) := Lib.hid (psum_all (by omega))
      go_wp2_with fail
      go_ret
      rw [HE.out]
      exact ⟨rfl, HB.out⟩
theorem meet_files (s : Sto.St) (l : List Sto.Str) : (Sto.meet s l).2.files = s.files ∧ (Sto.meet s l).2.kept = s.kept ∧ (Sto.meet s l).2.now = s.now := by
  rcases Sto.meet_cases s l with e | ⟨p, o, e⟩ <;> (rw [e]; exact ⟨rfl, rfl, rfl⟩)
def fv0 : Fv := ⟨none, 0, ⟨[], 0⟩⟩
/-- A new file. -/
theorem newFile (h : StAt w base g s m) {FA : Option Addr} {fc : Nat} (hg : (w.alloc (.cells #[.slice none 0 0, .int .i64 0] 126)).grownBy w1 (blk m.FA)) (ho : OwnS Fv.cells 2 w1 base 126 FA fc (m.FV ++ [fv0])) :
    w1.heap[g]? = some (stObj m s) ∧ StAt (w1.setCell ⟨g, 1, none⟩ (.slice FA (m.FV ++ [fv0]).length fc)) base g { s with files := s.files ++ [⟨[], 0⟩] } { m with FA := FA, fc := fc, FV := m.FV ++ [fv0] } ∧
    Aft turns w (w1.setCell ⟨g, 1, none⟩ (.slice FA (m.FV ++ [fv0]).length fc)) base (Row m) (Row { m with FA := FA, fc := fc, FV := m.FV ++ [fv0] }) := by
  have hba : Below w.heap.size w (w.alloc (.cells #[.slice none 0 0, .int .i64 0] 126)) := (Below.refl _ _).alloc (Nat.le_refl _) _
  have h2 := h.below hba
  have hFt : ∀ k, blk m.FA = some k → Sto.Tag w k 126 ∧ base ≤ k := fun k e => ⟨Sto.ownTagS h.r.frow e, (h.r.frow.blk_ge k e).1⟩
  have hT : ∀ k T, Sto.Tag w k T → T ≠ 126 → w1.heap[k]? = w.heap[k]? := fun k T t h3 => (hg.block k (Nat.lt_of_lt_of_le t.lt hba.size) (fun e => (hFt k e.symm).1.ne t (Ne.symm h3) rfl)).trans (hba.block k t.lt)
  have hb1 := (hT g _ h.gt (by decide)).trans h.box
  have ht1 : Sto.Tag w1 g 83 := ⟨_, _, hb1⟩
  have hsz : w.heap.size ≤ w1.heap.size := Nat.le_trans hba.size hg.size
  have hall : ∀ k T, Sto.Tag w k T → T ≠ 83 → T ≠ 126 → (w1.setCell ⟨g, 1, none⟩ (.slice FA (m.FV ++ [fv0]).length fc)).heap[k]? = w.heap[k]? := fun k T t h1 h3 => (heap_setCell_other _ ⟨g, 1, none⟩ k _ (t.ne h.gt h1)).trans (hT k T t h3)
  refine ⟨hb1, ⟨(heap_set7 hb1 _).1, ?_⟩, ?_⟩
  · refine h.r.files (by simp; omega) (fun k T t _ hm _ => hall k T t (fun e => by rw [e] at hm; revert hm; decide) (fun e => by rw [e] at hm; revert hm; decide)) (by rw [List.map_append, h.r.fs]; rfl) (ho.keep (fun k e => heap_setCell_other _ ⟨g, 1, none⟩ k _ ((Sto.ownTagS ho e).ne ht1 (by decide)))) (fun v hv => ?_) (fun v hv => ?_) h.r.ok.more
    rotate_left
    · rcases List.mem_append.1 hv with hv | hv
      · exact h.r.fcap v hv
      · rw [List.mem_singleton] at hv
        rw [hv]; exact Nat.le_refl _
    rcases List.mem_append.1 hv with hv | hv
    · exact (h.r.fb v hv).keep (by simp; omega) (fun k e => hall k _ ((h.r.fb v hv).at_ k e).2 (by decide) (by decide))
    · rw [List.mem_singleton] at hv
      rw [hv]; exact Rby.nil _ _
  · refine ⟨hg.os, hg.tape, hg.output, by simp; omega, fun k hk hn => ?_, fun k _ hr => ?_⟩
    · have hkg : k ≠ g := fun e => by
        rcases hn with hn | hn
        · have := h.r.gb; omega
        · exact hn _ (by decide) (e ▸ h.gt)
      rw [heap_setCell_other _ ⟨g, 1, none⟩ k _ hkg, hg.block k (by simp; omega) (fun e => by
        rcases hn with hn | hn
        · have := (hFt k e.symm).2; omega
        · exact hn _ (by decide) (hFt k e.symm).1)]
      exact hba.block k hk
    · rcases hr with ⟨v, hv, e⟩ | e
      · rcases List.mem_append.1 hv with hv | hv
        · exact .inl ⟨v, hv, e⟩
        · rw [List.mem_singleton] at hv
          rw [hv] at e; cases e
      · exact .inr e
set_option maxHeartbeats 1000000 in
set_option maxRecDepth 100000 in
theorem remove_any (n : Sto.Str) (hn : n.length ≤ 9000000000000000) (h : StAt w base g s m) (hf : s.files.length ≤ 1000000) (hl : s.kept.length ≤ 1000000) :
    Calls Tryz.prog 112 #[.pointer (some ⟨g, 0, none⟩), Sto.str n] w (OpR w base g m (Sto.remove s n)) := by
  have KM := Lib.hid (may_any n n h hn hn)
  rw [meet_two] at KM
  have HMF := Lib.hid (meet_files s [n])
  have HOK := Lib.hid (Sto.Ok.remove h.r.ok n)
  obtain ⟨x, hx⟩ : ∃ x, x = Sto.meet s [n] := ⟨_, rfl⟩
  rw [← hx] at KM HMF
  have HX := Lib.hid hx
  obtain ⟨S, hS⟩ : ∃ S, S = (⟨n.toArray⟩ : ByteArray) := ⟨_, rfl⟩
  have HS : Hid (Sto.str n = .string S) := Lib.hid (by rw [hS]; rfl)
  rw [HS.out] at KM ⊢
  clear h hx hS
  obtain ⟨x0, s1⟩ := x
  have hf1 : s1.files.length ≤ 1000000 := by have := HMF.out.1; simp only at this; rw [this]; exact hf
  have hl1 : s1.kept.length ≤ 1000000 := by have := HMF.out.2.1; simp only at this; rw [this]; exact hl
  go_enter Tryz.func112, Tryz.ntmps112
  go_wp2_with fail
  refine KM.out.mono ?_
  rintro e w1 ⟨rfl, m1, hst, haf⟩
  have HST := Lib.hid hst
  have HAF := Lib.hid haf
  simp only at HST
  clear hst haf KM
  by_cases h0 : x0 = 0
  · subst h0
    obtain ⟨_, _, c2, _, _, _, _⟩ := HST.out.cells
    have hnl : s1.now.length ≤ 1000000 := by have := HST.out.r.ok.gnow.len; omega
    have KF := Lib.hid (find_any m1.NA m1.nc s1.now n w1 HST.out.r.now.rd (by omega))
    rw [HS.out] at KF
    obtain ⟨fo, hfo⟩ : ∃ fo, fo = Sto.find s1.now n := ⟨_, rfl⟩
    have HFO := Lib.hid hfo
    clear hfo
    go_wp2_with fail
    refine KF.out.mono ?_
    rintro e w2 ⟨rfl, rfl⟩
    rcases fo with _ | i
    · have HFN : Hid (fnd s1.now n = -1) := Lib.hid (by unfold fnd; rw [← HFO.out])
      rw [HFN.out]
      have HE : Hid (Sto.remove s n = (4, s1)) := Lib.hid (by unfold Sto.remove; rw [← HX.out]; simp only [ne_eq, not_true_eq_false, if_false]; rw [← HFO.out])
      go_wp2_with fail
      go_ret
      rw [HE.out]
      exact ⟨rfl, _, HST.out, HAF.out⟩
    · have HFN : Hid (fnd s1.now n = (i : Int)) := Lib.hid (by unfold fnd; rw [← HFO.out])
      rw [HFN.out]
      have HE : Hid (Sto.remove s n = (0, Sto.change s1 (.del n))) := Lib.hid (by unfold Sto.remove; rw [← HX.out]; simp only [ne_eq, not_true_eq_false, if_false]; rw [← HFO.out])
      have hok := HOK.out
      rw [HE.out] at hok
      have KC := Lib.hid (change_any HST.out (.del n) _ _ _ _ rfl hok hf1 hl1)
      rw [HS.out] at KC
      have hi0 : ¬ (i : Int) < 0 := by omega
      clear hok c2 KF
      go_wp2_with fail
      refine KC.out.mono ?_
      rintro e w3 ⟨rfl, m3, hst3, haf3⟩
      have HF3 : Hid (OpR w base g m (Sto.remove s n) (.returned (.int .i64 0)) w3) := Lib.hid (by
        rw [HE.out]
        exact ⟨rfl, m3, hst3, HAF.out.trans haf3⟩)
      clear hst3 haf3 KC
      go_wp2_with fail
      go_ret
      exact HF3.out
  · have HE : Hid (Sto.remove s n = (x0, s1)) := Lib.hid (by unfold Sto.remove; rw [← HX.out]; simp only; rw [if_pos h0])
    have e1 : (x0 == 0) = false := by simpa using h0
    have e2 : (x0 != 0) = true := by simpa using h0
    clear h0
    go_wp2_with fail
    go_ret
    rw [HE.out]
    exact ⟨rfl, _, HST.out, HAF.out⟩
end
end Ref
end Go.Proofs.YtaiokogbhfliiaaGreatDoor

namespace Go.Proofs.YtaiokogbhfliiaaGreatDoor
open Go.RowKit Go.Maps

namespace Ref
section
variable {α : Type} {f : α → List Value} {n : Nat}
theorem fm_set (hf : ∀ a, (f a).length = n) (a' : α) (u : Value) : ∀ (l : List α) (i j : Nat) (hi : i < l.length), j < n → f a' = (f l[i]).set j u → (l.set i a').flatMap f = (l.flatMap f).set (i * n + j) u
  | [], i, j, hi, _, _ => by simp at hi
  | p :: l, 0, j, _, hj, h => by
    rw [List.set_cons_zero, List.flatMap_cons, List.flatMap_cons, Nat.zero_mul, Nat.zero_add, List.set_append_left _ _ (by rw [hf]; exact hj)]
    congr 1
  | p :: l, i + 1, j, hi, hj, h => by
    rw [List.set_cons_succ, List.flatMap_cons, List.flatMap_cons, List.set_append_right _ _ (by rw [hf, Nat.succ_mul]; omega), fm_set hf a' u l i j (by simpa using hi) hj (by simpa using h), hf]
    congr 2
    rw [Nat.succ_mul]; omega
theorem ownS_put {w : World} {base fb c : Nat} {e : TypeId} {l : List α} (hf : ∀ a, (f a).length = n) (h : OwnS f n w base e (some ⟨fb, 0, none⟩) c l) {i j : Nat} (hi : i < l.length) (hj : j < n) (a' : α) (u : Value) (hfa : f a' = (f l[i]).set j u) :
    OwnS f n (w.setCell ⟨fb, i * n + j, none⟩ u) base e (some ⟨fb, 0, none⟩) c (l.set i a') ∧ w.frozen? ⟨fb, i * n + j, none⟩ = false := by
  rcases h.2 with ⟨_, hn⟩ | ⟨g, cap, cur, hv, hb, hh, hle, hmax, hsz, htk⟩
  · omega
  · have hg : fb = g := by injection hv with hv; injection hv with hv; injection hv
    subst hg
    refine ⟨⟨fm_len hf _, .inr ⟨fb, cap, cur.setIfInBounds (i * n + j) u, by rw [List.length_set]; exact hv, hb, ?_, by rw [List.length_set]; exact hle, hmax, by rw [Array.size_setIfInBounds]; exact hsz, ?_⟩⟩, frozen_of_row w fb _ _ _ hh⟩
    · have h1 := heap_setCell_same w fb (i * n + j) _ _ u hh
      simpa using h1
    · rw [fm_set hf a' u l i j hi hj hfa, ← htk, List.length_set, Array.toList_setIfInBounds, List.take_set]
end
section
variable {w w0 w' : World} {base g : Nat} {s : Sto.St} {m : Mem}
theorem fa_form (h : StAt w base g s m) {i : Nat} (hi : i < s.files.length) : ∃ fb, m.FA = some ⟨fb, 0, none⟩ := by
  have hl : m.FV.length = s.files.length := by rw [← h.r.fs, List.length_map]
  obtain ⟨fb, _, hA, _, _, _⟩ := h.r.frow.form (by omega)
  exact ⟨fb, hA⟩
theorem row_set {i : Nat} {v : Fv} {FA : Option Addr} {fc k : Nat} (h : Row { m with FA := FA, fc := fc, FV := m.FV.set i v } k) : Row m k ∨ blk v.A = some k := by
  rcases h with ⟨x, hx, e⟩ | e
  · rcases List.mem_or_eq_of_mem_set hx with hx | hx
    · exact .inl (.inl ⟨x, hx, e⟩)
    · rw [hx] at e; exact .inr e
  · exact .inl (.inr e)
/-- A cell of a file is turned. -/
theorem setFile (h : StAt w base g s m) {fb i j : Nat} (hFA : m.FA = some ⟨fb, 0, none⟩) (hi2 : i < m.FV.length) (hj : j < 2) (v : Fv) (u : Value) (hfa : Fv.cells v = (Fv.cells m.FV[i]).set j u) (hrb : Rby w base v.A v.f.b) (hvc : v.f.b.length ≤ v.c) (hok : Sto.Ok (Sto.setF s i v.f)) :
    StAt (w.setCell ⟨fb, i * 2 + j, none⟩ u) base g (Sto.setF s i v.f) { m with FA := m.FA, fc := m.fc, FV := m.FV.set i v } ∧ Aft turns w (w.setCell ⟨fb, i * 2 + j, none⟩ u) base (Row m) (Row m) := by
  have ho := h.r.frow
  rw [hFA] at ho
  have hp := (ownS_put (f := Fv.cells) (n := 2) (fun _ => rfl) ho hi2 hj v u hfa).1
  have ht : Sto.Tag w fb 126 := Sto.ownTagS ho rfl
  have hge : base ≤ fb := (ho.blk_ge fb rfl).1
  have hne : ∀ k T, Sto.Tag w k T → T ≠ 126 → (w.setCell ⟨fb, i * 2 + j, none⟩ u).heap[k]? = w.heap[k]? := fun k T t hT => heap_setCell_other _ ⟨fb, _, none⟩ k _ (t.ne ht hT)
  refine ⟨⟨?_, ?_⟩, Aft.grown (row := some fb) (Sto.grownBy_setS w ⟨fb, _, none⟩ u) (fun k e _ => by injection e with e; subst e; exact ⟨hge, _, by decide, ht⟩) _⟩
  · rw [hne g _ h.gt (by decide), h.box]
    unfold stObj Sto.setF
    simp only [List.length_set]
  · refine h.r.files (FA := m.FA) (fc := m.fc) (FV := m.FV.set i v) (by simp) (fun k T t _ hm _ => hne k T t (fun e => by rw [e] at hm; revert hm; decide)) (by rw [List.map_set, h.r.fs]) (by rw [hFA]; exact hp) (fun x hx => ?_) (fun x hx => ?_) hok
    rotate_left
    · rcases List.mem_or_eq_of_mem_set hx with hx | hx
      · exact h.r.fcap x hx
      · rw [hx]; exact hvc
    rcases List.mem_or_eq_of_mem_set hx with hx | hx
    · exact (h.r.fb x hx).keep (by simp) (fun k e => hne k _ ((h.r.fb x hx).at_ k e).2 (by decide))
    · rw [hx]; exact hrb.keep (by simp) (fun k e => hne k _ (hrb.at_ k e).2 (by decide))
set_option maxHeartbeats 1000000 in
set_option maxRecDepth 100000 in
theorem create_any (n : Sto.Str) (hn : n.length ≤ 9000000000000000) (h : StAt w base g s m) (hf : s.files.length ≤ 900000) (hl : s.kept.length ≤ 1000000) :
    Calls Tryz.prog 39 #[.pointer (some ⟨g, 0, none⟩), Sto.str n] w (OpR w base g m (Sto.create s n)) := by
  have KM := Lib.hid (may_any n n h hn hn)
  rw [meet_two] at KM
  have HMF := Lib.hid (meet_files s [n])
  have HOK := Lib.hid (Sto.Ok.create h.r.ok n)
  obtain ⟨x, hx⟩ : ∃ x, x = Sto.meet s [n] := ⟨_, rfl⟩
  rw [← hx] at KM HMF
  have HX := Lib.hid hx
  obtain ⟨S, hS⟩ : ∃ S, S = (⟨n.toArray⟩ : ByteArray) := ⟨_, rfl⟩
  have HS : Hid (Sto.str n = .string S) := Lib.hid (by rw [hS]; rfl)
  rw [HS.out] at KM ⊢
  clear h hx hS
  obtain ⟨x0, s1⟩ := x
  have hf1 : s1.files.length ≤ 900000 := by have := HMF.out.1; simp only at this; rw [this]; exact hf
  have hl1 : s1.kept.length ≤ 1000000 := by have := HMF.out.2.1; simp only at this; rw [this]; exact hl
  go_enter Tryz.func39, Tryz.ntmps39
  go_wp2_with fail
  refine KM.out.mono ?_
  rintro e w1 ⟨rfl, m1, hst, haf⟩
  have HST := Lib.hid hst
  have HAF := Lib.hid haf
  simp only at HST
  clear hst haf KM
  by_cases h0 : x0 = 0
  · subst h0
    obtain ⟨_, _, c2, _, _, _, _⟩ := HST.out.cells
    have hnl : s1.now.length ≤ 1000000 := by have := HST.out.r.ok.gnow.len; omega
    have KF := Lib.hid (find_any m1.NA m1.nc s1.now n w1 HST.out.r.now.rd (by omega))
    rw [HS.out] at KF
    obtain ⟨fo, hfo⟩ : ∃ fo, fo = Sto.find s1.now n := ⟨_, rfl⟩
    have HFO := Lib.hid hfo
    clear hfo
    go_wp2_with fail
    refine KF.out.mono ?_
    rintro e w2 ⟨rfl, rfl⟩
    rcases fo with _ | i
    · have HFN : Hid (fnd s1.now n = -1) := Lib.hid (by unfold fnd; rw [← HFO.out])
      rw [HFN.out]
      have HE : Hid (Sto.create s n = (0, Sto.change { s1 with files := s1.files ++ [⟨[], 0⟩] } (.put n s1.files.length))) := Lib.hid (by unfold Sto.create; rw [← HX.out]; simp only [ne_eq, not_true_eq_false, if_false]; rw [← HFO.out]; rfl)
      obtain ⟨_, c1, _, _, _, _, _⟩ := HST.out.cells
      have hfl : m1.FV.length = s1.files.length := by rw [← HST.out.r.fs, List.length_map]
      have hfl2 : m1.FV.length ≤ 900000 := by omega
      have hbs := HST.out.bs
      have HFL := Lib.hid hfl
      have HRD : Hid (RdS Fv.cells 2 (w2.alloc (.cells #[.slice none 0 0, .int .i64 0] 126)) (w2.heap.size + 1) (some ⟨w2.heap.size, 0, none⟩) [fv0]) := Lib.hid (rd_one (fun _ => rfl) w2 fv0 _)
      have HFR := Lib.hid HST.out.r.frow
      clear KF c2 hfl
      go_wp2_with (at_builtin; refine wpList_append_s _ rfl _ _ fvT rfl base m1.FA m1.fc m1.FV rfl (HFR.out.alloc _) (w2.heap.size + 1) (some ⟨w2.heap.size, 0, none⟩) 1 1 [fv0] rfl rfl HRD.out (by simp; omega) (by unfold maxLen; simp; omega) (by simp; omega) ?_; intro A8 c8 L8 w8 hl8 ho8 hg8 hat8; have HNF := Lib.hid (newFile HST.out (FA := A8) (fc := c8) hg8 (by rw [← hl8]; exact ho8)); rw [← hl8] at HNF; have z1 : w8.cell? ⟨g, 1, none⟩ = some (.slice m1.FA m1.FV.length m1.fc) := (by have h9 := HNF.out.1; unfold stObj at h9; rw [cell_of_row w8 g 1 _ _ (0, 0) h9]; rfl); have f1 : w8.frozen? ⟨g, 1, none⟩ = false := frozen_of_row w8 g 1 _ _ HNF.out.1; have hw8 : IntKind.i64.wrap ((L8.length : Int) - 1) = ((s1.files.length : Nat) : Int) := (by have h9 := HFL.out; rw [hl8, List.length_append, IntKind.wrap_i64]; simp; omega); clear hl8 ho8 hg8 hat8)
      have hok := HOK.out
      rw [HE.out] at hok
      have KC := Lib.hid (change_any HNF.out.2.1 (.put n s1.files.length) _ _ _ _ rfl hok (by simp only [List.length_append, List.length_singleton]; omega) (by simp only; omega))
      rw [HS.out] at KC
      clear hok
      refine KC.out.mono ?_
      rintro e w3 ⟨rfl, m3, hst3, haf3⟩
      have HF3 : Hid (OpR w base g m (Sto.create s n) (.returned (.int .i64 0)) w3) := Lib.hid (by
        rw [HE.out]
        exact ⟨rfl, m3, hst3, (HAF.out.trans HNF.out.2.2).trans haf3⟩)
      clear hst3 haf3 KC
      go_wp2_with fail
      go_ret
      exact HF3.out
    · have HFN : Hid (fnd s1.now n = (i : Int)) := Lib.hid (by unfold fnd; rw [← HFO.out])
      rw [HFN.out]
      have HE : Hid (Sto.create s n = (5, s1)) := Lib.hid (by unfold Sto.create; rw [← HX.out]; simp only [ne_eq, not_true_eq_false, if_false]; rw [← HFO.out]; rfl)
      have hi0 : (0 : Int) ≤ (i : Int) := by omega
      go_wp2_with fail
      go_ret
      rw [HE.out]
      exact ⟨rfl, _, HST.out, HAF.out⟩
  · have HE : Hid (Sto.create s n = (x0, s1)) := Lib.hid (by unfold Sto.create; rw [← HX.out]; simp only; rw [if_pos h0])
    have e1 : (x0 == 0) = false := by simpa using h0
    have e2 : (x0 != 0) = true := by simpa using h0
    clear h0
    go_wp2_with fail
    go_ret
    rw [HE.out]
    exact ⟨rfl, _, HST.out, HAF.out⟩
set_option maxHeartbeats 1000000 in
set_option maxRecDepth 100000 in
theorem sync_any (n : Sto.Str) (hn : n.length ≤ 9000000000000000) (h : StAt w base g s m) (hf : s.files.length ≤ 1000000) :
    Calls Tryz.prog 41 #[.pointer (some ⟨g, 0, none⟩), Sto.str n] w (OpR w base g m (Sto.sync s n)) := by
  have KM := Lib.hid (may_any n n h hn hn)
  rw [meet_two] at KM
  have HMF := Lib.hid (meet_files s [n])
  have HOK := Lib.hid (Sto.Ok.sync h.r.ok n)
  obtain ⟨x, hx⟩ : ∃ x, x = Sto.meet s [n] := ⟨_, rfl⟩
  rw [← hx] at KM HMF
  have HX := Lib.hid hx
  obtain ⟨S, hS⟩ : ∃ S, S = (⟨n.toArray⟩ : ByteArray) := ⟨_, rfl⟩
  have HS : Hid (Sto.str n = .string S) := Lib.hid (by rw [hS]; rfl)
  rw [HS.out] at KM ⊢
  clear h hx hS
  obtain ⟨x0, s1⟩ := x
  have hf1 : s1.files.length ≤ 1000000 := by have := HMF.out.1; simp only at this; rw [this]; exact hf
  go_enter Tryz.func41, Tryz.ntmps41
  go_wp2_with fail
  refine KM.out.mono ?_
  rintro e w1 ⟨rfl, m1, hst, haf⟩
  have HST := Lib.hid hst
  have HAF := Lib.hid haf
  simp only at HST
  clear hst haf KM
  by_cases h0 : x0 = 0
  · subst h0
    obtain ⟨_, c1, c2, _, _, _, _⟩ := HST.out.cells
    have hnl : s1.now.length ≤ 1000000 := by have := HST.out.r.ok.gnow.len; omega
    have KF := Lib.hid (find_any m1.NA m1.nc s1.now n w1 HST.out.r.now.rd (by omega))
    rw [HS.out] at KF
    obtain ⟨fo, hfo⟩ : ∃ fo, fo = Sto.find s1.now n := ⟨_, rfl⟩
    have HFO := Lib.hid hfo
    clear hfo
    go_wp2_with fail
    refine KF.out.mono ?_
    rintro e w2 ⟨rfl, rfl⟩
    rcases fo with _ | i
    · have HFN : Hid (fnd s1.now n = -1) := Lib.hid (by unfold fnd; rw [← HFO.out])
      rw [HFN.out]
      have HE : Hid (Sto.sync s n = (4, s1)) := Lib.hid (by unfold Sto.sync; rw [← HX.out]; simp only [ne_eq, not_true_eq_false, if_false]; rw [← HFO.out])
      go_wp2_with fail
      go_ret
      rw [HE.out]
      exact ⟨rfl, _, HST.out, HAF.out⟩
    · have HFN : Hid (fnd s1.now n = (i : Int)) := Lib.hid (by unfold fnd; rw [← HFO.out])
      rw [HFN.out]
      have HE : Hid (Sto.sync s n = (0, Sto.setF s1 i ⟨(Sto.file s1 i).b, (Sto.file s1 i).b.length⟩)) := Lib.hid (by unfold Sto.sync; rw [← HX.out]; simp only [ne_eq, not_true_eq_false, if_false]; rw [← HFO.out])
      have hi : i < s1.files.length := HST.out.r.ok.find_lt HFO.out.symm
      obtain ⟨fb, hFA⟩ := fa_form HST.out hi
      obtain ⟨hi2, fb', fo', hFA', _, hfl, hfe, d0, d1, hrb⟩ := file_row HST.out hi
      rw [hFA] at hFA'
      injection hFA' with hFA'
      injection hFA' with q1 q2
      subst q1 q2
      rw [Nat.zero_add] at d0 d1
      have HI2 := Lib.hid (And.intro hfe hrb)
      have f1 := (ownS_put (f := Fv.cells) (n := 2) (fun _ => rfl) (by have := HST.out.r.frow; rwa [hFA] at this) hi2 (by omega : 1 < 2) ⟨m1.FV[i].A, m1.FV[i].c, ⟨m1.FV[i].f.b, 0⟩⟩ (.int .i64 0) rfl).2
      rw [hfe] at d0 d1
      rw [hFA] at c1
      have hil : (i : Int) < (m1.FV.length : Int) := by omega
      have hi0 : ¬ (i : Int) < 0 := by omega
      obtain ⟨vA, hvA⟩ : ∃ vA, vA = m1.FV[i].A := ⟨_, rfl⟩
      obtain ⟨vc, hvc⟩ : ∃ vc, vc = m1.FV[i].c := ⟨_, rfl⟩
      obtain ⟨bl, hbl⟩ : ∃ bl, bl = (Sto.file s1 i).b.length := ⟨_, rfl⟩
      obtain ⟨su, hsu⟩ : ∃ su, su = (Sto.file s1 i).sure := ⟨_, rfl⟩
      rw [← hvA, ← hvc, ← hbl] at d0
      rw [← hsu] at d1
      have HQ : Hid (OpR w base g m (Sto.sync s n) (.returned (.int .i64 0)) ((w2.drew).setCell ⟨fb, i * 2 + 1, none⟩ (.int .i64 (bl : Int)))) := Lib.hid (by
        have hok := HOK.out
        rw [HE.out] at hok
        have hst2 := HST.out.below ((Below.refl _ _).drew)
        obtain ⟨h1, h2⟩ := setFile hst2 hFA hi2 (by omega : 1 < 2) ⟨m1.FV[i].A, m1.FV[i].c, ⟨(Sto.file s1 i).b, (Sto.file s1 i).b.length⟩⟩ (.int .i64 (bl : Int)) (by rw [hbl, ← hfe]; rfl) (by rw [← hfe]; exact hrb.below ((Below.refl _ _).drew)) (by have h9 := HST.out.r.fcap _ (List.getElem_mem hi2); rw [hfe] at h9; exact h9) hok
        rw [HE.out]
        exact ⟨rfl, _, h1, (HAF.out.trans (Aft.of_below ((Below.refl _ _).drew) _)).trans (h2.rows (fun k hk hr => (row_set hr).elim id (fun e => .inl ⟨_, List.getElem_mem hi2, e⟩)))⟩)
      clear hvA hvc hbl hsu hFA hfe hrb KF c2
      go_wp2_with fail
      go_region
      all_goals
        go_wp2_with fail
        go_ret
        exact HQ.out
  · have HE : Hid (Sto.sync s n = (x0, s1)) := Lib.hid (by unfold Sto.sync; rw [← HX.out]; simp only; rw [if_pos h0])
    have e1 : (x0 == 0) = false := by simpa using h0
    have e2 : (x0 != 0) = true := by simpa using h0
    clear h0
    go_wp2_with fail
    go_ret
    rw [HE.out]
    exact ⟨rfl, _, HST.out, HAF.out⟩
end
end Ref
end Go.Proofs.YtaiokogbhfliiaaGreatDoor

namespace Go.Proofs.YtaiokogbhfliiaaGreatDoor
open Go.RowKit Go.Maps

namespace Ref
section
variable {w w0 w' : World} {base g : Nat} {s : Sto.St} {m : Mem}
/-- Bytes that an operation of the reference's leaves alone. -/
def ByOk (w : World) (base : Nat) (A : Option Addr) (b : List UInt8) : Prop := RdB w base A b ∨ ∃ n, Rby w n A b
theorem ByOk.rd {A : Option Addr} {b : List UInt8} (h : ByOk w base A b) (hB : base ≤ w.heap.size) : RdB w w.heap.size A b := h.elim (fun h => h.more hB) (fun ⟨_, h⟩ => h.rd)
theorem ByOk.aft {A : Option Addr} {b : List UInt8} {ts : List TypeId} {R R' : Nat → Prop} (h : ByOk w base A b) (ha : Aft ts w w' base R R') (hB : base ≤ w.heap.size) (hu : 5 ∉ ts) : ByOk w' base A b :=
  h.imp (fun h => h.below (ha.below hB) (Nat.le_refl _)) (fun ⟨n, h⟩ => ⟨n, h.keep ha.size (fun k e => ha.tag (h.at_ k e).2 hu)⟩)
theorem ByOk.below {A : Option Addr} {b : List UInt8} (h : ByOk w base A b) (hb : Below w.heap.size w w') (hB : base ≤ w.heap.size) : ByOk w' base A b := h.imp (fun h => h.below hb hB) (fun ⟨n, h⟩ => ⟨n, h.below hb⟩)
set_option maxHeartbeats 2000000 in
set_option maxRecDepth 100000 in
theorem append_any (n : Sto.Str) (hn : n.length ≤ 9000000000000000) (bA : Option Addr) (bc : Nat) (b : List UInt8) (hb : ByOk w base bA b) (hbl : b.length ≤ 140737471578112) (h : StAt w base g s m) (hf : s.files.length ≤ 1000000) :
    Calls Tryz.prog 40 #[.pointer (some ⟨g, 0, none⟩), Sto.str n, .slice bA b.length bc] w (OpR w base g m (Sto.append s n b)) := by
  have KM := Lib.hid (may_any n n h hn hn)
  rw [meet_two] at KM
  have HMF := Lib.hid (meet_files s [n])
  have HOK := Lib.hid (Sto.Ok.append h.r.ok n b)
  obtain ⟨x, hx⟩ : ∃ x, x = Sto.meet s [n] := ⟨_, rfl⟩
  rw [← hx] at KM HMF
  have HX := Lib.hid hx
  obtain ⟨S, hS⟩ : ∃ S, S = (⟨n.toArray⟩ : ByteArray) := ⟨_, rfl⟩
  have HS : Hid (Sto.str n = .string S) := Lib.hid (by rw [hS]; rfl)
  rw [HS.out] at KM ⊢
  have HB := Lib.hid hb
  have HBS := Lib.hid h.bs
  clear h hx hS hb
  obtain ⟨x0, s1⟩ := x
  have hf1 : s1.files.length ≤ 1000000 := by have := HMF.out.1; simp only at this; rw [this]; exact hf
  go_enter Tryz.func40, Tryz.ntmps40
  go_wp2_with fail
  refine KM.out.mono ?_
  rintro e w1 ⟨rfl, m1, hst, haf⟩
  have HST := Lib.hid hst
  have HAF := Lib.hid haf
  simp only at HST
  have HB1 : Hid (RdB w1 w1.heap.size bA b) := Lib.hid ((HB.out.aft haf HBS.out (by decide)).rd hst.bs)
  clear hst haf KM
  by_cases h0 : x0 = 0
  · subst h0
    obtain ⟨_, _, c2, _, _, _, _⟩ := HST.out.cells
    have hnl : s1.now.length ≤ 1000000 := by have := HST.out.r.ok.gnow.len; omega
    have KF := Lib.hid (find_any m1.NA m1.nc s1.now n w1 HST.out.r.now.rd (by omega))
    rw [HS.out] at KF
    obtain ⟨fo, hfo⟩ : ∃ fo, fo = Sto.find s1.now n := ⟨_, rfl⟩
    have HFO := Lib.hid hfo
    clear hfo
    go_wp2_with fail
    refine KF.out.mono ?_
    rintro e w2 ⟨rfl, rfl⟩
    rcases fo with _ | i
    · have HFN : Hid (fnd s1.now n = -1) := Lib.hid (by unfold fnd; rw [← HFO.out])
      rw [HFN.out]
      have HE : Hid (Sto.append s n b = (4, s1)) := Lib.hid (by unfold Sto.append; rw [← HX.out]; simp only [ne_eq, not_true_eq_false, if_false]; rw [← HFO.out])
      go_wp2_with fail
      go_ret
      rw [HE.out]
      exact ⟨rfl, _, HST.out, HAF.out⟩
    · have HFN : Hid (fnd s1.now n = (i : Int)) := Lib.hid (by unfold fnd; rw [← HFO.out])
      rw [HFN.out]
      have hi : i < s1.files.length := HST.out.r.ok.find_lt HFO.out.symm
      have KS := Lib.hid (fun X (hX : Below w2.heap.size w2 X) => size_any (HST.out.below hX) hf1)
      obtain ⟨hrm0, hrm⟩ := HST.out.r.ok.room
      have hsz := (Sto.size_bd HST.out.r.ok hf1).1
      have hsg := Sto.size_ge (s := s1) HFO.out.symm
      obtain ⟨c0, _, _, _, _, _, _⟩ := HST.out.cells
      obtain ⟨Z, hZ⟩ : ∃ Z, Z = Sto.size s1 := ⟨_, rfl⟩
      obtain ⟨rm, hr2⟩ : ∃ rm, rm = s1.room := ⟨_, rfl⟩
      have HZ := Lib.hid (And.intro hZ hr2)
      rw [← hZ] at KS hsz hsg
      rw [← hr2] at c0 hrm hrm0
      have HSG := Lib.hid hsg
      clear hZ hr2 hsg
      have KSP := Lib.hid (fun p : BelowW w2 => p.calls (KS.out p.X p.hb))
      have hgl := HST.out.r.gl
      have e2 : ∀ p : BelowW w2, p.X.cell? ⟨g, 0, none⟩ = some (.int .i64 rm) := fun p => (p.hb.cell (p := ⟨g, 0, none⟩) hgl).trans c0
      have hwr : IntKind.i64.wrap (rm - (Z : Int)) = rm - (Z : Int) := by rw [IntKind.wrap_i64]; omega
      have hi0 : ¬ (i : Int) < 0 := by omega
      clear c2 KF
      go_wp2_with fail
      refine wp_region_below (by kernel_rfl) (by kernel_rfl) ?_
      repeat (refine wpQuiet_step (fun K hK => ?_); go_simp; first | (refine hK _ ?_; clear hK K) | (apply Exists.intro; refine ⟨fun _ => ?_, hK _ ?_⟩; (exact KSP.out _); clear hK K))
      refine wpQuiet_nil ?_
      rintro _ ⟨p, rfl⟩
      obtain ⟨Y, hbY⟩ := p
      have HBY := Lib.hid hbY
      have HSY := Lib.hid (HST.out.below hbY)
      show Exit.then _ _ _ _ Y
      clear hbY e2 KS KSP
      by_cases hful : rm - (Z : Int) < (b.length : Int)
      · have HE : Hid (Sto.append s n b = (6, s1)) := Lib.hid (by unfold Sto.append; rw [← HX.out]; simp only [ne_eq, not_true_eq_false, if_false]; rw [← HFO.out]; simp only; rw [if_pos (by rw [← HZ.out.1, ← HZ.out.2]; exact hful)])
        go_wp2_with fail
        go_ret
        rw [HE.out]
        exact ⟨rfl, _, HSY.out, HAF.out.trans (Aft.of_below HBY.out _)⟩
      · have HE : Hid (Sto.append s n b = (0, Sto.setF s1 i ⟨(Sto.file s1 i).b ++ b, (Sto.file s1 i).sure⟩)) := Lib.hid (by unfold Sto.append; rw [← HX.out]; simp only [ne_eq, not_true_eq_false, if_false]; rw [← HFO.out]; simp only; rw [if_neg (by rw [← HZ.out.1, ← HZ.out.2]; exact hful)])
        go_wp2_with fail
        obtain ⟨V, hV⟩ : ∃ V, Y.drew = V := ⟨_, rfl⟩
        have hbV : Below Y.heap.size Y V := by rw [← hV]; exact (Below.refl _ _).drew
        have HBV := Lib.hid (HBY.out.trans (hbV.mono HBY.out.size))
        have HSV := Lib.hid (HST.out.below HBV.out)
        obtain ⟨fb, hFA⟩ := fa_form HSV.out hi
        obtain ⟨hi2, fb', fo', hFA', _, hfl, hfe, d0, _, hrb⟩ := file_row HSV.out hi
        rw [hFA] at hFA'
        injection hFA' with hFA'
        injection hFA' with q1 q2
        subst q1 q2
        rw [Nat.zero_add] at d0
        obtain ⟨_, c1, _, _, _, _, _⟩ := HSV.out.cells
        rw [hfe] at d0 hrb
        rw [hFA] at c1
        have hil : (i : Int) < (m1.FV.length : Int) := by omega
        have hfo := (ownS_put (f := Fv.cells) (n := 2) (fun _ => rfl) (by have := HSV.out.r.frow; rwa [hFA] at this) hi2 (by omega : 0 < 2) ⟨none, 0, ⟨[], m1.FV[i].f.sure⟩⟩ (.slice none 0 0) rfl).2
        rw [Nat.add_zero] at hfo
        have HI2 : Hid (i < m1.FV.length ∧ m1.FA = some ⟨fb, 0, none⟩) := Lib.hid ⟨hi2, hFA⟩
        have HFE : Hid (m1.FV[i].f = Sto.file s1 i) := Lib.hid hfe
        obtain ⟨l, hl⟩ : ∃ l, l = (Sto.file s1 i).b := ⟨_, rfl⟩
        obtain ⟨vA, hvA⟩ : ∃ vA, vA = m1.FV[i].A := ⟨_, rfl⟩
        obtain ⟨vc, hvc⟩ : ∃ vc, vc = m1.FV[i].c := ⟨_, rfl⟩
        rw [← hvA, ← hvc, ← hl] at d0
        rw [← hvA, ← hl] at hrb
        have HL := Lib.hid hl
        have hle : l.length + b.length ≤ 16777216 := by have := HSG.out; rw [← hl] at this; omega
        have HRB := Lib.hid hrb.rd
        have HRY := Lib.hid ((HB1.out.below HBV.out (Nat.le_refl _)).more HBV.out.size)
        have HGL : Hid (g < V.heap.size ∧ fb < V.heap.size) := Lib.hid ⟨Nat.lt_of_lt_of_le hgl HBV.out.size, hfl⟩
        have HS0 : V.cell? ⟨g, 1, none⟩ = some (.slice (some ⟨fb, 0, none⟩) m1.FV.length m1.fc) ∧ V.cell? ⟨fb, i * 2, none⟩ = some (.slice vA l.length vc) := ⟨c1, d0⟩
        have HFZ := Lib.hid hfo
        refine wp_region_E 19 (fun w' => w'.cell? ⟨g, 1, none⟩ = some (.slice (some ⟨fb, 0, none⟩) m1.FV.length m1.fc) ∧ w'.cell? ⟨fb, i * 2, none⟩ = some (.slice vA l.length vc)) (by kernel_rfl) ?_
        rw [hV]
        clear hV hbV hFA hfe hl hvA hvc hrb c1 d0 hfo
        refine wpAnyE_take (i := 0) (v := ?_) rfl (by kernel_rfl) (by kernel_rfl) (by kernel_rfl) (by kernel_rfl) (fun _ _ _ h => h) (Or.inl ⟨by rfl, ?_⟩) HS0 ?_
        rotate_left
        · (intro wy hSw; obtain ⟨q0, q1⟩ := hSw; go_simp; try with_reducible rfl)
        try simp only [Act.put, List.setIfInBounds_toArray]
        refine wpAnyE_take (i := 1) (v := ?_) rfl (by kernel_rfl) (by kernel_rfl) (by kernel_rfl) (by kernel_rfl) (fun _ _ _ h => h) (Or.inl ⟨by rfl, ?_⟩) HS0 ?_
        rotate_left
        · (intro wy hSw; obtain ⟨q0, q1⟩ := hSw; go_simp; try with_reducible rfl)
        try simp only [Act.put]
        refine wpAnyE_take (i := 2) (v := ?_) rfl (by kernel_rfl) (by kernel_rfl) (by kernel_rfl) (by kernel_rfl) (fun _ _ _ h => h) (Or.inl ⟨by rfl, ?_⟩) HS0 ?_
        rotate_left
        · (intro wy hSw; obtain ⟨q0, q1⟩ := hSw; go_simp; try with_reducible rfl)
        try simp only [Act.put]
        refine wpAnyE_take (i := 3) (v := ?_) rfl (by kernel_rfl) (by kernel_rfl) (by kernel_rfl) (by kernel_rfl) (fun _ _ _ h => h) (Or.inl ⟨by rfl, ?_⟩) HS0 ?_
        rotate_left
        · (intro wy hSw; obtain ⟨q0, q1⟩ := hSw; go_simp; try with_reducible rfl)
        try simp only [Act.put]
        refine wpAnyE_take (i := 4) (v := ?_) rfl (by kernel_rfl) (by kernel_rfl) (by kernel_rfl) (by kernel_rfl) (fun _ _ _ h => h) (Or.inl ⟨by rfl, ?_⟩) HS0 ?_
        rotate_left
        · (intro wy hSw; obtain ⟨q0, q1⟩ := hSw; go_simp; try with_reducible rfl)
        try simp only [Act.put]
        refine wpAnyE_take (i := 6) (v := ?_) rfl (by kernel_rfl) (by kernel_rfl) (by kernel_rfl) (by kernel_rfl) (fun _ _ _ h => h) (Or.inl ⟨by rfl, ?_⟩) HS0 ?_
        rotate_left
        · (intro wy hSw; obtain ⟨q0, q1⟩ := hSw; go_simp; try with_reducible rfl)
        try simp only [Act.put]
        refine wpAnyE_take (i := 7) (v := ?_) rfl (by kernel_rfl) (by kernel_rfl) (by kernel_rfl) (by kernel_rfl) (fun _ _ _ h => h) (Or.inl ⟨by rfl, ?_⟩) HS0 ?_
        rotate_left
        · (intro wy hSw; obtain ⟨q0, q1⟩ := hSw; go_simp; try with_reducible rfl)
        try simp only [Act.put]
        refine wpAnyE_take (i := 8) (v := ?_) rfl (by kernel_rfl) (by kernel_rfl) (by kernel_rfl) (by kernel_rfl) (fun _ _ _ h => h) (Or.inl ⟨by rfl, ?_⟩) HS0 ?_
        rotate_left
        · (intro wy hSw; obtain ⟨q0, q1⟩ := hSw; go_simp; try with_reducible rfl)
        try simp only [Act.put]
        refine wpAnyE_take (i := 9) (v := ?_) rfl (by kernel_rfl) (by kernel_rfl) (by kernel_rfl) (by kernel_rfl) (fun _ _ _ h => h) (Or.inl ⟨by rfl, ?_⟩) HS0 ?_
        rotate_left
        · (intro wy hSw; obtain ⟨q0, q1⟩ := hSw; go_simp; try with_reducible rfl)
        try simp only [Act.put]
        refine wpAnyE_take (i := 10) (v := ?_) rfl (by kernel_rfl) (by kernel_rfl) (by kernel_rfl) (by kernel_rfl) (fun _ _ _ h => h) (Or.inl ⟨by rfl, ?_⟩) HS0 ?_
        rotate_left
        · (intro wy hSw; obtain ⟨q0, q1⟩ := hSw; go_simp; try with_reducible rfl)
        try simp only [Act.put]
        refine wpAnyE_take (i := 11) (v := ?_) rfl (by kernel_rfl) (by kernel_rfl) (by kernel_rfl) (by kernel_rfl) (fun _ _ _ h => h) (Or.inl ⟨by rfl, ?_⟩) HS0 ?_
        rotate_left
        · (intro wy hSw; obtain ⟨q0, q1⟩ := hSw; go_simp; try with_reducible rfl)
        try simp only [Act.put]
        refine wpAnyE_take (i := 12) (v := ?_) rfl (by kernel_rfl) (by kernel_rfl) (by kernel_rfl) (by kernel_rfl) (fun _ _ _ h => h) (Or.inl ⟨by rfl, ?_⟩) HS0 ?_
        rotate_left
        · (intro wy hSw; obtain ⟨q0, q1⟩ := hSw; go_simp; try with_reducible rfl)
        try simp only [Act.put]
        refine wpAnyE_take (i := 13) (v := ?_) rfl (by kernel_rfl) (by kernel_rfl) (by kernel_rfl) (by kernel_rfl) (fun _ _ _ h => h) (Or.inl ⟨by rfl, ?_⟩) HS0 ?_
        rotate_left
        · (intro wy hSw; obtain ⟨q0, q1⟩ := hSw; go_simp; try with_reducible rfl)
        try simp only [Act.put]
        refine wpAnyE_take (i := 15) (v := ?_) rfl (by kernel_rfl) (by kernel_rfl) (by kernel_rfl) (by kernel_rfl) (fun _ _ _ h => h) (Or.inl ⟨by rfl, ?_⟩) HS0 ?_
        rotate_left
        · (intro wy hSw; obtain ⟨q0, q1⟩ := hSw; go_simp; try with_reducible rfl)
        try simp only [Act.put]
        refine wpAnyE_one (i := 5) (by kernel_rfl) rfl (fun K hK => ?_)
        go_simp
        have HN := Lib.hid (own_empty V)
        obtain ⟨V1, hV1⟩ : ∃ V1, V.alloc (.cells #[] 5) = V1 := ⟨_, rfl⟩
        have hb1 : Below V.heap.size V V1 := by rw [← hV1]; exact (Below.refl _ _).alloc (Nat.le_refl _) _
        rw [hV1] at HN ⊢
        have HS1 : V1.cell? ⟨g, 1, none⟩ = some (.slice (some ⟨fb, 0, none⟩) m1.FV.length m1.fc) ∧ V1.cell? ⟨fb, i * 2, none⟩ = some (.slice vA l.length vc) := ⟨(hb1.cell (p := ⟨g, 1, none⟩) HGL.out.1).trans HS0.1, (hb1.cell (p := ⟨fb, i * 2, none⟩) HGL.out.2).trans HS0.2⟩
        have HB1' := Lib.hid hb1
        have hz1 : V1.heap.size = V.heap.size + 1 := by rw [← hV1]; simp
        have HZ1 := Lib.hid hz1
        refine hK _ _ HS1 ?_
        clear hK K hb1 hV1 hz1
        try simp only [Act.put]
        refine wpAnyE_one (i := 14) (by kernel_rfl) rfl (fun K hK => ?_)
        refine step_append_be V1 (by rfl) (some 48) (by rfl) (.tmp 39) (.tmp 47) bt (by rfl) V.heap.size (some ⟨V.heap.size, 0, none⟩) 0 [] (by rfl) HN.out V.heap.size vA l.length vc l (by rfl) rfl (HRB.out.below HB1'.out (Nat.le_refl _)) (by simp only [List.length_nil]; omega) (by rw [HZ1.out]; omega) ?_
        intro A8 c8 L8 w8 hl8 ho8 hg8 hat8
        have HL8 := Lib.hid hl8
        have HO8 := Lib.hid ho8
        have HB8 := Lib.hid (HB1'.out.grown hg8 (by rw [HZ1.out]; omega) (fun g e => by injection e with e; exact Nat.le_of_eq e))
        have hll8 : L8.length ≤ 16777216 := by rw [hl8, List.nil_append]; omega
        have HS8 : w8.cell? ⟨g, 1, none⟩ = some (.slice (some ⟨fb, 0, none⟩) m1.FV.length m1.fc) ∧ w8.cell? ⟨fb, i * 2, none⟩ = some (.slice vA l.length vc) := ⟨(HB8.out.cell (p := ⟨g, 1, none⟩) HGL.out.1).trans HS0.1, (HB8.out.cell (p := ⟨fb, i * 2, none⟩) HGL.out.2).trans HS0.2⟩
        refine hK _ _ HS8 ?_
        clear hK K HS1 hl8 ho8 hg8 hat8
        try simp only [Act.put]
        refine wpAnyE_one (i := 16) (by kernel_rfl) rfl (fun K hK => ?_)
        refine step_append_be w8 (by rfl) (some 50) (by rfl) (.tmp 48) (.tmp 49) bt (by rfl) V.heap.size A8 c8 L8 (by rfl) HO8.out V.heap.size bA b.length bc b (by rfl) rfl (HRY.out.below HB8.out (Nat.le_refl _)) (by omega) HB8.out.size ?_
        intro A9 c9 L9 w9 hl9 ho9 hg9 hat9
        have HL9 := Lib.hid hl9
        have HO9 := Lib.hid ho9
        have HB9 := Lib.hid (HB8.out.grown hg9 HB8.out.size (fun g e => (HO8.out.blk_ge g e).1))
        have HS9 : w9.cell? ⟨g, 1, none⟩ = some (.slice (some ⟨fb, 0, none⟩) m1.FV.length m1.fc) ∧ w9.cell? ⟨fb, i * 2, none⟩ = some (.slice vA l.length vc) := ⟨(HB9.out.cell (p := ⟨g, 1, none⟩) HGL.out.1).trans HS0.1, (HB9.out.cell (p := ⟨fb, i * 2, none⟩) HGL.out.2).trans HS0.2⟩
        obtain ⟨n9, hn9⟩ : ∃ n9, n9 = L9.length := ⟨_, rfl⟩
        have HN9 := Lib.hid hn9
        rw [← hn9]
        refine hK _ _ HS9 ?_
        clear hK K HS8 hl9 ho9 hg9 hat9 hn9
        try simp only [Act.put]
        refine wpAnyE_one (i := 17) (by kernel_rfl) rfl (fun K hK => ?_)
        go_simp
        refine hK _ _ HS9 ?_
        clear hK K
        refine wpAnyE_one (i := 18) (by kernel_rfl) rfl (fun K hK => ?_)
        go_simp
        refine hK _ _ HS9 ?_
        clear hK K
        obtain ⟨z0, z1⟩ := HS9
        have f9 : w9.frozen? ⟨fb, i * 2, none⟩ = false := by
          have hs9 := HSV.out.below HB9.out
          have := (ownS_put (f := Fv.cells) (n := 2) (fun _ => rfl) (by have := hs9.r.frow; rwa [HI2.out.2] at this) HI2.out.1 (by omega : 0 < 2) ⟨none, 0, ⟨[], m1.FV[i].f.sure⟩⟩ (.slice none 0 0) rfl).2
          rwa [Nat.add_zero] at this
        have HQ : Hid (OpR w base g m (Sto.append s n b) (.returned (.int .i64 0)) (w9.setCell ⟨fb, i * 2, none⟩ (.slice A9 n9 c9))) := Lib.hid (by
          have hok := HOK.out
          rw [HE.out] at hok
          have hs9 := HSV.out.below HB9.out
          have ho9 := HO9.out
          have e9 : L9 = (Sto.file s1 i).b ++ b := by rw [HL9.out, HL8.out, List.nil_append, HL.out]
          rw [HN9.out]
          rw [e9] at ho9 ⊢
          obtain ⟨h1, h2⟩ := setFile hs9 HI2.out.2 HI2.out.1 (by omega : 0 < 2) ⟨A9, c9, ⟨(Sto.file s1 i).b ++ b, (Sto.file s1 i).sure⟩⟩ (.slice A9 ((Sto.file s1 i).b ++ b).length c9) (by rw [← HFE.out]; rfl) (Rby.own ho9 HSV.out.bs) ho9.cap hok
          rw [Nat.add_zero] at h1 h2
          rw [HE.out]
          refine ⟨rfl, _, h1, (HAF.out.trans (Aft.of_below (HBV.out.trans (HB9.out.mono HBV.out.size)) _)).trans h2 |>.rows (fun k hk hr => ?_)⟩
          rcases row_set hr with hr | hr
          · exact HAF.out.row k hk hr
          · have h5 := (HO9.out.blk_ge k hr).1
            have h6 := HBV.out.size
            have h7 := HAF.out.size
            omega)
        refine wpAnyE_last (by kernel_rfl) (by kernel_rfl) rfl (fun K hK => ?_)
        go_simp
        refine hK _ _ ?_
        clear hK K z0 z1 f9
        go_wp2_with fail
        go_ret
        exact HQ.out
  · have HE : Hid (Sto.append s n b = (x0, s1)) := Lib.hid (by unfold Sto.append; rw [← HX.out]; simp only; rw [if_pos h0])
    have e1 : (x0 == 0) = false := by simpa using h0
    have e2 : (x0 != 0) = true := by simpa using h0
    clear h0
    go_wp2_with fail
    go_ret
    rw [HE.out]
    exact ⟨rfl, _, HST.out, HAF.out⟩
end
end Ref
end Go.Proofs.YtaiokogbhfliiaaGreatDoor

namespace Go.Proofs.YtaiokogbhfliiaaGreatDoor
open Go.RowKit Go.Maps

namespace Ref
section
variable {w w' Z w8 w9 V2 : World} {base g : Nat} {s : Sto.St} {m m2 : Mem}
/-- The files are cut, one behind the other. -/
structure CrR (w : World) (base g : Nat) (s : Sto.St) (m : Mem) (D : Sto.Dir) (keep : List Int) (LA : Option Addr) (lc k : Nat) (wr : World) (m2 : Mem) : Prop where
  st : StAt wr base g { s with files := Sto.cutAll keep 0 (Sto.ids (D.take k)) s.files } m2
  af : Aft turns w wr base (Row m) (Row m2)
  ld : OwnS E1 2 wr base 128 LA lc D
theorem CrR.step {D : Sto.Dir} {keep : List Int} {LA : Option Addr} {lc k : Nat} {wr : World} (h : CrR w base g s m D keep LA lc k wr m2) (hk : k < D.length) (hi : (D[k]).2 < s.files.length) (hZ : Below wr.heap.size wr Z) {fb : Nat} (hFA : m2.FA = some ⟨fb, 0, none⟩) {A : Option Addr} {c : Nat} {b : List UInt8}
    (ho : Own Z wr.heap.size 5 A c b) (hc : Sto.cut keep k (Sto.file { s with files := Sto.cutAll keep 0 (Sto.ids (D.take k)) s.files } (D[k]).2) = ⟨b, b.length⟩) (hok : b.length ≤ 16777216) (hsu : (Sto.file { s with files := Sto.cutAll keep 0 (Sto.ids (D.take k)) s.files } (D[k]).2).sure ≤ b.length) :
    Z.frozen? ⟨fb, (D[k]).2 * 2, none⟩ = false ∧ (Z.setCell ⟨fb, (D[k]).2 * 2, none⟩ (.slice A b.length c)).frozen? ⟨fb, (D[k]).2 * 2 + 1, none⟩ = false ∧
    ∃ m3, CrR w base g s m D keep LA lc (k + 1) ((Z.setCell ⟨fb, (D[k]).2 * 2, none⟩ (.slice A b.length c)).setCell ⟨fb, (D[k]).2 * 2 + 1, none⟩ (.int .i64 (b.length : Int))) m3 := by
  obtain ⟨i, hii⟩ : ∃ i, i = (D[k]).2 := ⟨_, rfl⟩
  rw [← hii] at hi hc hsu ⊢
  have hlen : (Sto.cutAll keep 0 (Sto.ids (D.take k)) s.files).length = s.files.length := Sto.cutAll_len _ _ _ _
  have hz := h.st.below hZ
  have hi2 : i < m2.FV.length := by
    have : m2.FV.length = (Sto.cutAll keep 0 (Sto.ids (D.take k)) s.files).length := by have h9 := h.st.r.fs; rw [← List.length_map (f := Fv.f), h9]
    omega
  have hfe : m2.FV[i].f = Sto.file { s with files := Sto.cutAll keep 0 (Sto.ids (D.take k)) s.files } i := by
    obtain ⟨_, _, _, _, _, _, h9, _⟩ := file_row h.st (i := i) (by simp only; omega)
    exact h9
  have hrow : OwnS Fv.cells 2 Z base 126 (some ⟨fb, 0, none⟩) m2.fc m2.FV := by have := hz.r.frow; rwa [hFA] at this
  have f0 := (ownS_put (f := Fv.cells) (n := 2) (fun _ => rfl) hrow hi2 (by omega : 0 < 2) ⟨A, c, ⟨b, m2.FV[i].f.sure⟩⟩ (.slice A b.length c) rfl).2
  have hb0 : base ≤ wr.heap.size := h.st.bs
  obtain ⟨h1, a1⟩ := setFile hz hFA hi2 (by omega : 0 < 2) ⟨A, c, ⟨b, m2.FV[i].f.sure⟩⟩ (.slice A b.length c) rfl (Rby.own ho hb0) ho.cap (hz.r.ok.setF i _ (by rw [hfe]; exact hsu) hok)
  rw [Nat.add_zero] at f0 h1 a1
  have hi3 : i < (m2.FV.set i ⟨A, c, ⟨b, m2.FV[i].f.sure⟩⟩).length := by rw [List.length_set]; exact hi2
  have hrow2 : OwnS Fv.cells 2 (Z.setCell ⟨fb, i * 2, none⟩ (.slice A b.length c)) base 126 (some ⟨fb, 0, none⟩) m2.fc (m2.FV.set i ⟨A, c, ⟨b, m2.FV[i].f.sure⟩⟩) := by have := h1.r.frow; simp only [hFA] at this; exact this
  have hgi : (m2.FV.set i ⟨A, c, ⟨b, m2.FV[i].f.sure⟩⟩)[i] = ⟨A, c, ⟨b, m2.FV[i].f.sure⟩⟩ := List.getElem_set_self _
  have f1 := (ownS_put (f := Fv.cells) (n := 2) (fun _ => rfl) hrow2 hi3 (by omega : 1 < 2) ⟨A, c, ⟨b, b.length⟩⟩ (.int .i64 (b.length : Int)) (by rw [hgi]; rfl)).2
  have hrb : Rby (Z.setCell ⟨fb, i * 2, none⟩ (.slice A b.length c)) base A b := by
    have h9 := h1.r.fb _ (List.getElem_mem hi3)
    rw [hgi] at h9; exact h9
  obtain ⟨h2, a2⟩ := setFile h1 (i := i) (fb := fb) hFA hi3 (by omega : 1 < 2) ⟨A, c, ⟨b, b.length⟩⟩ (.int .i64 (b.length : Int)) (by simp only [hgi]; rfl) hrb ho.cap (h1.r.ok.setF i _ (Nat.le_refl _) hok)
  have hfs : (Sto.setF (Sto.setF { s with files := Sto.cutAll keep 0 (Sto.ids (D.take k)) s.files } i ⟨b, m2.FV[i].f.sure⟩) i ⟨b, b.length⟩) = { s with files := Sto.cutAll keep 0 (Sto.ids (D.take (k + 1))) s.files } := by
    unfold Sto.setF
    simp only [List.set_set]
    congr 1
    have e1 : Sto.ids (D.take (k + 1)) = Sto.ids (D.take k) ++ [i] := by
      unfold Sto.ids
      rw [List.take_succ_eq_append_getElem hk, List.map_append, hii]; rfl
    rw [e1, Sto.cutAll_snoc]
    have e2 : (Sto.ids (D.take k)).length = k := by unfold Sto.ids; rw [List.length_map, List.length_take]; omega
    rw [e2, Nat.zero_add]
    unfold Sto.file at hc
    rw [← hc]
  rw [hfs] at h2
  refine ⟨f0, f1, _, h2, ?_, ?_⟩
  · refine (((h.af.trans (Aft.of_below hZ (Row m2))).trans a1).trans (a2.rows (S := Row m2) (fun k hk hr => hr))).rows (fun q hq hr => ?_)
    rcases row_set hr with hr | hr
    · rcases row_set hr with hr | hr
      · exact h.af.row q hq hr
      · have := (ho.blk_ge q hr).1; have := h.af.size; omega
    · have := (ho.blk_ge q hr).1; have := h.af.size; omega
  · have ht : Sto.Tag Z fb 126 := Sto.ownTagS hrow rfl
    refine (h.ld.below hZ).keep (fun q e => ?_)
    have t := Sto.ownTagS (h.ld.below hZ) e
    exact (heap_setCell_other _ ⟨fb, _, none⟩ q _ (t.ne ht (by decide))).trans (heap_setCell_other _ ⟨fb, _, none⟩ q _ (t.ne ht (by decide)))
/-- The end: the directories, what is kept, the plan, the power. -/
theorem crashed {D : Sto.Dir} (h : StAt w base g s m) (hb8 : Below w.heap.size w w8) {NA : Option Addr} {nc : Nat} (hn : OwnS E1 2 w8 w.heap.size 128 NA nc D) (hV : V2 = w8.setCell ⟨g, 2, none⟩ (.slice NA D.length nc)) (hb9 : Below V2.heap.size V2 w9) {DA : Option Addr} {dc : Nat} (hd : OwnS E1 2 w9 V2.heap.size 128 DA dc D) (hok : Sto.Ok ⟨s.room, s.files, D, D, [], [], false⟩) :
    w9.heap[g]? = some (.cells #[.int .i64 s.room, .slice m.FA m.FV.length m.fc, .slice NA D.length nc, .slice m.DA s.disk.length m.dc, .slice m.KA s.kept.length m.kc, .slice m.PA s.plan.length m.pc, .bool s.off] 83) ∧
    StAt ((((w9.setCell ⟨g, 3, none⟩ (.slice DA D.length dc)).setCell ⟨g, 4, none⟩ (.slice none 0 0)).setCell ⟨g, 5, none⟩ (.slice none 0 0)).setCell ⟨g, 6, none⟩ (.bool false)) base g ⟨s.room, s.files, D, D, [], [], false⟩ { m with NA := NA, nc := nc, DA := DA, dc := dc, KA := none, kc := 0, PA := none, pc := 0 } ∧
    Aft turns w ((((w9.setCell ⟨g, 3, none⟩ (.slice DA D.length dc)).setCell ⟨g, 4, none⟩ (.slice none 0 0)).setCell ⟨g, 5, none⟩ (.slice none 0 0)).setCell ⟨g, 6, none⟩ (.bool false)) base (Row m) (Row { m with NA := NA, nc := nc, DA := DA, dc := dc, KA := none, kc := 0, PA := none, pc := 0 }) := by
  have h8 := h.below hb8
  have hbV := (heap_set7 h8.box (.slice NA D.length nc)).2.1
  rw [← hV] at hbV
  have hVs : V2.heap.size = w8.heap.size := by rw [hV]; simp
  have hb9g := (hb9.block g (Array.getElem?_eq_some_iff.1 hbV).1).trans hbV
  have e3 := (heap_set7 hb9g (.slice DA D.length dc)).2.2.1
  have e4 := (heap_set7 e3 (.slice none 0 0)).2.2.2.1
  have e5 := (heap_set7 e4 (.slice none 0 0)).2.2.2.2.1
  have e6 := (heap_set7 e5 (.bool false)).2.2.2.2.2
  have hT : ∀ k T, Sto.Tag w8 k T → T ≠ 83 → w9.heap[k]? = w8.heap[k]? := fun k T t hT => by
    have h1 : V2.heap[k]? = w8.heap[k]? := by rw [hV]; exact heap_setCell_other w8 ⟨g, 2, none⟩ k _ (t.ne h8.gt hT)
    exact (hb9.block k (by rw [hVs]; exact t.lt)).trans h1
  have hO : ∀ k, k ≠ g → ((((w9.setCell ⟨g, 3, none⟩ (.slice DA D.length dc)).setCell ⟨g, 4, none⟩ (.slice none 0 0)).setCell ⟨g, 5, none⟩ (.slice none 0 0)).setCell ⟨g, 6, none⟩ (.bool false)).heap[k]? = w9.heap[k]? := fun k hk =>
    (heap_setCell_other _ ⟨g, 6, none⟩ k _ hk).trans ((heap_setCell_other _ ⟨g, 5, none⟩ k _ hk).trans ((heap_setCell_other _ ⟨g, 4, none⟩ k _ hk).trans (heap_setCell_other _ ⟨g, 3, none⟩ k _ hk)))
  have t9 : Sto.Tag w9 g 83 := ⟨_, _, hb9g⟩
  have hA : ∀ k T, Sto.Tag w8 k T → T ≠ 83 → ((((w9.setCell ⟨g, 3, none⟩ (.slice DA D.length dc)).setCell ⟨g, 4, none⟩ (.slice none 0 0)).setCell ⟨g, 5, none⟩ (.slice none 0 0)).setCell ⟨g, 6, none⟩ (.bool false)).heap[k]? = w8.heap[k]? := fun k T t hTT => (hO k (t.ne h8.gt hTT)).trans (hT k T t hTT)
  have hsz : w8.heap.size ≤ w9.heap.size := by have := hb9.size; omega
  refine ⟨hb9g, ⟨e6, ?_⟩, ?_⟩
  · refine ⟨h.r.gb, by have := h.r.gl; have := hb8.size; simp; omega, h.r.fs, h8.r.frow.keep (fun k e => hA k _ (Sto.ownTagS h8.r.frow e) (by decide)), fun v hv => (h8.r.fb v hv).keep (by simp; omega) (fun k e => hA k _ ((h8.r.fb v hv).at_ k e).2 (by decide)), h.r.fcap,
      (hn.mono h.bs).keep (fun k e => hA k _ (Sto.ownTagS hn e) (by decide)), (hd.mono (by rw [hVs]; exact h8.bs)).keep (fun k e => hO k ((Sto.ownTagS hd e).ne t9 (by decide))), OwnS.nil _ _ _, Rby.nil _ _, Nat.le_refl _, hok⟩
  · refine (Aft.of_below hb8 (Row m)).trans ⟨?_, ?_, ?_, by simp; omega, fun k hk hn => ?_, fun k _ hr => ?_⟩
    · show w9.os = w8.os
      rw [hb9.os, hV]; rfl
    · show w9.tape = w8.tape
      rw [hb9.tape, hV]; rfl
    · show w9.output = w8.output
      rw [hb9.output, hV]; rfl
    · have hkg : k ≠ g := fun e => by
        rcases hn with hn | hn
        · have := h.r.gb; omega
        · exact hn _ (by decide) (e ▸ h8.gt)
      have h1 : V2.heap[k]? = w8.heap[k]? := by rw [hV]; exact heap_setCell_other w8 ⟨g, 2, none⟩ k _ hkg
      exact (hO k hkg).trans ((hb9.block k (by omega)).trans h1)
    · rcases hr with hr | hr
      · exact .inl hr
      · cases hr
end
end Ref
end Go.Proofs.YtaiokogbhfliiaaGreatDoor

namespace Go.Proofs.YtaiokogbhfliiaaGreatDoor
open Go.RowKit Go.Maps

namespace Ref
section
variable {w : World} {base g : Nat} {s : Sto.St} {m : Mem}
theorem cut_le (x : Int) {n k : Nat} (h : k ≤ n) : (min (max x 0) ((n : Int) - (k : Int))).toNat ≤ n - k := by
  have h1 : min (max x 0) ((n : Int) - (k : Int)) ≤ (n : Int) - (k : Int) := Int.min_le_right _ _
  obtain ⟨q, hq⟩ : ∃ q, q = min (max x 0) ((n : Int) - (k : Int)) := ⟨_, rfl⟩
  rw [← hq] at h1 ⊢
  omega
theorem cut_eq (x : Int) {n k : Nat} (h : k ≤ n) : max (0 : Int) (min x ((n : Int) - (k : Int))) = (((min (max x 0) ((n : Int) - (k : Int))).toNat : Nat) : Int) := by
  obtain ⟨d, hd⟩ : ∃ d : Int, d = (n : Int) - (k : Int) := ⟨_, rfl⟩
  have hd0 : 0 ≤ d := by omega
  rw [← hd]
  rcases Int.le_total x 0 with h1 | h1
  · rw [Int.max_eq_right h1, Int.min_eq_left hd0, Int.max_eq_left (Int.le_trans (Int.min_le_left _ _) h1)]; rfl
  · have h2 : 0 ≤ min x d := by omega
    rw [Int.max_eq_left h1, Int.max_eq_right h2, Int.toNat_of_nonneg h2]
def FourS (a b c d : Addr) (va vb vc vd : Value) (W : World) : Prop := W.cell? a = some va ∧ W.cell? b = some vb ∧ W.cell? c = some vc ∧ W.cell? d = some vd
set_option maxHeartbeats 4000000 in
set_option maxRecDepth 100000 in
theorem crash_any (h : StAt w base g s m) (changes : Int) (KA : Option Addr) (kc : Nat) (keep : List Int) (hk : RdS Sto.I1 1 w base KA keep) (hkl : keep.length ≤ 9223372036854775807) (hl : s.kept.length ≤ 1000000) (hf : s.files.length ≤ 1000000) :
    Calls Tryz.prog 34 #[.pointer (some ⟨g, 0, none⟩), .int .i64 changes, .slice KA keep.length kc] w fun e w' => e = .returned (.tuple #[]) ∧ ∃ m', StAt w' base g (Sto.crash s changes keep) m' ∧ Aft turns w w' base (Row m) (Row m') := by
  have H := Lib.hid h
  have HK := Lib.hid hk
  have hbs := h.bs
  obtain ⟨_, _, _, c3, _, _, _⟩ := h.cells
  have HDL : Hid (∀ k, ((s.kept.take k).foldl Sto.made s.disk).length ≤ 1000000) := Lib.hid (fun k => Nat.le_trans (h.r.ok.hist k).len hf)
  clear h hk
  go_enter Tryz.func34, Tryz.ntmps34
  go_wp2_with fail
  clear c3
  go_loopw [6, 7] (fun lv i wr => ∃ (k lc : Nat) (LA : Option Addr) (D : Sto.Dir), k ≤ s.kept.length ∧ (k : Int) ≤ max changes 0 ∧ i = .int .i64 (k : Int) ∧ lv = .slice LA D.length lc ∧ Hid (D = (s.kept.take k).foldl Sto.made s.disk) ∧ Hid (OwnS E1 2 wr base 128 LA lc D) ∧ Hid (Below w.heap.size w wr)) (fun _ i _ => s.kept.length - (intOf i).toNat)
  case atStart => exact ⟨0, _, _, s.disk, by omega, by omega, rfl, rfl, Lib.hid rfl, Lib.hid H.out.r.disk, Lib.hid (Below.refl _ _)⟩
  case round =>
    obtain ⟨k, lc, LA, D, hk, hkc, rfl, rfl, HD, HL, HB⟩ := hrel
    have HS := Lib.hid (H.out.below HB.out)
    obtain ⟨_, _, _, _, c4, _, _⟩ := HS.out.cells
    have HDN : Hid (D.length ≤ 1000000) := Lib.hid (by rw [HD.out]; exact HDL.out k)
    have hdn := HDN.out
    by_cases hgo : k < s.kept.length ∧ (k : Int) < changes
    · obtain ⟨hlt, hlc⟩ := hgo
      have hlt' : (k : Int) < (s.kept.length : Int) := by omega
      obtain ⟨kb, ko, hKA, hkb, hkr⟩ := RdS.row (f := C4) (n := 4) (fun a => by cases a <;> rfl) (by omega) HS.out.r.kept.rd (by omega)
      obtain ⟨x, hx⟩ : ∃ x, x = s.kept[k] := ⟨_, rfl⟩
      have HX : Hid ((s.kept.take (k + 1)).foldl Sto.made s.disk = Sto.made D x) := Lib.hid (by rw [List.take_succ_eq_append_getElem hlt, List.foldl_append, HD.out, hx]; rfl)
      obtain ⟨v0, v1, v2, v3, hv⟩ : ∃ v0 v1 v2 v3, C4 x = [v0, v1, v2, v3] := by cases x <;> exact ⟨_, _, _, _, rfl⟩
      have r0 := hkr k hlt 0 v0 (by rw [← hx, hv]; rfl)
      have r1 := hkr k hlt 1 v1 (by rw [← hx, hv]; rfl)
      have r2 := hkr k hlt 2 v2 (by rw [← hx, hv]; rfl)
      have r3 := hkr k hlt 3 v3 (by rw [← hx, hv]; rfl)
      rw [Nat.add_zero] at r0
      rw [hKA] at c4
      have KM := Lib.hid (made_any LA lc D x v0 v1 v2 v3 hv wr HL.out.rd (by omega))
      clear hkr hx hv hKA
      go_wp2_with fail
      refine KM.out.mono ?_
      rintro e w2 ⟨A2, c2, rfl, ho2, hb2⟩
      have HO2 := Lib.hid (ho2.mono (base' := base) HS.out.bs)
      have HB2 := Lib.hid (HB.out.trans (hb2.mono HB.out.size))
      clear ho2 hb2 KM
      go_wp2_with fail
      exact ⟨⟨k + 1, c2, A2, Sto.made D x, hlt, by omega, by simp, rfl, Lib.hid HX.out.symm, HO2, HB2⟩, by simp only [intOf]; omega⟩
    · have HE : Hid (D = (s.kept.take changes.toNat).foldl Sto.made s.disk) := Lib.hid (by
        rw [HD.out]
        rcases Nat.lt_or_ge k s.kept.length with h1 | h1
        · have : changes.toNat = k := by
            have : ¬ (k : Int) < changes := fun h2 => hgo ⟨h1, h2⟩
            omega
          rw [this]
        · rw [List.take_of_length_le h1, List.take_of_length_le (by omega)])
      have HI0 : Hid (CrR w base g s m D keep LA lc 0 wr m) := Lib.hid ⟨HS.out, Aft.of_below HB.out _, HL.out⟩
      have hg2 : (¬ (k : Int) < (s.kept.length : Int)) ∨ ((k : Int) < (s.kept.length : Int) ∧ ¬ (k : Int) < changes) := by
        rcases Nat.lt_or_ge k s.kept.length with h1 | h1
        · exact .inr ⟨by omega, fun h2 => hgo ⟨h1, h2⟩⟩
        · exact .inl (by omega)
      have HGO : Hid (∀ i ∈ Sto.ids D, i < s.files.length) := Lib.hid (by rw [HE.out]; exact (H.out.r.ok.hist _).lt)
      clear hgo HD HB HL
      rcases hg2 with hg2 | ⟨hg2, hg3⟩
      all_goals
        go_wp2_with fail
        clear c4
        obtain ⟨wo, rfl⟩ : ∃ wo : World, wo = wr := ⟨_, rfl⟩
        go_loopw [8] (fun i wr => ∃ (j : Nat) (m2 : Mem), j ≤ D.length ∧ i = .int .i64 (j : Int) ∧ Hid (CrR w base g s m D keep LA lc j wr m2)) (fun i _ => D.length - (intOf i).toNat)
        case atStart => exact ⟨0, m, by omega, rfl, HI0⟩
        case round =>
          obtain ⟨j, m2, hj, rfl, HI⟩ := hrel
          by_cases hjl : j < D.length
          · have hji : (j : Int) < (D.length : Int) := by omega
            go_wp2_with fail
            obtain ⟨V, hV⟩ : ∃ V, wr.drew = V := ⟨_, rfl⟩
            have hbV : Below wr.heap.size wr V := by rw [← hV]; exact (Below.refl _ _).drew
            have hbVw : Below V.heap.size wr V := by rw [← hV]; exact (Below.refl _ _).drew
            have HSV := Lib.hid (HI.out.st.below hbV)
            have HBV := Lib.hid hbV
            have HVZ : Hid (V.heap.size = wr.heap.size) := Lib.hid (by rw [← hV]; rfl)
            obtain ⟨lb, lo, hLA, hlb, _, d1⟩ := rd_en (HI.out.ld.below hbV).rd hjl
            have hi : (D[j]).2 < s.files.length := HGO.out _ (List.mem_map_of_mem (List.getElem_mem hjl))
            have hi' : (D[j]).2 < ({ s with files := Sto.cutAll keep 0 (Sto.ids (D.take j)) s.files } : Sto.St).files.length := by simp only; rw [Sto.cutAll_len]; exact hi
            obtain ⟨fb, hFA⟩ := fa_form HSV.out hi'
            obtain ⟨hi2, fb', fo', hFA', _, hfl, hfe, e0, e1, hrb⟩ := file_row HSV.out hi'
            rw [hFA] at hFA'
            injection hFA' with hFA'
            injection hFA' with q1 q2
            subst q1 q2
            rw [Nat.zero_add] at e0 e1
            obtain ⟨_, c1, _, _, _, _, _⟩ := HSV.out.cells
            obtain ⟨f, hf'⟩ : ∃ f, f = Sto.file { s with files := Sto.cutAll keep 0 (Sto.ids (D.take j)) s.files } (D[j]).2 := ⟨_, rfl⟩
            rw [← hf'] at hfe
            have HFOK : Hid (f.sure ≤ f.b.length ∧ f.b.length ≤ 16777216) := Lib.hid (by rw [hf']; exact Sto.file_ok HI.out.st.r.ok _)
            have HF := Lib.hid hf'
            have hvc := HSV.out.r.fcap _ (List.getElem_mem hi2)
            rw [hfe] at e0 e1 hrb hvc
            rw [hFA] at c1
            have HD := Lib.hid (And.intro hi hFA)
            obtain ⟨i, hii⟩ : ∃ i, i = (D[j]).2 := ⟨_, rfl⟩
            have HII := Lib.hid hii
            simp only [← hii] at d1 e0 e1 hi2 hrb hvc
            have hil : (i : Int) < (m2.FV.length : Int) := by omega
            obtain ⟨vA, hvA⟩ : ∃ vA, vA = m2.FV[i].A := ⟨_, rfl⟩
            obtain ⟨vc, hvcc⟩ : ∃ vc, vc = m2.FV[i].c := ⟨_, rfl⟩
            obtain ⟨bl, hbl⟩ : ∃ bl, bl = f.b := ⟨_, rfl⟩
            obtain ⟨su, hsu⟩ : ∃ su, su = f.sure := ⟨_, rfl⟩
            rw [← hvA, ← hvcc, ← hbl] at e0
            rw [← hvcc, ← hbl] at hvc
            rw [← hsu] at e1
            rw [← hvA, ← hbl] at hrb
            rw [← hbl, ← hsu] at HFOK
            have HBL := Lib.hid (And.intro hbl hsu)
            have HRB := Lib.hid hrb.rd
            subst hLA
            have HD1 : Hid (V.cell? ⟨lb, lo + j * 2 + 1, none⟩ = some (.int .i64 (i : Int)) ∧ V.cell? ⟨fb, i * 2, none⟩ = some (.slice vA bl.length vc) ∧ V.cell? ⟨fb, i * 2 + 1, none⟩ = some (.int .i64 (su : Int))) := Lib.hid ⟨d1, e0, e1⟩
            have HS0 : FourS ⟨g, 1, none⟩ ⟨lb, lo + j * 2 + 1, none⟩ ⟨fb, i * 2, none⟩ ⟨fb, i * 2 + 1, none⟩ (.slice (some ⟨fb, 0, none⟩) m2.FV.length m2.fc) (.int .i64 (i : Int)) (.slice vA bl.length vc) (.int .i64 (su : Int)) V := ⟨c1, d1, e0, e1⟩
            have HLT : Hid (g < V.heap.size ∧ lb < V.heap.size ∧ fb < V.heap.size) := Lib.hid ⟨HSV.out.r.gl, hlb, hfl⟩
            refine wp_region_E 12 (FourS ⟨g, 1, none⟩ ⟨lb, lo + j * 2 + 1, none⟩ ⟨fb, i * 2, none⟩ ⟨fb, i * 2 + 1, none⟩ (.slice (some ⟨fb, 0, none⟩) m2.FV.length m2.fc) (.int .i64 (i : Int)) (.slice vA bl.length vc) (.int .i64 (su : Int))) (by kernel_rfl) ?_
            rw [hV]
            clear hV hbV hbVw c1 d1 e0 e1 hFA hfe hf' hvA hvcc hbl hsu hrb hii hi hi'
            refine wpAnyE_take (i := 0) (v := ?_) rfl (by kernel_rfl) (by kernel_rfl) (by kernel_rfl) (by kernel_rfl) (fun _ _ _ h => h) (Or.inl ⟨by rfl, ?_⟩) HS0 ?_
            rotate_left
            · (intro wy hSw; obtain ⟨q0, q1, q2, q3⟩ := hSw; go_simp; try with_reducible rfl)
            try simp only [Act.put, List.setIfInBounds_toArray]
            refine wpAnyE_take (i := 1) (v := ?_) rfl (by kernel_rfl) (by kernel_rfl) (by kernel_rfl) (by kernel_rfl) (fun _ _ _ h => h) (Or.inl ⟨by rfl, ?_⟩) HS0 ?_
            rotate_left
            · (intro wy hSw; obtain ⟨q0, q1, q2, q3⟩ := hSw; go_simp; try with_reducible rfl)
            try simp only [Act.put]
            refine wpAnyE_take (i := 2) (v := ?_) rfl (by kernel_rfl) (by kernel_rfl) (by kernel_rfl) (by kernel_rfl) (fun _ _ _ h => h) (Or.inl ⟨by rfl, ?_⟩) HS0 ?_
            rotate_left
            · (intro wy hSw; obtain ⟨q0, q1, q2, q3⟩ := hSw; go_simp; try with_reducible rfl)
            try simp only [Act.put]
            refine wpAnyE_take (i := 3) (v := ?_) rfl (by kernel_rfl) (by kernel_rfl) (by kernel_rfl) (by kernel_rfl) (fun _ _ _ h => h) (Or.inl ⟨by rfl, ?_⟩) HS0 ?_
            rotate_left
            · (intro wy hSw; obtain ⟨q0, q1, q2, q3⟩ := hSw; go_simp; try with_reducible rfl)
            try simp only [Act.put]
            refine wpAnyE_take (i := 4) (v := ?_) rfl (by kernel_rfl) (by kernel_rfl) (by kernel_rfl) (by kernel_rfl) (fun _ _ _ h => h) (Or.inl ⟨by rfl, ?_⟩) HS0 ?_
            rotate_left
            · (intro wy hSw; obtain ⟨q0, q1, q2, q3⟩ := hSw; go_simp; try with_reducible rfl)
            try simp only [Act.put]
            refine wpAnyE_take (i := 5) (v := ?_) rfl (by kernel_rfl) (by kernel_rfl) (by kernel_rfl) (by kernel_rfl) (fun _ _ _ h => h) (Or.inl ⟨by rfl, ?_⟩) HS0 ?_
            rotate_left
            · (intro wy hSw; obtain ⟨q0, q1, q2, q3⟩ := hSw; go_simp; try with_reducible rfl)
            try simp only [Act.put]
            refine wpAnyE_take (i := 6) (v := ?_) rfl (by kernel_rfl) (by kernel_rfl) (by kernel_rfl) (by kernel_rfl) (fun _ _ _ h => h) (Or.inl ⟨by rfl, ?_⟩) HS0 ?_
            rotate_left
            · (intro wy hSw; obtain ⟨q0, q1, q2, q3⟩ := hSw; go_simp; try with_reducible rfl)
            try simp only [Act.put]
            refine wpAnyE_take (i := 7) (v := ?_) rfl (by kernel_rfl) (by kernel_rfl) (by kernel_rfl) (by kernel_rfl) (fun _ _ _ h => h) (Or.inl ⟨by rfl, ?_⟩) HS0 ?_
            rotate_left
            · (intro wy hSw; obtain ⟨q0, q1, q2, q3⟩ := hSw; go_simp; try with_reducible rfl)
            try simp only [Act.put]
            refine wpAnyE_take (i := 8) (v := ?_) rfl (by kernel_rfl) (by kernel_rfl) (by kernel_rfl) (by kernel_rfl) (fun _ _ _ h => h) (Or.inl ⟨by rfl, ?_⟩) HS0 ?_
            rotate_left
            · (intro wy hSw; obtain ⟨q0, q1, q2, q3⟩ := hSw; go_simp; try with_reducible rfl)
            try simp only [Act.put]
            refine wpAnyE_take (i := 9) (v := ?_) rfl (by kernel_rfl) (by kernel_rfl) (by kernel_rfl) (by kernel_rfl) (fun _ _ _ h => h) (Or.inl ⟨by rfl, ?_⟩) HS0 ?_
            rotate_left
            · (intro wy hSw; obtain ⟨q0, q1, q2, q3⟩ := hSw; go_simp; try with_reducible rfl)
            try simp only [Act.put]
            refine wpAnyE_take (i := 10) (v := ?_) rfl (by kernel_rfl) (by kernel_rfl) (by kernel_rfl) (by kernel_rfl) (fun _ _ _ h => h) (Or.inl ⟨by rfl, ?_⟩) HS0 ?_
            rotate_left
            · (intro wy hSw; obtain ⟨q0, q1, q2, q3⟩ := hSw; go_simp; try with_reducible rfl)
            try simp only [Act.put]
            refine wpAnyE_one (i := 11) (by kernel_rfl) rfl (fun K hK => ?_)
            go_simp
            obtain ⟨X, hX⟩ : ∃ X, X = V.heap.size := ⟨_, rfl⟩
            obtain ⟨V1, hV1⟩ : ∃ V1, V.alloc (.cells #[.slice none 0 0, .int .i64 0] 126) = V1 := ⟨_, rfl⟩
            have hb1 : Below V.heap.size V V1 := by rw [← hV1]; exact (Below.refl _ _).alloc (Nat.le_refl _) _
            have hx1 : V1.heap[X]? = some (.cells #[.slice none 0 0, .int .i64 0] 126) := by rw [hX, ← hV1]; exact heap_alloc_new V _
            rw [hV1, ← hX]
            have HS1 : FourS ⟨g, 1, none⟩ ⟨lb, lo + j * 2 + 1, none⟩ ⟨fb, i * 2, none⟩ ⟨fb, i * 2 + 1, none⟩ (.slice (some ⟨fb, 0, none⟩) m2.FV.length m2.fc) (.int .i64 (i : Int)) (.slice vA bl.length vc) (.int .i64 (su : Int)) V1 := ⟨(hb1.cell (p := ⟨g, 1, none⟩) HLT.out.1).trans HS0.1, (hb1.cell (p := ⟨lb, _, none⟩) HLT.out.2.1).trans HS0.2.1, (hb1.cell (p := ⟨fb, _, none⟩) HLT.out.2.2).trans HS0.2.2.1, (hb1.cell (p := ⟨fb, _, none⟩) HLT.out.2.2).trans HS0.2.2.2⟩
            have HXE := Lib.hid hX
            have HB1 := Lib.hid hb1
            have k0 : V1.cell? ⟨X, 0, none⟩ = some (.slice none 0 0) := by rw [cell_of_row V1 X 0 _ _ (0, 0) hx1]; rfl
            have g0 : V1.frozen? ⟨X, 0, none⟩ = false := frozen_of_row V1 X 0 _ _ hx1
            have hx2 := heap_setCell_same V1 X 0 _ _ (.slice vA bl.length vc) hx1
            have k1 : (V1.setCell ⟨X, 0, none⟩ (.slice vA bl.length vc)).cell? ⟨X, 1, none⟩ = some (.int .i64 0) := by rw [cell_of_row _ X 1 _ _ (0, 0) hx2]; rfl
            have g1 : (V1.setCell ⟨X, 0, none⟩ (.slice vA bl.length vc)).frozen? ⟨X, 1, none⟩ = false := frozen_of_row _ X 1 _ _ hx2
            have hx3 : ((V1.setCell ⟨X, 0, none⟩ (.slice vA bl.length vc)).setCell ⟨X, 1, none⟩ (.int .i64 (su : Int))).heap[X]? = some (.cells #[.slice vA bl.length vc, .int .i64 (su : Int)] 126) := by
              have h9 := heap_setCell_same _ X 1 _ _ (.int .i64 (su : Int)) hx2
              simpa using h9
            have HX3 := Lib.hid hx3
            refine hK _ _ HS1 ?_
            clear hK K HS0 hX hV1 hb1 hx1 hx2 hx3
            try simp only [Act.put]
            refine wpAnyE_last (by kernel_rfl) (by kernel_rfl) rfl (fun K hK => ?_)
            go_simp
            refine hK _ _ ?_
            clear hK K HS1
            obtain ⟨W1, hW1⟩ : ∃ W1, W1 = (V1.setCell ⟨X, 0, none⟩ (.slice vA bl.length vc)).setCell ⟨X, 1, none⟩ (.int .i64 (su : Int)) := ⟨_, rfl⟩
            rw [← hW1] at HX3 ⊢
            have HBW : Hid (Below wr.heap.size wr W1) := Lib.hid (by
              have h9 : wr.heap.size ≤ X := by rw [HXE.out, HVZ.out]; exact Nat.le_refl _
              rw [hW1]
              exact ((HBV.out.trans (HB1.out.mono (by rw [HVZ.out]; exact Nat.le_refl _))).setCell h9 _).setCell h9 _)
            have HBVW : Hid (Below V.heap.size V W1) := Lib.hid (by
              have h9 : V.heap.size ≤ X := by rw [HXE.out]; exact Nat.le_refl _
              rw [hW1]
              exact (HB1.out.setCell h9 _).setCell h9 _)
            clear hW1 k0 g0 k1 g1
            obtain ⟨N, hN⟩ : ∃ N : Nat, N = (match keep[j]? with | some x => (min (max x 0) ((bl.length : Int) - (su : Int))).toNat | none => 0) := ⟨_, rfl⟩
            have hfok := HFOK.out
            have hNb : N ≤ bl.length - su := by
              rw [hN]
              rcases keep[j]? with _ | x
              · exact Nat.zero_le _
              · exact cut_le x hfok.1
            have HNX : Hid (∀ h : j < keep.length, max (0 : Int) (min keep[j] ((bl.length : Int) - (su : Int))) = (N : Int)) := Lib.hid (fun h => by
              rw [hN, List.getElem?_eq_getElem h]
              exact cut_eq _ hfok.1)
            have HN0 : Hid (¬ j < keep.length → N = 0) := Lib.hid (fun h => by rw [hN, List.getElem?_eq_none (by omega)])
            have HCUT : Hid (Sto.cut keep j f = ⟨bl.take (su + N), su + N⟩) := Lib.hid (by
              unfold Sto.cut
              rw [← HBL.out.1, ← HBL.out.2, hN]
              rcases keep[j]? with _ | x <;> rfl)
            have HKW : Hid (∀ h : j < keep.length, ∃ b4 off4, KA = some ⟨b4, off4, none⟩ ∧ W1.cell? ⟨b4, off4 + j, none⟩ = some (.int .i64 keep[j])) := Lib.hid (fun h => by
              obtain ⟨b4, off4, h1, h2, h3⟩ := RdS.row (f := Sto.I1) (n := 1) (fun _ => rfl) (by omega) HK.out (by omega)
              have h4 := h3 j h 0 _ rfl
              rw [Nat.add_zero, Nat.mul_one] at h4
              have h5 : Below base w W1 := (HI.out.af.below hbs).trans (HBW.out.mono HI.out.st.bs)
              exact ⟨b4, off4, h1, (h5.cell (p := ⟨b4, _, none⟩) h2).trans h4⟩)
            have w0 : W1.cell? ⟨X, 0, none⟩ = some (.slice vA bl.length vc) := by rw [cell_of_row W1 X 0 _ _ (0, 0) HX3.out]; rfl
            have w1 : W1.cell? ⟨X, 1, none⟩ = some (.int .i64 (su : Int)) := by rw [cell_of_row W1 X 1 _ _ (0, 0) HX3.out]; rfl
            clear hN
            go_upto_if 58 with fail
            go_cut [10] (fun v wx => v = .int .i64 (N : Int) ∧ Hid (Below W1.heap.size W1 wx))
            case first =>
              by_cases hkk : j < keep.length
              · obtain ⟨b4, off4, hA4, r4⟩ := HKW.out hkk
                have e2 := HNX.out hkk
                obtain ⟨x, hx⟩ : ∃ x, x = keep[j] := ⟨_, rfl⟩
                rw [← hx] at r4 e2
                have e1 : IntKind.i64.wrap ((bl.length : Int) - (su : Int)) = (bl.length : Int) - (su : Int) := by rw [IntKind.wrap_i64]; omega
                subst hA4
                clear hx
                have i1 : (0 : Int) ≤ (j : Int) := by omega
                have i2 : (j : Int) < (keep.length : Int) := by omega
                go_wp2_with fail
                go_quiet (fail)
                refine Sto.drewN_of (fun Y hbY hYh => ?_)
                have HBY := Lib.hid hbY
                clear hbY hYh
                go_wp2_with fail
                go_meet
                exact ⟨rfl, HBY⟩
              · have hn0 := HN0.out hkk
                subst hn0
                go_wp2_with fail
                go_meet
                exact ⟨rfl, Lib.hid (Below.refl _ _)⟩
            case rest =>
              obtain ⟨rfl, HBC⟩ := hcut
              clear w0 w1 HKW HNX HN0
              have hxc : wc.heap[X]? = some (.cells #[.slice vA bl.length vc, .int .i64 (su : Int)] 126) := (HBC.out.block X (Array.getElem?_eq_some_iff.1 HX3.out).1).trans HX3.out
              have hxl : X < wc.heap.size := (Array.getElem?_eq_some_iff.1 hxc).1
              have a0 : ∀ O, (wc.alloc O).cell? ⟨X, 0, none⟩ = some (.slice vA bl.length vc) := fun O => (World.cell?_alloc_lt wc O ⟨X, 0, none⟩ hxl).trans (by rw [cell_of_row wc X 0 _ _ (0, 0) hxc]; rfl)
              have a1 : ∀ O, (wc.alloc O).cell? ⟨X, 1, none⟩ = some (.int .i64 (su : Int)) := fun O => (World.cell?_alloc_lt wc O ⟨X, 1, none⟩ hxl).trans (by rw [cell_of_row wc X 1 _ _ (0, 0) hxc]; rfl)
              have e1 : IntKind.i64.wrap ((su : Int) + (N : Int)) = (su : Int) + (N : Int) := by rw [IntKind.wrap_i64]; omega
              have e2 : ((su : Int) + (N : Int)).toNat = su + N := by omega
              have i1 : (0 : Int) ≤ (su : Int) + (N : Int) := by omega
              have i2 : (su : Int) + (N : Int) ≤ (vc : Int) := by omega
              have HN := Lib.hid (own_empty wc)
              have HBX := Lib.hid (HBW.out.trans (HBC.out.mono HBW.out.size))
              have HRC : Hid (RdB wc wc.heap.size vA (bl.take (su + N))) := Lib.hid (((HRB.out.below (HBVW.out.trans (HBC.out.mono HBVW.out.size)) (Nat.le_refl _)).more (by have := HBX.out.size; rw [HVZ.out]; exact this)).take (by omega))
              have hlt9 : (bl.take (su + N)).length = su + N := by rw [List.length_take]; omega
              have HLT9 := Lib.hid hlt9
              have HXC := Lib.hid hxc
              clear hlt9 hxc
              go_wp2_with (at_builtin; refine wpList_append_b _ rfl _ _ bt rfl wc.heap.size (some ⟨wc.heap.size, 0, none⟩) 0 [] rfl HN.out wc.heap.size vA (su + N) vc (bl.take (su + N)) rfl HLT9.out.symm (HRC.out.alloc (Nat.le_refl _) _) (by rw [HLT9.out]; simp only [List.length_nil]; omega) (by simp) ?_; intro A8 c8 L8 w8 hl8 ho8 hg8 hat8; have HL8 := Lib.hid hl8; have HO8 := Lib.hid ho8; have HB8 := Lib.hid (((Below.refl _ wc).alloc (Nat.le_refl _) _).grown hg8 (by simp) (fun g e => by injection e with e; exact Nat.le_of_eq e)); have hx8 := (HB8.out.block X hxl).trans HXC.out; have y0 : w8.cell? ⟨X, 0, none⟩ = some (.slice vA bl.length vc) := (by rw [cell_of_row w8 X 0 _ _ (0, 0) hx8]; rfl); have f0 : w8.frozen? ⟨X, 0, none⟩ = false := frozen_of_row w8 X 0 _ _ hx8; have y1 : ∀ v : Value, (w8.setCell ⟨X, 0, none⟩ v).cell? ⟨X, 1, none⟩ = some (.int .i64 (su : Int)) := fun v => (by rw [cell_of_row _ X 1 _ _ (0, 0) (heap_setCell_same w8 X 0 _ _ v hx8)]; rfl); have y2 : ∀ v : Value, (w8.setCell ⟨X, 0, none⟩ v).cell? ⟨X, 0, none⟩ = some v := fun v => (by rw [cell_of_row _ X 0 _ _ (0, 0) (heap_setCell_same w8 X 0 _ _ v hx8)]; rfl); have f1 : ∀ v : Value, (w8.setCell ⟨X, 0, none⟩ v).frozen? ⟨X, 1, none⟩ = false := fun v => frozen_of_row _ X 1 _ _ (heap_setCell_same w8 X 0 _ _ v hx8); have HX8 := Lib.hid hx8; clear hl8 ho8 hg8 hat8 hx8)
              obtain ⟨n8, hn8⟩ : ∃ n8, n8 = L8.length := ⟨_, rfl⟩
              have HN8 := Lib.hid hn8
              rw [← hn8]
              have hx9 : ((w8.setCell ⟨X, 0, none⟩ (.slice A8 n8 c8)).setCell ⟨X, 1, none⟩ (.int .i64 (n8 : Int))).heap[X]? = some (.cells #[.slice A8 n8 c8, .int .i64 (n8 : Int)] 126) := by
                have h9 := heap_setCell_same w8 X 0 _ _ (.slice A8 n8 c8) HX8.out
                have h10 := heap_setCell_same _ X 1 _ _ (.int .i64 (n8 : Int)) h9
                simpa using h10
              obtain ⟨Z, hZ⟩ : ∃ Z, ((w8.setCell ⟨X, 0, none⟩ (.slice A8 n8 c8)).setCell ⟨X, 1, none⟩ (.int .i64 (n8 : Int))).drew = Z := ⟨_, rfl⟩
              have hzX : Z.heap[X]? = some (.cells #[.slice A8 n8 c8, .int .i64 (n8 : Int)] 126) := by rw [← hZ]; exact hx9
              have HBZ : Hid (Below V.heap.size V Z) := Lib.hid (by
                have h9 : V.heap.size ≤ X := by rw [HXE.out]; exact Nat.le_refl _
                have h10 : Below V.heap.size V wc := HBVW.out.trans (HBC.out.mono HBVW.out.size)
                rw [← hZ]
                exact (((h10.trans (HB8.out.mono h10.size)).setCell h9 _).setCell h9 _).drew)
              have HBZ2 : Hid (Below wr.heap.size wr Z) := Lib.hid (HBV.out.trans (HBZ.out.mono (by rw [HVZ.out]; exact Nat.le_refl _)))
              have HOZ : Hid (Own Z wr.heap.size 5 A8 c8 L8) := Lib.hid (by
                have h9 : Own Z wc.heap.size 5 A8 c8 L8 := own_keepS HO8.out (fun q e => by
                  have hq := (HO8.out.blk_ge q e).1
                  rw [← hZ]
                  exact (heap_setCell_other _ ⟨X, 1, none⟩ q _ (by show q ≠ X; omega)).trans (heap_setCell_other _ ⟨X, 0, none⟩ q _ (by show q ≠ X; omega)))
                exact h9.mono HBX.out.size)
              have hSZ := HI.out.st.below HBZ2.out
              have hc1 := hSZ.cells.2.1
              rw [HD.out.2] at hc1
              have hd1 := (HBZ.out.cell (p := ⟨lb, lo + j * 2 + 1, none⟩) HLT.out.2.1).trans HD1.out.1
              have z0 := (HBZ.out.cell (p := ⟨fb, i * 2, none⟩) HLT.out.2.2).trans HD1.out.2.1
              have z1 : ∀ v : Value, (Z.setCell ⟨fb, i * 2, none⟩ v).cell? ⟨fb, i * 2 + 1, none⟩ = some (.int .i64 (su : Int)) := fun v => (World.cell?_setCell_other Z ⟨fb, i * 2, none⟩ ⟨fb, i * 2 + 1, none⟩ v (fun e => by injection e with _ e; omega)).trans ((HBZ.out.cell (p := ⟨fb, i * 2 + 1, none⟩) HLT.out.2.2).trans HD1.out.2.2)
              have hL8 : L8 = bl.take (su + N) := by rw [HL8.out, List.nil_append]
              have hstep := HI.out.step hjl HD.out.1 HBZ2.out HD.out.2 HOZ.out (by rw [← HF.out, HCUT.out, hL8, HLT9.out]) (by rw [hL8, HLT9.out]; have := HFOK.out; omega) (by rw [← HF.out, hL8, HLT9.out, ← HBL.out.2]; omega)
              rw [← HII.out, ← HN8.out] at hstep
              obtain ⟨g0, g1, hstep⟩ := hstep
              have HST := Lib.hid hstep
              have hq0 : Z.cell? ⟨X, 0, none⟩ = some (.slice A8 n8 c8) := by rw [cell_of_row Z X 0 _ _ (0, 0) hzX]; rfl
              have hq1 : Z.cell? ⟨X, 1, none⟩ = some (.int .i64 (n8 : Int)) := by rw [cell_of_row Z X 1 _ _ (0, 0) hzX]; rfl
              have HS0 : FourS ⟨g, 1, none⟩ ⟨lb, lo + j * 2 + 1, none⟩ ⟨X, 0, none⟩ ⟨X, 1, none⟩ (.slice (some ⟨fb, 0, none⟩) m2.FV.length m2.fc) (.int .i64 (i : Int)) (.slice A8 n8 c8) (.int .i64 (n8 : Int)) Z := ⟨hc1, hd1, hq0, hq1⟩
              refine wp_region_E 11 (FourS ⟨g, 1, none⟩ ⟨lb, lo + j * 2 + 1, none⟩ ⟨X, 0, none⟩ ⟨X, 1, none⟩ (.slice (some ⟨fb, 0, none⟩) m2.FV.length m2.fc) (.int .i64 (i : Int)) (.slice A8 n8 c8) (.int .i64 (n8 : Int))) (by kernel_rfl) ?_
              rw [hZ]
              clear hZ hzX hx9 hSZ hc1 hd1 hq0 hq1 hL8 hstep hn8 y0 f0 y1 y2 f1 a0 a1 e1 e2 i1 i2
              refine wpAnyE_take (i := 0) (v := ?_) rfl (by kernel_rfl) (by kernel_rfl) (by kernel_rfl) (by kernel_rfl) (fun _ _ _ h => h) (Or.inl ⟨by rfl, ?_⟩) HS0 ?_
              rotate_left
              · (intro wy hSw; obtain ⟨q0, q1, q2, q3⟩ := hSw; go_simp; try with_reducible rfl)
              try simp only [Act.put, List.setIfInBounds_toArray]
              refine wpAnyE_take (i := 1) (v := ?_) rfl (by kernel_rfl) (by kernel_rfl) (by kernel_rfl) (by kernel_rfl) (fun _ _ _ h => h) (Or.inl ⟨by rfl, ?_⟩) HS0 ?_
              rotate_left
              · (intro wy hSw; obtain ⟨q0, q1, q2, q3⟩ := hSw; go_simp; try with_reducible rfl)
              try simp only [Act.put]
              refine wpAnyE_take (i := 2) (v := ?_) rfl (by kernel_rfl) (by kernel_rfl) (by kernel_rfl) (by kernel_rfl) (fun _ _ _ h => h) (Or.inl ⟨by rfl, ?_⟩) HS0 ?_
              rotate_left
              · (intro wy hSw; obtain ⟨q0, q1, q2, q3⟩ := hSw; go_simp; try with_reducible rfl)
              try simp only [Act.put]
              refine wpAnyE_take (i := 3) (v := ?_) rfl (by kernel_rfl) (by kernel_rfl) (by kernel_rfl) (by kernel_rfl) (fun _ _ _ h => h) (Or.inl ⟨by rfl, ?_⟩) HS0 ?_
              rotate_left
              · (intro wy hSw; obtain ⟨q0, q1, q2, q3⟩ := hSw; go_simp; try with_reducible rfl)
              try simp only [Act.put]
              refine wpAnyE_take (i := 4) (v := ?_) rfl (by kernel_rfl) (by kernel_rfl) (by kernel_rfl) (by kernel_rfl) (fun _ _ _ h => h) (Or.inl ⟨by rfl, ?_⟩) HS0 ?_
              rotate_left
              · (intro wy hSw; obtain ⟨q0, q1, q2, q3⟩ := hSw; go_simp; try with_reducible rfl)
              try simp only [Act.put]
              refine wpAnyE_take (i := 5) (v := ?_) rfl (by kernel_rfl) (by kernel_rfl) (by kernel_rfl) (by kernel_rfl) (fun _ _ _ h => h) (Or.inl ⟨by rfl, ?_⟩) HS0 ?_
              rotate_left
              · (intro wy hSw; obtain ⟨q0, q1, q2, q3⟩ := hSw; go_simp; try with_reducible rfl)
              try simp only [Act.put]
              refine wpAnyE_take (i := 6) (v := ?_) rfl (by kernel_rfl) (by kernel_rfl) (by kernel_rfl) (by kernel_rfl) (fun _ _ _ h => h) (Or.inl ⟨by rfl, ?_⟩) HS0 ?_
              rotate_left
              · (intro wy hSw; obtain ⟨q0, q1, q2, q3⟩ := hSw; go_simp; try with_reducible rfl)
              try simp only [Act.put]
              refine wpAnyE_take (i := 7) (v := ?_) rfl (by kernel_rfl) (by kernel_rfl) (by kernel_rfl) (by kernel_rfl) (fun _ _ _ h => h) (Or.inl ⟨by rfl, ?_⟩) HS0 ?_
              rotate_left
              · (intro wy hSw; obtain ⟨q0, q1, q2, q3⟩ := hSw; go_simp; try with_reducible rfl)
              try simp only [Act.put]
              refine wpAnyE_take (i := 8) (v := ?_) rfl (by kernel_rfl) (by kernel_rfl) (by kernel_rfl) (by kernel_rfl) (fun _ _ _ h => h) (Or.inl ⟨by rfl, ?_⟩) HS0 ?_
              rotate_left
              · (intro wy hSw; obtain ⟨q0, q1, q2, q3⟩ := hSw; go_simp; try with_reducible rfl)
              try simp only [Act.put]
              refine wpAnyE_take (i := 9) (v := ?_) rfl (by kernel_rfl) (by kernel_rfl) (by kernel_rfl) (by kernel_rfl) (fun _ _ _ h => h) (Or.inl ⟨by rfl, ?_⟩) HS0 ?_
              rotate_left
              · (intro wy hSw; obtain ⟨q0, q1, q2, q3⟩ := hSw; go_simp; try with_reducible rfl)
              try simp only [Act.put]
              refine wpAnyE_one (i := 10) (by kernel_rfl) rfl (fun K hK => ?_)
              go_simp
              refine hK _ _ HS0 ?_
              clear hK K
              refine wpAnyE_last (by kernel_rfl) (by kernel_rfl) rfl (fun K hK => ?_)
              go_simp
              refine hK _ _ ?_
              clear hK K HS0 z0 z1 g0 g1
              go_wp2_with fail
              obtain ⟨m3, hm3⟩ := HST.out
              exact ⟨⟨j + 1, m3, hjl, by simp, Lib.hid hm3⟩, by simp only [intOf]; omega⟩
          · have hji : ¬ (j : Int) < (D.length : Int) := by omega
            have HIF : Hid (CrR w base g s m D keep LA lc D.length wr m2) := Lib.hid (by have := HI.out; rwa [show j = D.length by omega] at this)
            have hgl := HIF.out.st.r.gl
            have HN := Lib.hid (own_none E1 2 128 wr)
            have HLD := Lib.hid HIF.out.ld
            have hdn2 := HDN.out
            clear hj
            go_wp2_with (first
              | (at_builtin; refine wpList_append_s _ rfl _ _ enT rfl wr.heap.size (some ⟨wr.heap.size, 0, none⟩) 0 ([] : Sto.Dir) rfl HN.out wr.heap.size LA D.length lc D rfl rfl (HLD.out.rd.alloc (Nat.le_refl _) _) (by simp; omega) (by unfold maxLen; simp; omega) (by simp) ?_; intro A8 c8 L8 w8 hl8 ho8 hg8 hat8; have HL8 := Lib.hid hl8; have HO8 := Lib.hid ho8; have HB8 := Lib.hid (((Below.refl _ wr).alloc (Nat.le_refl _) _).grown hg8 (by simp) (fun g e => by injection e with e; exact Nat.le_of_eq e)); have HS8 := Lib.hid (HIF.out.st.below HB8.out); have z2 := HS8.out.cells.2.2.1; have f2 := HS8.out.frozen 2; have HN2 : Hid (∀ v : Value, OwnS E1 2 ((w8.setCell ⟨g, 2, none⟩ v).alloc (.cells #[] 128)) w8.heap.size 128 (some ⟨w8.heap.size, 0, none⟩) 0 ([] : Sto.Dir)) := Lib.hid (fun v => (by have h9 := own_none E1 2 128 (w8.setCell ⟨g, 2, none⟩ v); simpa using h9)); have HR2 : Hid (∀ (v : Value) (O : Obj), RdS E1 2 ((w8.setCell ⟨g, 2, none⟩ v).alloc O) w8.heap.size LA D) := Lib.hid (fun v O => (by have h9 := (((HLD.out.below HB8.out).keep (w' := w8.setCell ⟨g, 2, none⟩ v) (fun q e => heap_setCell_other w8 ⟨g, 2, none⟩ q v ((Sto.ownTagS (HLD.out.below HB8.out) e).ne HS8.out.gt (by decide)))).rd).alloc (Nat.le_refl _) O; simpa using h9)); clear hl8 ho8 hg8 hat8)
              | (at_builtin; refine wpList_append_s _ rfl _ _ enT rfl w8.heap.size (some ⟨w8.heap.size, 0, none⟩) 0 ([] : Sto.Dir) rfl (HN2.out _) w8.heap.size LA D.length lc D rfl rfl (HR2.out _ _) (by simp; omega) (by unfold maxLen; simp; omega) (by simp) ?_; intro A9 c9 L9 w9 hl9 ho9 hg9 hat9; have HL9 := Lib.hid hl9; have HO9 := Lib.hid ho9; have HB9 : Hid (Below w8.heap.size (w8.setCell ⟨g, 2, none⟩ (.slice A8 L8.length c8)) w9) := Lib.hid (((Below.refl _ _).alloc (by simp) _).grown hg9 (by simp) (fun g e => by injection e with e; exact Nat.le_of_eq e)); have hb9 := (HB9.out.block g (by have := HS8.out.r.gl; exact this)).trans (heap_set7 HS8.out.box (.slice A8 L8.length c8)).2.1; have z3 : w9.cell? ⟨g, 3, none⟩ = some (.slice m2.DA s.disk.length m2.dc) := (by rw [cell_of_row w9 g 3 _ _ (0, 0) hb9]; rfl); have f3 := frozen_of_row w9 g 3 _ _ hb9; have z4 : ∀ v : Value, (w9.setCell ⟨g, 3, none⟩ v).cell? ⟨g, 4, none⟩ = some (.slice m2.KA s.kept.length m2.kc) := fun v => (by rw [cell_of_row _ g 4 _ _ (0, 0) (heap_set7 hb9 v).2.2.1]; rfl); have f4 : ∀ v : Value, (w9.setCell ⟨g, 3, none⟩ v).frozen? ⟨g, 4, none⟩ = false := fun v => frozen_of_row _ g 4 _ _ (heap_set7 hb9 v).2.2.1; have z5 : ∀ v u : Value, ((w9.setCell ⟨g, 3, none⟩ v).setCell ⟨g, 4, none⟩ u).cell? ⟨g, 5, none⟩ = some (.slice m2.PA s.plan.length m2.pc) := fun v u => (by rw [cell_of_row _ g 5 _ _ (0, 0) (heap_set7 (heap_set7 hb9 v).2.2.1 u).2.2.2.1]; rfl); have f5 : ∀ v u : Value, ((w9.setCell ⟨g, 3, none⟩ v).setCell ⟨g, 4, none⟩ u).frozen? ⟨g, 5, none⟩ = false := fun v u => frozen_of_row _ g 5 _ _ (heap_set7 (heap_set7 hb9 v).2.2.1 u).2.2.2.1; have z6 : ∀ v u x : Value, (((w9.setCell ⟨g, 3, none⟩ v).setCell ⟨g, 4, none⟩ u).setCell ⟨g, 5, none⟩ x).cell? ⟨g, 6, none⟩ = some (.bool s.off) := fun v u x => (by rw [cell_of_row _ g 6 _ _ (0, 0) (heap_set7 (heap_set7 (heap_set7 hb9 v).2.2.1 u).2.2.2.1 x).2.2.2.2.1]; rfl); have f6 : ∀ v u x : Value, (((w9.setCell ⟨g, 3, none⟩ v).setCell ⟨g, 4, none⟩ u).setCell ⟨g, 5, none⟩ x).frozen? ⟨g, 6, none⟩ = false := fun v u x => frozen_of_row _ g 6 _ _ (heap_set7 (heap_set7 (heap_set7 hb9 v).2.2.1 u).2.2.2.1 x).2.2.2.2.1; clear hl9 ho9 hg9 hat9 hb9))
            go_end0
            have hok := Sto.Ok.crash H.out.r.ok changes keep
            have hcr : Sto.crash s changes keep = ⟨s.room, Sto.cutAll keep 0 (Sto.ids D) s.files, D, D, [], [], false⟩ := by
              unfold Sto.crash
              rw [← HE.out]
            rw [hcr] at hok ⊢
            have hst := HIF.out.st
            rw [List.take_length] at hst
            have h8 := HO8.out
            have hl8 := HL8.out
            rw [List.nil_append] at hl8
            subst hl8
            have h9 := HO9.out
            have hl9 := HL9.out
            rw [List.nil_append] at hl9
            subst hl9
            obtain ⟨_, h1, h2⟩ := crashed (s := { s with files := Sto.cutAll keep 0 (Sto.ids L9) s.files }) hst HB8.out h8 rfl (by have := HB9.out; simpa using this) (by simpa using h9) hok
            exact ⟨rfl, _, h1, HIF.out.af.trans h2⟩
end
end Ref
end Go.Proofs.YtaiokogbhfliiaaGreatDoor

namespace Go.Proofs.YtaiokogbhfliiaaGreatDoor
open Go.RowKit Go.Maps

namespace Ref
/-- The name, digit by digit. -/
def nrow (n : Nat) : Nat → List UInt8
  | 0 => [108, 111, 103, 45, 48, 48, 48, 48, 48, 48]
  | k + 1 => (nrow n k).set (9 - k) (Dig.dg (n / 10 ^ k))
theorem nrow_len (n : Nat) : ∀ k, (nrow n k).length = 10
  | 0 => rfl
  | k + 1 => by rw [nrow, List.length_set]; exact nrow_len n k
theorem nrow_name (n : Nat) : nrow n 6 = Wal.name n := by
  unfold Wal.name
  simp only [nrow, Dig.digW, List.set_cons_succ, List.set_cons_zero, List.nil_append, List.cons_append, Nat.div_div_eq_div_mul, Nat.pow_zero, Nat.div_one]
theorem bv_toArray_set (l : List UInt8) (k : Nat) (b : UInt8) : (bv l).toArray.setIfInBounds k (.int .u8 (b.toNat : Int)) = (bv (l.set k b)).toArray := by
  rw [List.setIfInBounds_toArray]
  congr 1
  simp [bv, List.map_set]
theorem rdB_row {w : World} {X : Nat} {l : List UInt8} {T : TypeId} {fr : Nat × Nat} (h : w.heap[X]? = some (.cells (bv l).toArray T fr)) : RdB w w.heap.size (some ⟨X, 0, none⟩) l := by
  refine ⟨by simp [bv], fun hl => ⟨⟨X, 0, none⟩, rfl, (Array.getElem?_eq_some_iff.1 h).1, fun j u hu => ?_⟩⟩
  have hadd : (⟨X, 0, none⟩ : Addr).add j = ⟨X, j, none⟩ := by unfold Addr.add; split <;> simp_all
  rw [hadd, cell_of_row w X j _ _ fr h]
  simpa using hu
set_option maxHeartbeats 1000000 in
set_option maxRecDepth 100000 in
theorem name_any (n : Nat) (hn : n < 1000000) (w : World) (T : List UInt8) (hT : T = Wal.name n) :
    Calls Tryz.prog 92 #[.int .i64 (n : Int)] w fun e w' => e = .returned (.string ⟨T.toArray⟩) ∧ Below w.heap.size w w' := by
  have HT := Lib.hid hT
  clear hT
  have kc := fun (w : World) (C : Array Value) (n c : Nat) => Lib.run_convert_bytes_const (P := Tryz.prog) w 23 5 C n c Tryz.underlying23 Tryz.underlying5
  go_enter Tryz.func92, Tryz.ntmps92
  go_wp2_with fail
  obtain ⟨V, hV⟩ : ∃ V, w.alloc (.cells #[.int .u8 108, .int .u8 111, .int .u8 103, .int .u8 45, .int .u8 48, .int .u8 48, .int .u8 48, .int .u8 48, .int .u8 48, .int .u8 48] 5 (10, 11)) = V := ⟨_, rfl⟩
  have HV0 : Hid (V.heap[w.heap.size]? = some (.cells (bv (nrow n 0)).toArray 5 (10, 11))) := Lib.hid (by rw [← hV]; exact heap_alloc_new w _)
  have HB0 : Hid (Below w.heap.size w V) := Lib.hid (by rw [← hV]; exact (Below.refl _ _).alloc (Nat.le_refl _) _)
  rw [hV]
  clear hV kc
  go_loopw [0, 4] (fun x i wr => ∃ k : Nat, k ≤ 6 ∧ x = .int .i64 ((n / 10 ^ k : Nat) : Int) ∧ i = .int .i64 (9 - (k : Int)) ∧ Hid (wr.heap[w.heap.size]? = some (.cells (bv (nrow n k)).toArray 5 (10, 11))) ∧ Hid (Below w.heap.size w wr)) (fun _ i _ => (intOf i + 1).toNat)
  case atStart => exact ⟨0, by omega, by simp, rfl, HV0, HB0⟩
  case round =>
    obtain ⟨k, hk, rfl, rfl, HX, HB⟩ := hrel
    by_cases hlt : k < 6
    · have hge : (4 : Int) ≤ 9 - (k : Int) := by omega
      have hx := HX.out
      have t9 : (9 - (k : Int)).toNat = 9 - k := by omega
      have h0 : (0 : Int) ≤ 9 - (k : Int) := by omega
      have h10 : 9 - (k : Int) < 10 := by omega
      have hlen : (bv (nrow n k)).length = 10 := by rw [bv_length]; exact nrow_len n k
      have c0 : wr.cell? ⟨w.heap.size, 9 - k, none⟩ = some (.int .u8 (((nrow n k)[9 - k]'(by rw [nrow_len]; omega)).toNat : Int)) := by
        rw [cell_of_row wr w.heap.size (9 - k) _ _ _ hx]
        rw [List.getElem?_toArray, bv_get _ _ (by rw [nrow_len]; omega)]
      obtain ⟨v0, hv0⟩ : ∃ v0 : Value, v0 = (.int .u8 (((nrow n k)[9 - k]'(by rw [nrow_len]; omega)).toNat : Int)) := ⟨_, rfl⟩
      rw [← hv0] at c0
      have f0 : wr.frozen? ⟨w.heap.size, 9 - k, none⟩ = false := by
        simp only [World.frozen?, hx]
        simp; omega
      clear hv0 hx hlen
      have HX2 : Hid (∀ v : Value, v = .int .u8 ((Dig.dg (n / 10 ^ k)).toNat : Int) → (wr.setCell ⟨w.heap.size, 9 - k, none⟩ v).heap[w.heap.size]? = some (.cells (bv (nrow n (k + 1))).toArray 5 (10, 11))) := Lib.hid (fun v hv => by
        rw [hv, nrow, ← bv_toArray_set]
        simp [World.setCell, Array.getElem?_modify, HX.out])
      have HY : Hid ((n : Int) / 10 ^ k = ((n / 10 ^ k : Nat) : Int)) := Lib.hid (by rw [Int.natCast_ediv, Int.natCast_pow]; rfl)
      have HYL : Hid (n / 10 ^ k < 1000000) := Lib.hid (Nat.lt_of_le_of_lt (Nat.div_le_self _ _) hn)
      have HP : Hid (n / 10 ^ (k + 1) = n / 10 ^ k / 10) := Lib.hid (by rw [Nat.pow_succ, Nat.div_div_eq_div_mul])
      go_wp2_with fail
      rw [HY.out]
      have hyl := HYL.out
      have hp := HP.out
      have hdg := Dig.dg_nat (n / 10 ^ k)
      obtain ⟨y, hy⟩ : ∃ y, y = n / 10 ^ k := ⟨_, rfl⟩
      have hx2 := HX2.out
      rw [← hy] at hyl hp hdg hx2 ⊢
      have e1 : (y : Int).tdiv 10 = ((y / 10 : Nat) : Int) := by rw [Int.tdiv_eq_ediv_of_nonneg (by omega)]; rfl
      have e2 : (y : Int).tmod 10 = ((y % 10 : Nat) : Int) := by rw [Int.tmod_eq_emod_of_nonneg (by omega)]; rfl
      rw [e1, e2]
      refine ⟨⟨k + 1, hlt, ?_, by congr 1; omega, Lib.hid (hx2 _ ?_), Lib.hid (HB.out.setCell (Nat.le_refl _) _)⟩, by simp only [intOf]; omega⟩
      · rw [hp, show wrap64 ((y / 10 : Nat) : Int) = ((y / 10 : Nat) : Int) by unfold wrap64; omega]
      · congr 1
        rw [hdg, show wrap64 (48 + ((y % 10 : Nat) : Int)) = 48 + ((y % 10 : Nat) : Int) by unfold wrap64; omega]
        omega
    · have hge : ¬ (4 : Int) ≤ 9 - (k : Int) := by omega
      obtain rfl : k = 6 := by omega
      have hx := HX.out
      rw [nrow_name, ← HT.out] at hx
      have hl10 : T.length = 10 := by rw [HT.out, ← nrow_name]; exact nrow_len n 6
      have sb : (convert 23 9 (.slice (some ⟨w.heap.size, 0, none⟩) 10 10)).run Tryz.prog wr = .ok (.string ⟨T.toArray⟩) wr := by
        have := strB_of (c := 10) (rdB_row hx)
        rwa [hl10] at this
      clear hx hl10
      go_wp2_with fail
      go_ret
      exact ⟨rfl, HB.out⟩
theorem numbered_ten {s : Sto.Str} (h : s.length = 10) : Wal.numbered s = if s.take 4 = [108, 111, 103, 45] ∧ Prs.digs (s.drop 4) = true then Prs.dval 0 (s.drop 4) else 0 := by
  unfold Wal.numbered
  by_cases h2 : s.take 4 = [108, 111, 103, 45] ∧ Prs.digs (s.drop 4) = true
  · rw [if_pos h2, if_pos ⟨h, h2⟩]
  · rw [if_neg h2, if_neg (fun h3 => h2 h3.2)]
set_option maxHeartbeats 1000000 in
set_option maxRecDepth 100000 in
theorem number_any (s : Sto.Str) (w : World) :
    Calls Tryz.prog 91 #[Sto.str s] w fun e w' => e = .returned (.int .i64 (Wal.numbered s : Int)) ∧ w' = w := by
  obtain ⟨S, hS⟩ : ∃ S, S = (⟨s.toArray⟩ : ByteArray) := ⟨_, rfl⟩
  unfold Sto.str
  rw [← hS]
  obtain ⟨L, hL⟩ : ∃ L, L = s.length := ⟨_, rfl⟩
  have hsz : S.size = L := by rw [hS, hL]; exact Sto.str_size s
  have HS := Lib.hid hS
  have HL := Lib.hid hL
  clear hS hL
  go_enter Tryz.func91, Tryz.ntmps91
  by_cases h10 : L = 10
  · subst h10
    have HP4 : Hid ((S.extract 0 4).toList = s.take 4) := Lib.hid (by
      rw [HS.out, ByteArray.toList_eq]
      simp [ByteArray.data_extract])
    obtain ⟨P4, hP4⟩ : ∃ P4, S.extract 0 4 = P4 := ⟨_, rfl⟩
    have HQ := Lib.hid hP4
    rw [hP4] at HP4
    by_cases hpre : s.take 4 = [108, 111, 103, 45]
    · have pq : (P4.toList == [108, 111, 103, 45]) = true := by rw [HP4.out, hpre]; rfl
      have HPRE := Lib.hid hpre
      clear hpre
      go_wp2_with fail
      go_loop [3, 4] (fun n i => ∃ (j a : Nat), i = .int .i64 (j : Int) ∧ n = .int .i64 (a : Int) ∧ 4 ≤ j ∧ j ≤ 10 ∧ a < 10 ^ (j - 4) ∧ Hid (a = Prs.dval 0 ((s.drop 4).take (j - 4)) ∧ Prs.digs ((s.drop 4).take (j - 4)) = true)) (fun _ i => 10 - (intOf i).toNat)
      case atStart => exact ⟨4, 0, rfl, rfl, by omega, by omega, by decide, Lib.hid ⟨rfl, rfl⟩⟩
      case round =>
        obtain ⟨j, a, rfl, rfl, hj4, hj10, ha, HA⟩ := hrel
        have ha6 : a < 1000000 := Nat.lt_of_lt_of_le ha (Nat.le_trans (Nat.pow_le_pow_right (by decide) (show j - 4 ≤ 6 by omega)) (by decide))
        by_cases hlt : j < 10
        · have hlt' : (j : Int) < 10 := by omega
          have hjs : j < s.length := by rw [← HL.out]; exact hlt
          have hj6 : j - 4 < (s.drop 4).length := by rw [List.length_drop]; omega
          have hge : (s.drop 4)[j - 4] = s[j] := by rw [List.getElem_drop]; congr 1; omega
          have HTK : Hid ((s.drop 4).take (j + 1 - 4) = (s.drop 4).take (j - 4) ++ [s[j]]) := Lib.hid (by rw [show j + 1 - 4 = j - 4 + 1 by omega, List.take_succ_eq_append_getElem hj6, hge])
          obtain ⟨x, hx⟩ : ∃ x : Nat, x = s[j].toNat := ⟨_, rfl⟩
          have hix : ∀ w : World, (Instr.index 9 (.string S) (.int .i64 (j : Int))).run Tryz.prog w = .ok (.int .u8 (x : Int)) w := idx_str S j x (by omega) (by
            rw [hx]
            have := HS.out
            subst this
            rfl)
          have hx256 : x < 256 := by rw [hx]; exact UInt8.toNat_lt _
          have HDG : Hid (Prs.dig s[j] = decide (48 ≤ x ∧ x ≤ 57)) := Lib.hid (by
            rw [hx]
            unfold Prs.dig
            rw [Bool.decide_and])
          have HNO : Hid (Prs.dig s[j] = false → Wal.numbered s = 0) := Lib.hid (fun h => by
            rw [numbered_ten HL.out.symm, if_neg]
            rintro ⟨_, h2⟩
            unfold Prs.digs at h2
            rw [List.all_eq_true] at h2
            have := h2 s[j] (by rw [← hge]; exact List.getElem_mem _)
            rw [h] at this; cases this)
          have HX := Lib.hid hx
          clear hx hge hj6
          by_cases h48 : x < 48
          · have h48' : (x : Int) < 48 := by omega
            have HE := Lib.hid (HNO.out (by rw [HDG.out]; exact decide_eq_false (by omega)))
            clear h48
            go_wp2_with fail
            go_ret
            rw [HE.out]
            exact ⟨rfl, rfl⟩
          · have h48' : ¬ (x : Int) < 48 := by omega
            by_cases h57 : 57 < x
            · have h57' : (57 : Int) < (x : Int) := by omega
              have HE := Lib.hid (HNO.out (by rw [HDG.out]; exact decide_eq_false (by omega)))
              clear h48 h57
              go_wp2_with fail
              go_ret
              rw [HE.out]
              exact ⟨rfl, rfl⟩
            · have h57' : ¬ (57 : Int) < (x : Int) := by omega
              have HD2 := HDG.out
              rw [decide_eq_true (by omega : 48 ≤ x ∧ x ≤ 57)] at HD2
              have HNX : Hid (a * 10 + (x - 48) = Prs.dval 0 ((s.drop 4).take (j + 1 - 4)) ∧ Prs.digs ((s.drop 4).take (j + 1 - 4)) = true) := Lib.hid (by
                rw [HTK.out, Prs.dval_snoc, ← HA.out.1, HX.out]
                refine ⟨rfl, ?_⟩
                unfold Prs.digs
                rw [List.all_append, Bool.and_eq_true]
                exact ⟨HA.out.2, by simp [HD2]⟩)
              have hb : a * 10 + (x - 48) < 10 ^ (j + 1 - 4) := by
                rw [show j + 1 - 4 = j - 4 + 1 by omega, Nat.pow_succ]; omega
              have HBD := Lib.hid hb
              clear HD2 ha hb
              go_wp2
              go_round
              case rel => exact ⟨j + 1, a * 10 + (x - 48), by go_num, by go_num, by omega, by omega, HBD.out, HNX⟩
              case measure => simp [intOf]; omega
        · have hlt' : ¬ (j : Int) < 10 := by omega
          obtain rfl : j = 10 := by omega
          have HE : Hid (Wal.numbered s = a) := Lib.hid (by
            have h1 := HA.out
            rw [List.take_of_length_le (by rw [List.length_drop, ← HL.out]; omega)] at h1
            rw [numbered_ten HL.out.symm, if_pos ⟨HPRE.out, h1.2⟩, h1.1])
          clear ha
          go_wp2_with fail
          go_ret
          rw [HE.out]
          exact ⟨rfl, rfl⟩
    · have pq : (P4.toList == [108, 111, 103, 45]) = false := by rw [HP4.out, beq_eq_false_iff_ne]; exact hpre
      have HE : Hid (Wal.numbered s = 0) := Lib.hid (by rw [numbered_ten HL.out.symm, if_neg (fun h => hpre h.1)])
      clear hpre
      go_wp2_with fail
      go_ret
      rw [HE.out]
      exact ⟨rfl, rfl⟩
  · have e1 : ((L : Int) == 10) = false := by simp; omega
    have e2 : ((L : Int) != 10) = true := by simp; omega
    have HE : Hid (Wal.numbered s = 0) := Lib.hid (by unfold Wal.numbered; rw [if_neg (fun h => h10 (by rw [HL.out]; exact h.1))])
    go_wp2_with fail
    go_ret
    rw [HE.out]
    exact ⟨rfl, rfl⟩
end Ref
end Go.Proofs.YtaiokogbhfliiaaGreatDoor

namespace Go.Proofs.YtaiokogbhfliiaaGreatDoor
open Go.RowKit Go.Maps

/-- A file that a test lays. -/
structure Fl where
  n : Sto.Str
  A : Option Addr
  c : Nat
  b : List UInt8
def Fl.cells (v : Fl) : List Value := [Sto.str v.n, .slice v.A v.b.length v.c]
structure FlOk (w : World) (v : Fl) : Prop where
  b : RdB w w.heap.size v.A v.b
theorem FlOk.below {w w' : World} {v : Fl} (h : FlOk w v) (hb : Below w.heap.size w w') : FlOk w' v := ⟨(h.b.below hb (Nat.le_refl _)).more hb.size⟩
/-- A row of files that can be read. -/
structure RdF (w : World) (A : Option Addr) (l : List Fl) : Prop where
  row : RdS Fl.cells 2 w w.heap.size A l
  ok : ∀ v ∈ l, FlOk w v
theorem RdF.below {w w' : World} {A : Option Addr} {l : List Fl} (h : RdF w A l) (hb : Below w.heap.size w w') : RdF w' A l :=
  ⟨(h.row.below hb (Nat.le_refl _)).more hb.size, fun v hv => (h.ok v hv).below hb⟩
theorem RdF.cell {w : World} {A : Option Addr} {l : List Fl} (h : RdF w A l) {k : Nat} (hk : k < l.length) : ∃ b off, A = some ⟨b, off, none⟩ ∧ b < w.heap.size ∧ w.cell? ⟨b, off + k * 2, none⟩ = some (Sto.str (l[k]).n) ∧ w.cell? ⟨b, off + k * 2 + 1, none⟩ = some (.slice (l[k]).A (l[k]).b.length (l[k]).c) ∧ FlOk w (l[k]) := by
  obtain ⟨b, off, hA, hb, hc⟩ := RdS.row (f := Fl.cells) (n := 2) (fun _ => rfl) (by omega) h.row (by omega)
  exact ⟨b, off, hA, hb, hc k hk 0 _ rfl, hc k hk 1 _ rfl, h.ok _ (List.getElem_mem hk)⟩
namespace Ref
set_option maxHeartbeats 1000000 in
set_option maxRecDepth 100000 in
theorem same6_any (A B : Option Addr) (c d : Nat) (X Y : List Sto.Str) (w : World) (ha : RdS Sto.S1 1 w w.heap.size A X) (hb : RdS Sto.S1 1 w w.heap.size B Y) (hl : X.length ≤ 9000000000000000) :
    Calls Tryz.prog 52 #[.slice A X.length c, .slice B Y.length d] w fun e w' => e = .returned (.bool (decide (X = Y))) ∧ Below w.heap.size w w' := by
  have HA := Lib.hid ha
  have HB := Lib.hid hb
  clear ha hb
  go_enter Tryz.func52, Tryz.ntmps52
  by_cases hn : X.length = Y.length
  · have e1 : ((X.length : Int) == (Y.length : Int)) = true := by rw [hn]; simp
    have e2 : ((X.length : Int) != (Y.length : Int)) = false := by rw [hn]; simp
    have HN := Lib.hid hn
    clear hn
    go_wp2_with fail
    go_loopw [5] (fun i wr => ∃ k : Nat, k ≤ X.length ∧ i = .int .i64 (k : Int) ∧ Hid (X.take k = Y.take k) ∧ Hid (Below w.heap.size w wr)) (fun i _ => X.length - (intOf i).toNat)
    case atStart => exact ⟨0, by omega, rfl, Lib.hid rfl, Lib.hid (Below.refl _ _)⟩
    case round =>
      obtain ⟨k, hk, rfl, HT, HBR⟩ := hrel
      by_cases hlt : k < X.length
      · have hlt2 : k < Y.length := by have := HN.out; omega
        obtain ⟨b1, o1, hA, hb1, q1⟩ := RdS.row (f := Sto.S1) (n := 1) (fun _ => rfl) (by omega) ((HA.out.below HBR.out (Nat.le_refl _)).more HBR.out.size) (by omega)
        obtain ⟨b2, o2, hB, hb2, q2⟩ := RdS.row (f := Sto.S1) (n := 1) (fun _ => rfl) (by omega) ((HB.out.below HBR.out (Nat.le_refl _)).more HBR.out.size) (by omega)
        have r1 := q1 k hlt 0 _ rfl
        have r2 := q2 k hlt2 0 _ rfl
        rw [Nat.add_zero, Nat.mul_one] at r1 r2
        have HX : Hid (X.take (k + 1) = X.take k ++ [X[k]]) := Lib.hid (List.take_succ_eq_append_getElem hlt)
        have HY : Hid (Y.take (k + 1) = Y.take k ++ [Y[k]]) := Lib.hid (List.take_succ_eq_append_getElem hlt2)
        obtain ⟨x, hx⟩ : ∃ x, x = X[k] := ⟨_, rfl⟩
        obtain ⟨y, hy⟩ : ∃ y, y = Y[k] := ⟨_, rfl⟩
        rw [← hx] at r1 HX
        rw [← hy] at r2 HY
        unfold Sto.str at r1 r2
        obtain ⟨S1, hS1⟩ : ∃ S : ByteArray, (⟨x.toArray⟩ : ByteArray) = S := ⟨_, rfl⟩
        obtain ⟨S2, hS2⟩ : ∃ S : ByteArray, (⟨y.toArray⟩ : ByteArray) = S := ⟨_, rfl⟩
        have hlt' : (k : Int) < (X.length : Int) := by omega
        have hlt2' : (k : Int) < (Y.length : Int) := by omega
        have hk0 : (0 : Int) ≤ (k : Int) := by omega
        subst hA hB
        have hcs := str_cases hS1 hS2
        rw [hS1] at r1
        rw [hS2] at r2
        clear hx hy hS1 hS2 q1 q2
        rcases hcs with ⟨he, rfl, e3, e4⟩ | ⟨he, e3, e4⟩
        · subst he
          go_wp2_with fail
          go_quiet (fail)
          refine Sto.drewN_of (fun V hbV hVh => ?_)
          have HBV := Lib.hid (HBR.out.trans (hbV.mono HBR.out.size))
          clear hbV hVh
          go_wp2_with fail
          exact ⟨⟨k + 1, hlt, by simp, Lib.hid (by rw [HX.out, HY.out, HT.out]), HBV⟩, by simp only [intOf]; omega⟩
        · have HE : Hid (decide (X = Y) = false) := Lib.hid (by
            rw [decide_eq_false_iff_not]
            intro h
            have h1 := HX.out
            rw [h, HY.out] at h1
            have h2 := List.append_cancel_left h1
            injection h2 with h2
            exact he h2.symm)
          clear he
          go_wp2_with fail
          go_quiet (fail)
          refine Sto.drewN_of (fun V hbV hVh => ?_)
          have HBV := Lib.hid (HBR.out.trans (hbV.mono HBR.out.size))
          clear hbV hVh
          go_wp2_with fail
          go_ret
          exact ⟨by rw [HE.out]; rfl, HBV.out⟩
      · have hke : k = X.length := by omega
        have HE : Hid (decide (X = Y) = true) := Lib.hid (by
          rw [decide_eq_true_iff]
          have h1 := HT.out
          rw [hke, List.take_of_length_le (by simp), List.take_of_length_le (by simp [HN.out])] at h1
          exact h1)
        clear hke
        go_wp2_with fail
        go_ret
        exact ⟨by rw [HE.out]; rfl, HBR.out⟩
  · have e1 : ((X.length : Int) == (Y.length : Int)) = false := by simp; omega
    have e2 : ((X.length : Int) != (Y.length : Int)) = true := by simp; omega
    have HE : Hid (decide (X = Y) = false) := Lib.hid (by
      rw [decide_eq_false_iff_not]
      intro h
      exact hn (congrArg List.length h))
    go_wp2_with fail
    go_ret
    exact ⟨by rw [HE.out]; rfl, Below.refl _ _⟩
end Ref
end Go.Proofs.YtaiokogbhfliiaaGreatDoor

namespace Go.Proofs.YtaiokogbhfliiaaGreatDoor
open Go.RowKit Go.Maps

namespace Sto
section
variable {w w' : World} {base g : Nat} {s : St} {m m' : Mem}
theorem rdB_aft0 {A : Option Addr} {l : List UInt8} (h : RdB w w.heap.size A l) (hp : l ≠ [] → Apart w g m A) (ha : Aft w w' g m m') : RdB w' w'.heap.size A l := by
  by_cases hl : l = []
  · subst hl
    exact ⟨by simp [bv], fun h => absurd h (by simp)⟩
  · exact rdB_aft h (hp hl) ha
set_option maxHeartbeats 1000000 in
set_option maxRecDepth 100000 in
theorem append_any0 (n : Str) (hn : n.length ≤ maxLen) (bA : Option Addr) (bc : Nat) (b : List UInt8) (h : StAt w base g s m) (hb : RdB w w.heap.size bA b) (hp : b ≠ [] → Apart w g m bA) (hf : s.files.length ≤ 1000000) :
    Calls Tryz.prog 26 #[.pointer (some ⟨g, 0, none⟩), .string ⟨n.toArray⟩, .slice bA b.length bc] w (OpP w base g m (append s n b)) := by
  obtain ⟨x, hx⟩ : ∃ x, x = meet s [n] := ⟨_, rfl⟩
  obtain ⟨x0, s1⟩ := x
  obtain ⟨P, hP⟩ : ∃ P, P = Obj.cells #[.pointer (some ⟨g, 0, none⟩)] 26 := ⟨_, rfl⟩
  obtain ⟨N, hN⟩ : ∃ N, N = Obj.cells #[.slice bA b.length bc] 23 := ⟨_, rfl⟩
  have hb0 : Below w.heap.size w ((w.alloc P).alloc N) := ((Below.refl _ _).alloc (Nat.le_refl _) _).alloc (by simp) _
  have hx0 : ((w.alloc P).alloc N).heap[w.heap.size]? = some P := by rw [Below.heap_alloc _ _ _ (by simp)]; exact heap_alloc_new w _
  have hx1 : ((w.alloc P).alloc N).heap[w.heap.size + 1]? = some N := by
    have := heap_alloc_new (w.alloc P) N
    rwa [show (w.alloc P).heap.size = w.heap.size + 1 by simp] at this
  have KW := Lib.hid (with_any 61 [.pointer (some ⟨w.heap.size + 1, 0, none⟩), .pointer (some ⟨w.heap.size, 0, none⟩)] (fun _ _ => rfl) n hn ((w.alloc P).alloc N) base g s m (h.below hb0) x0 s1 hx (OpP ((w.alloc P).alloc N) base g m (append s n b)) (fun e w' h => ⟨_, h.1⟩) (fun h0 w1 A1 c1 i hst haf hfi => by
    subst h0
    rw [append_apx hx hfi]
    have hmf : s1.files = s.files := by
      have h1 := meet_files s [n]
      rw [← hx] at h1
      exact h1.1
    have nm : ∀ k, w.heap.size ≤ k → ¬ Mut g m k := fun k hk hm => by have := (h.r.mut_ge hm).2; omega
    have hz : ((w.alloc P).alloc N).heap.size = w.heap.size + 2 := by simp
    refine (append1_any bA bc b hst hfi (rdB_aft0 hb hp ((Aft.of_below hb0).trans haf)) (by rw [hmf]; exact hf) w.heap.size (w.heap.size + 1) ?_ ?_).mono fun e w' ⟨h1, m', h2, h3⟩ => ⟨h1, m', h2, haf.trans h3⟩
    · rw [haf.block _ (by omega) (nm _ (Nat.le_refl _)), hx0, hP]
    · rw [haf.block _ (by omega) (nm _ (by omega)), hx1, hN]))
  have HX := Lib.hid hx
  have HA0 : Hid (Aft w ((w.alloc P).alloc N) g m m) := Lib.hid (Aft.of_below hb0)
  rw [hP, hN] at KW HA0
  clear h hb hp hx hx0 hx1 hb0 hP hN
  obtain ⟨S, hS⟩ : ∃ S, S = (⟨n.toArray⟩ : ByteArray) := ⟨_, rfl⟩
  rw [← hS] at KW ⊢
  clear hS
  go_enter Tryz.func26, Tryz.ntmps26
  go_wp2_with fail
  refine KW.out.mono ?_
  intro e w1 hP
  have HP : Hid (OpP w base g m (append s n b) e w1) := Lib.hid (by
    rcases hP with ⟨h0, h1, m', h2, h3⟩ | ⟨h0, h1, h4, m', h2, h3⟩ | ⟨_, _, h1, m', h2, h3⟩
    · rw [append_bad HX.out h0]; exact ⟨h1, m', h2, HA0.out.trans h3⟩
    · subst h0
      rw [append_none HX.out h1]; exact ⟨h4, m', h2, HA0.out.trans h3⟩
    · exact ⟨h1, m', h2, HA0.out.trans h3⟩)
  obtain ⟨x, hx2⟩ : ∃ x, x = (append s n b).1 := ⟨_, rfl⟩
  have he : e = .returned (.int .i64 x) := by rw [hx2]; exact HP.out.1
  subst he
  clear hP hx2
  go_wp2_with fail
  go_ret
  exact HP.out
end
end Sto
namespace Ref
/-- Both stores, behind a call that began at W. -/
structure Both (w W : World) (bs g : Nat) (s : Sto.St) (m : Sto.Mem) (br gr : Nat) (t : Sto.St) (mr : Mem) : Prop where
  real : Sto.StAt w bs g s m
  ref : StAt w br gr t mr
  apart : ∀ k, Row mr k → ¬ Sto.Mut g m k
  lo : W.heap.size ≤ bs
  lo2 : W.heap.size ≤ br
  lo3 : bs ≤ br
  below : Below W.heap.size W w
section
variable {w w' W : World} {bs g br gr : Nat} {s s' t t' : Sto.St} {m m' : Sto.Mem} {mr mr' : Mem} {ts : List TypeId}
theorem Both.op (h : Both w W bs g s m br gr t mr) (hst : Sto.StAt w' bs g s' m') (ha : Aft0 w w' g m m') : Both w' W bs g s' m' br gr t mr :=
  ⟨hst, h.ref.beside h.real ha h.apart, apart_real h.ref ha h.apart, h.lo, h.lo2, h.lo3, h.below.trans ((ha.below h.real).mono h.lo)⟩
theorem Both.rop (h : Both w W bs g s m br gr t mr) (hst : StAt w' br gr t' mr') (ha : Aft ts w w' br (Row mr) (Row mr')) (ht : ∀ T ∈ ([78, 108, 110, 9, 105, 5] : List TypeId), T ∉ ts) : Both w' W bs g s m br gr t' mr' :=
  ⟨beside_st h.real ha ht, hst, apart_after h.real ha h.apart, h.lo, h.lo2, h.lo3, h.below.trans ((ha.below h.ref.bs).mono h.lo2)⟩
theorem Both.keep (h : Both w W bs g s m br gr t mr) (hb : Below w.heap.size w w') : Both w' W bs g s m br gr t mr :=
  ⟨h.real.below hb, h.ref.below hb, h.apart, h.lo, h.lo2, h.lo3, h.below.trans (hb.mono h.below.size)⟩
/-- Bytes of the caller's. -/
theorem Both.bytes (h : Both w W bs g s m br gr t mr) {A : Option Addr} {b : List UInt8} (hr : RdB W W.heap.size A b) : RdB w w.heap.size A b ∧ (b ≠ [] → Sto.Apart w g m A) ∧ ByOk w br A b := by
  refine ⟨(hr.below h.below (Nat.le_refl _)).more h.below.size, fun hb k e => ?_, .inl ((hr.below h.below (Nat.le_refl _)).more h.lo2)⟩
  obtain ⟨ad, e2, h2, _⟩ := hr.cell (k := 0) (by cases b <;> simp_all)
  subst e2
  have e3 : ad.block = k := by simpa [blk] using e
  subst e3
  exact ⟨Nat.lt_of_lt_of_le h2 h.below.size, fun hm => by have := (h.real.r.mut_ge hm).1; have := h.lo; omega⟩
end
end Ref
end Go.Proofs.YtaiokogbhfliiaaGreatDoor
