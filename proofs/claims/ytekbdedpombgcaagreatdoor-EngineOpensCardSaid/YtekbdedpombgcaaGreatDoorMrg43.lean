/- Parts of the proof, one behind the other: Contracts of the log: what a file tells.; Contracts of the log: told.; Contracts of the log: there.; Contracts of the log: all.; A log as it lies in memory, beside its store. -/
import Derived.Test.YtekbdedpombgcaaGreatDoorMrg41
import Derived.Test.YtekbdedpombgcaaGreatDoorMrg26
import Derived.Test.YtekbdedpombgcaaGreatDoorMrg38
import Derived.Test.YtekbdedpombgcaaGreatDoorMrg22
namespace Go.Proofs.YtekbdedpombgcaaGreatDoor
open Go.RowKit Go.Maps

namespace Wal
def N1 (n : Nat) : List Value := [.int .i64 (n : Int)]
theorem numT : RT Tryz.prog 147 143 N1 1 8 (.int .i64 0) :=
  ⟨Tryz.underlying147, by kernel_rfl, fun _ => rfl, fun v u hu => by simp [N1] at hu; subst hu; rfl, by omega, rfl⟩
theorem rd_num_new (w : World) (n : Nat) : RdS N1 1 (w.alloc (.cells #[.int .i64 (n : Int)] 143)) (w.heap.size + 1) (some ⟨w.heap.size, 0, none⟩) [n] := by
  refine RdS.of (f := N1) (n := 1) (l := [n]) (fun _ => rfl) _ 0 (by omega) (fun k hk j u hj => ?_)
  obtain rfl : k = 0 := by simp at hk; exact hk
  have hj' : (N1 n)[j]? = some u := hj
  rw [cell_of_row _ w.heap.size _ _ _ (0, 0) (heap_alloc_new w _)]
  simpa [N1] using hj'
def filesOf (l : List (List UInt8)) : List Nat := (l.map numbered).filter fun n => decide (0 < n)
theorem filesOf_snoc (l : List (List UInt8)) (x : List UInt8) : filesOf (l ++ [x]) = if 0 < numbered x then filesOf l ++ [numbered x] else filesOf l := by
  unfold filesOf
  rw [List.map_append, List.filter_append]
  by_cases h : 0 < numbered x
  · rw [if_pos h]; simp [h]
  · rw [if_neg h]; simp [h]
theorem filesOf_len (l : List (List UInt8)) : (filesOf l).length ≤ l.length := by
  unfold filesOf
  have := List.length_filter_le (fun n => decide (0 < n)) (l.map numbered)
  simpa using this
theorem numbered_bd (l : List UInt8) : numbered l < 1000000 := by
  unfold numbered
  split
  · rename_i h
    have h1 := Prs.dval_bound _ h.2.2
    have h2 : (l.drop 4).length = 6 := by rw [List.length_drop]; omega
    rw [h2] at h1
    exact h1
  · omega
set_option maxHeartbeats 1000000 in
set_option maxRecDepth 100000 in
theorem files_any {w : World} {base g : Nat} {s : Sto.St} {m : Sto.Mem} (h : Sto.StAt w base g s m) (hf : s.files.length ≤ 1000000) :
    Calls Tryz.prog 44 #[.pointer (some ⟨g, 0, none⟩)] w fun e w' => ∃ A c, e = .returned (.slice A (files s).length c) ∧ OwnS N1 1 w' w.heap.size 143 A c (files s) ∧ Below w.heap.size w w' := by
  have hnl : (Sto.names s).length ≤ 1000000 := by
    unfold Sto.names
    rw [List.length_map]
    exact Nat.le_trans h.r.ok.gnow.len hf
  have KN := Lib.hid (Sto.names_any h hf)
  have HE : Hid (files s = filesOf (Sto.names s)) := Lib.hid rfl
  obtain ⟨l, hl⟩ : ∃ l, l = Sto.names s := ⟨_, rfl⟩
  rw [← hl] at KN HE hnl
  rw [HE.out]
  clear h hl
  go_enter Tryz.func44, Tryz.ntmps44
  go_wp2_with fail
  refine KN.out.mono ?_
  rintro e w1 ⟨A, c, rfl, ho, hb1⟩
  have HO := Lib.hid ho
  have HB1 := Lib.hid hb1
  clear ho hb1
  go_wp2_with fail
  go_loopw [3, 10] (fun o i wr => ∃ (k oc : Nat) (OA : Option Addr) (L : List Nat), k ≤ l.length ∧ i = .int .i64 (k : Int) ∧ o = .slice OA L.length oc ∧ L.length ≤ k ∧ Hid (L = filesOf (l.take k)) ∧ Hid (OwnS N1 1 wr w.heap.size 143 OA oc L) ∧ Hid (OwnS Sto.S1 1 wr w.heap.size 9 A c l) ∧ Hid (Below w.heap.size w wr)) (fun _ i _ => l.length - (intOf i).toNat)
  case atStart => exact ⟨0, 0, none, [], by omega, rfl, rfl, Nat.le_refl _, Lib.hid rfl, Lib.hid (OwnS.nil _ _ _), HO, HB1⟩
  case round =>
    obtain ⟨k, oc, OA, L, hk, rfl, rfl, hLk, HL, HOL, HON, HB⟩ := hrel
    by_cases hlt : k < l.length
    · obtain ⟨b, off, hA, hb, hc⟩ := RdS.row (f := Sto.S1) (n := 1) (fun _ => rfl) (by omega) HON.out.rd (by omega)
      have c0 := hc k hlt 0 _ rfl
      rw [Nat.add_zero, Nat.mul_one] at c0
      have KM := Lib.hid (numbered_any l[k] wr)
      have HSN : Hid (filesOf (l.take (k + 1)) = if 0 < numbered l[k] then L ++ [numbered l[k]] else L) := Lib.hid (by
        rw [List.take_succ_eq_append_getElem hlt, filesOf_snoc, HL.out])
      have hnb := numbered_bd l[k]
      obtain ⟨S, hS⟩ : ∃ S, S = (⟨(l[k]).toArray⟩ : ByteArray) := ⟨_, rfl⟩
      obtain ⟨z, hz⟩ : ∃ z, z = numbered l[k] := ⟨_, rfl⟩
      have c0' : wr.cell? ⟨b, off + k, none⟩ = some (.string S) := by rw [hS]; exact c0
      rw [← hS, ← hz] at KM
      rw [← hz] at HSN hnb
      subst hA
      clear c0 hc hS hz
      go_wp2_with fail
      refine KM.out.mono ?_
      rintro e w2 ⟨rfl, hb2⟩
      have HB2 := Lib.hid (HB.out.trans (hb2.mono HB.out.size))
      have HON2 := Lib.hid (HON.out.below hb2)
      have HOL2 := Lib.hid (HOL.out.below hb2)
      clear hb2 c0'
      by_cases hz0 : (0 : Int) < (z : Int)
      · have hws := HB2.out.size
        go_wp2_with (at_builtin; refine wpList_append_s _ rfl _ _ numT rfl w.heap.size OA oc L rfl (HOL2.out.alloc _) (w2.heap.size + 1) (some ⟨w2.heap.size, 0, none⟩) 1 1 [z] rfl rfl (rd_num_new w2 z) (by simp; omega) (by unfold maxLen; simp; omega) (by simp; omega) ?_; intro A3 c3 L3 w8 hl3 ho3 hg3 hat3)
        have hl3 : L3 = L ++ [z] := hl3
        subst hl3
        have HON8 : Hid (OwnS Sto.S1 1 w8 w.heap.size 9 (some ⟨b, off, none⟩) c l) := Lib.hid (HON2.out.keep (fun k e => by
          have t1 := Sto.ownTagS HON2.out e
          rw [hg3.block k (by simp; have := t1.lt; omega) (fun e2 => (Sto.ownTagS HOL2.out e2.symm).ne t1 (by decide) rfl), Below.heap_alloc _ _ _ t1.lt]))
        have HB8 : Hid (Below w.heap.size w w8) := Lib.hid ((HB2.out.alloc hws _).grown hg3 (by simp; omega) (fun g e => (HOL2.out.blk_ge g e).1))
        exact ⟨⟨k + 1, c3, A3, L ++ [z], hlt, by simp, by simp, by simp; omega, Lib.hid (by rw [HSN.out, if_pos (by omega)]), Lib.hid ho3, HON8, HB8⟩, by simp only [intOf]; omega⟩
      · have HLN : Hid (L = filesOf (l.take (k + 1))) := Lib.hid (by rw [HSN.out, if_neg (by omega)])
        go_wp2_with fail
        exact ⟨⟨k + 1, oc, OA, L, hlt, by simp, rfl, by omega, HLN, HOL2, HON2, HB2⟩, by simp only [intOf]; omega⟩
    · have hke : k = l.length := by omega
      subst hke
      have HLE : Hid (L = filesOf l) := Lib.hid (by rw [HL.out, List.take_length])
      go_wp2_with fail
      go_ret
      rw [← HLE.out]
      exact ⟨OA, oc, rfl, HOL.out, HB.out⟩
end Wal
end Go.Proofs.YtekbdedpombgcaaGreatDoor
namespace Go.Proofs.YtekbdedpombgcaaGreatDoor
open Go.RowKit Go.Maps

namespace Wal
/-- A batch as it lies in memory. -/
structure Bv where
  n : Nat
  A : Option Addr
  c : Nat
  b : List UInt8
def Bv.cells (v : Bv) : List Value := [.int .i64 (v.n : Int), .slice v.A v.b.length v.c]
def Bv.bt (v : Bv) : Bt := (v.n, v.b)
theorem btT : RT Tryz.prog 144 151 Bv.cells 2 32 (.agg #[.int .i64 0, .slice none 0 0]) :=
  ⟨Tryz.underlying144, by kernel_rfl, fun _ => rfl, fun _ u hu => by simp [Bv.cells] at hu; rcases hu with h | h <;> (subst h; rfl), by omega, rfl⟩
/-- The bytes of batches: each in a row of bytes, from B0 on. -/
structure Bys (w : World) (B0 : Nat) (l : List Bv) : Prop where
  ok : ∀ v ∈ l, RdB w w.heap.size v.A v.b ∧ v.b.length ≤ v.c ∧ v.c ≤ 9223372036854775807 ∧ ∀ g, blk v.A = some g → B0 ≤ g ∧ Sto.Tag w g 5
theorem Bys.nil (w : World) (B0 : Nat) : Bys w B0 [] := ⟨fun _ h => by cases h⟩
theorem Bys.keep {w w' : World} {B0 : Nat} {l : List Bv} (h : Bys w B0 l) (hs : w.heap.size ≤ w'.heap.size) (hk : ∀ v ∈ l, ∀ k, blk v.A = some k → w'.heap[k]? = w.heap[k]?) : Bys w' B0 l :=
  ⟨fun v hv => by
    obtain ⟨h1, h2, h3, h4⟩ := h.ok v hv
    exact ⟨rdB_keepS h1 hs (fun k e _ => hk v hv k e), h2, h3, fun g e => ⟨(h4 g e).1, (h4 g e).2.keep (hk v hv g e)⟩⟩⟩
theorem Bys.below {w w' : World} {B0 : Nat} {l : List Bv} (h : Bys w B0 l) (hb : Below w.heap.size w w') : Bys w' B0 l :=
  h.keep hb.size (fun v hv k e => hb.block k ((h.ok v hv).2.2.2 k e).2.lt)
/-- A row of another type is turned. -/
theorem Bys.grown {w w' : World} {B0 : Nat} {l : List Bv} (h : Bys w B0 l) {row : Option Nat} {T : TypeId} (hg : w.grownBy w' row) (hr : ∀ k, row = some k → k < w.heap.size → Sto.Tag w k T) (hT : T ≠ 5) : Bys w' B0 l :=
  h.keep hg.size (fun v hv k e => by
    have t := ((h.ok v hv).2.2.2 k e).2
    exact hg.block k t.lt (fun e2 => (hr k e2.symm t.lt).ne t hT rfl))
theorem Bys.snoc {w : World} {B0 : Nat} {l : List Bv} {v : Bv} (h : Bys w B0 l) (hv : RdB w w.heap.size v.A v.b ∧ v.b.length ≤ v.c ∧ v.c ≤ 9223372036854775807 ∧ ∀ g, blk v.A = some g → B0 ≤ g ∧ Sto.Tag w g 5) : Bys w B0 (l ++ [v]) :=
  ⟨fun x hx => by
    simp only [List.mem_append, List.mem_singleton] at hx
    rcases hx with hx | rfl
    · exact h.ok x hx
    · exact hv⟩
theorem Bys.mono {w : World} {B0 B1 : Nat} {l : List Bv} (h : Bys w B0 l) (hB : B1 ≤ B0) : Bys w B1 l :=
  ⟨fun v hv => by
    obtain ⟨h1, h2, h3, h4⟩ := h.ok v hv
    exact ⟨h1, h2, h3, fun g e => ⟨Nat.le_trans hB (h4 g e).1, (h4 g e).2⟩⟩⟩
theorem Bys.app {w : World} {B0 : Nat} {l k : List Bv} (h : Bys w B0 l) (h2 : Bys w B0 k) : Bys w B0 (l ++ k) :=
  ⟨fun v hv => by
    rcases List.mem_append.1 hv with hv | hv
    · exact h.ok v hv
    · exact h2.ok v hv⟩
theorem rd_bt_new (w : World) (v : Bv) : RdS Bv.cells 2 (w.alloc (.cells #[.int .i64 (v.n : Int), .slice v.A v.b.length v.c] 151)) (w.heap.size + 1) (some ⟨w.heap.size, 0, none⟩) [v] := by
  refine RdS.of (f := Bv.cells) (n := 2) (l := [v]) (fun _ => rfl) _ 0 (by omega) (fun k hk j u hj => ?_)
  obtain rfl : k = 0 := by simp at hk; exact hk
  have hj' : (Bv.cells v)[j]? = some u := hj
  rw [cell_of_row _ w.heap.size _ _ _ (0, 0) (heap_alloc_new w _)]
  rcases j with _ | _ | j
  · simpa [Bv.cells] using hj'
  · simpa [Bv.cells] using hj'
  · simp [Bv.cells] at hj'
/-- Batches of the call's own. -/
def BtsP (w : World) (l : List Bt) (e : Ending) (w' : World) : Prop := ∃ A c L, e = .returned (.slice A l.length c) ∧ L.map Bv.bt = l ∧ OwnS Bv.cells 2 w' w.heap.size 151 A c L ∧ Bys w' w.heap.size L ∧ Below w.heap.size w w'
def lastN (l : List Bv) : Option Nat := l.getLast?.map Bv.n
theorem lastN_snoc (l : List Bv) (v : Bv) : lastN (l ++ [v]) = some v.n := by simp [lastN]
theorem lastN_at (l : List Bv) (k : Nat) (h : k < l.length) (hk : k + 1 = l.length) : lastN l = some (l[k]).n := by
  unfold lastN
  rw [List.getLast?_eq_getElem?, show l.length - 1 = k by omega, List.getElem?_eq_getElem h]
  rfl
theorem tells_none {last : Option Nat} {p : UInt8 × List UInt8} {r : List (UInt8 × List UInt8)} (h : Cod.take p.2 = none) : tells last (p :: r) = [] := by
  rw [tells, h]
theorem tells_stop {last : Option Nat} {p : UInt8 × List UInt8} {r : List (UInt8 × List UInt8)} {n : Nat} {rest : List UInt8} (h : Cod.take p.2 = some (n, rest)) (h2 : p.1 ≠ 66 ∨ n < 1 ∨ 1099511627776 < n ∨ (last.any fun z => n != z + 1) = true) : tells last (p :: r) = [] := by
  rw [tells, h]; simp only; rw [if_pos h2]
theorem tells_go {last : Option Nat} {p : UInt8 × List UInt8} {r : List (UInt8 × List UInt8)} {n : Nat} {rest : List UInt8} (h : Cod.take p.2 = some (n, rest)) (h2 : ¬ (p.1 ≠ 66 ∨ n < 1 ∨ 1099511627776 < n ∨ (last.any fun z => n != z + 1) = true)) : tells last (p :: r) = (n, rest) :: tells (some n) r := by
  rw [tells, h]; simp only; rw [if_neg h2]
end Wal
end Go.Proofs.YtekbdedpombgcaaGreatDoor

namespace Go.Proofs.YtekbdedpombgcaaGreatDoor
open Go.RowKit Go.Maps

namespace Wal
theorem OwnFv.keepT {w w' : World} {base c : Nat} {A : Option Addr} {l : List Fv} (h : OwnFv 113 w base A c l) (hk : ∀ k, Sto.Tag w k 113 ∨ Sto.Tag w k 5 → w'.heap[k]? = w.heap[k]?) : OwnFv 113 w' base A c l :=
  ⟨h.row.keep (fun _ e => hk _ (.inl (Sto.ownTagS h.row e))), fun f hf => ⟨own_keepS (h.own f hf).1 (fun _ e => hk _ (.inr (Sto.ownTag (h.own f hf).1 e))), (h.own f hf).2⟩⟩
theorem BtsP.of {w w' : World} {T : List Bt} {QA : Option Addr} {oc k : Nat} {Q : List Bv} (hk : Q.length = k) (hT : T = Q.map Bv.bt) (h1 : OwnS Bv.cells 2 w' w.heap.size 151 QA oc Q) (h2 : Bys w' w.heap.size Q) (h3 : Below w.heap.size w w') : BtsP w T (.returned (.slice QA k oc)) w' :=
  ⟨QA, oc, Q, by rw [hT, List.length_map, hk], hT.symm, h1, h2, h3⟩
theorem stop_if {x : UInt8} {q z : Nat} {last : Option Nat} (hq : q = x.toNat) (h : q ≠ 66 ∨ z < 1 ∨ 1099511627776 < z ∨ (last.any fun y => z != y + 1) = true) : x ≠ 66 ∨ z < 1 ∨ 1099511627776 < z ∨ (last.any fun y => z != y + 1) = true := by
  rcases h with h | h
  · exact .inl (fun e => h (by rw [hq, e]; rfl))
  · exact .inr h
theorem go_if {x : UInt8} {q z : Nat} {last : Option Nat} (hq : q = x.toNat) (h1 : q = 66) (h2 : ¬ z < 1) (h3 : ¬ 1099511627776 < z) (h4 : (last.any fun y => z != y + 1) = false) : ¬ (x ≠ 66 ∨ z < 1 ∨ 1099511627776 < z ∨ (last.any fun y => z != y + 1) = true) := by
  rintro (h | h | h | h)
  · exact h (by rw [h1] at hq; exact UInt8.toNat_inj.1 hq.symm)
  · exact h2 h
  · exact h3 h
  · rw [h4] at h; cases h
theorem told_app {w w4 w8 : World} {n2 oc OC : Nat} {QA OA : Option Addr} {Q Q2 : List Bv} {L : List Fv} {o : Obj} (hQ : OwnS Bv.cells 2 w4 w.heap.size 151 QA oc Q) (hB : Bys w4 w.heap.size Q2) (hF : OwnFv 113 w4 n2 OA OC L) (hb : Below w.heap.size w w4) (hg : (w4.alloc o).grownBy w8 (blk QA)) :
    Bys w8 w.heap.size Q2 ∧ OwnFv 113 w8 n2 OA OC L ∧ Below w.heap.size w w8 := by
  have hb2 : Below w4.heap.size w4 (w4.alloc o) := (Below.refl _ _).alloc (Nat.le_refl _) _
  have hQ2 := hQ.below hb2
  have hF2 := hF.call hb2
  refine ⟨(hB.below hb2).grown hg (fun k e _ => Sto.ownTagS hQ2 e) (by decide), OwnFv.keepT hF2 (fun k hk => ?_), (hb.alloc hb.size o).grown hg (by simp; have := hb.size; omega) (fun g e => (hQ.blk_ge g e).1)⟩
  have hlt : k < (w4.alloc o).heap.size := by rcases hk with h | h <;> exact h.lt
  refine hg.block k hlt (fun e => ?_)
  have t := Sto.ownTagS hQ2 e.symm
  rcases hk with h | h
  · exact t.ne h (by decide) rfl
  · exact t.ne h (by decide) rfl
theorem read_len {w : World} {base g : Nat} {s : Sto.St} {m : Sto.Mem} (h : Sto.StAt w base g s m) (n : Sto.Str) : (Sto.read s n).2.length ≤ 16777216 := by
  unfold Sto.read
  split
  · simp
  · split
    · simp
    · split
      · simp
      · exact (Sto.file_ok h.r.ok _).2
set_option maxHeartbeats 2000000 in
set_option maxRecDepth 100000 in
theorem told_any {w : World} {base g : Nat} {s : Sto.St} {m : Sto.Mem} (h : Sto.StAt w base g s m) (ht : Tab w) (n : Nat) (hn : n < 1000000) (T : List Bt) (hT : T = told s n) :
    Calls Tryz.prog 101 #[.pointer (some ⟨g, 0, none⟩), .int .i64 (n : Int)] w (BtsP w T) := by
  have H := Lib.hid h
  have HT := Lib.hid hT
  obtain ⟨N, hN⟩ : ∃ N, N = name n := ⟨_, rfl⟩
  have KN := Lib.hid (name_any n hn w ht N hN)
  have HNl : N.length ≤ maxLen := by rw [hN]; unfold name; simp [Dig.digW_length]; unfold maxLen; omega
  have HN := Lib.hid hN
  clear h hT hN ht
  go_enter Tryz.func101, Tryz.ntmps101
  go_wp2_with fail
  refine KN.out.mono ?_
  rintro e w1 ⟨rfl, hb1⟩
  have KR := Lib.hid (Sto.read_any N HNl (H.out.below hb1))
  have HB1 := Lib.hid hb1
  obtain ⟨R, hR⟩ : ∃ R, R = Sto.read s N := ⟨_, rfl⟩
  rw [← hR] at KR
  have HR := Lib.hid hR
  clear hb1 hR HNl
  go_wp2_with fail
  refine KR.out.mono ?_
  rintro e w2 ⟨hb2, A2, c2, rfl, ho2⟩
  have HB2 := Lib.hid (HB1.out.trans (hb2.mono HB1.out.size))
  have hbl : R.2.length ≤ 16777216 := by rw [HR.out]; exact read_len H.out N
  have KS := Lib.hid (scan_own A2 c2 R.2 w2 ho2.rd (by omega) ho2.cap ho2.cap_le)
  obtain ⟨b, hb⟩ : ∃ b, b = R.2 := ⟨_, rfl⟩
  have HTT : Hid (T = tells none (scan b)) := Lib.hid (by rw [HT.out, hb, HR.out, HN.out]; rfl)
  rw [← hb] at KS hbl
  clear hb2 ho2
  rw [← hb]
  clear hb
  go_wp2_with fail
  refine KS.out.mono ?_
  rintro e w3 ⟨L, r, OA, OC, hsc, htk, rfl, hof, hb3⟩
  have HLT : Hid (T = tells none (L.map Fv.pr)) := Lib.hid (by rw [HTT.out, scan_of hsc htk])
  have hLl : L.length ≤ 16777216 := by
    have := hsc.len.1
    rw [List.length_map] at this
    omega
  have HB3 := Lib.hid (HB2.out.trans (hb3.mono HB2.out.size))
  have HOF := Lib.hid hof
  have HFL : Hid (∀ f ∈ L, f.b.length ≤ 65536) := Lib.hid (fun f hf => hsc.fit f.pr (List.mem_map_of_mem hf))
  clear hsc htk hof hb3
  go_wp2_with fail
  have hsz3 := HB3.out.size
  go_loopw [5, 29] (fun o i wr => ∃ (k oc : Nat) (QA : Option Addr) (Q : List Bv), k ≤ L.length ∧ i = .int .i64 (k : Int) ∧ o = .slice QA k oc ∧ Hid (Q.length = k) ∧ Hid (∀ v ∈ Q, v.n ≤ 1099511627776) ∧ Hid (T = Q.map Bv.bt ++ tells (lastN Q) ((L.map Fv.pr).drop k)) ∧ Hid (OwnS Bv.cells 2 wr w.heap.size 151 QA oc Q) ∧ Hid (Bys wr w.heap.size Q) ∧ Hid (OwnFv 113 wr w2.heap.size OA OC L) ∧ Hid (Below w.heap.size w wr)) (fun _ i _ => L.length - (intOf i).toNat)
  case atStart => exact ⟨0, 0, none, [], by omega, rfl, rfl, Lib.hid rfl, Lib.hid (fun _ h => by cases h), Lib.hid (by rw [HLT.out]; rfl), Lib.hid (OwnS.nil _ _ _), Lib.hid (Bys.nil _ _), HOF, HB3⟩
  case round =>
    obtain ⟨k, oc, QA, Q, hk, rfl, rfl, HQK, HQN, HTQ, HQ, HBY, HF, HB⟩ := hrel
    by_cases hlt : k < L.length
    · obtain ⟨b0, off, hA, hb0, hcl⟩ := RdFv.row2 HF.out.rd (by omega)
      obtain ⟨c0, c1⟩ := hcl k hlt
      obtain ⟨hfo, hfoff⟩ := HF.out.own L[k] (List.getElem_mem hlt)
      obtain ⟨f, hf⟩ : ∃ f, f = L[k] := ⟨_, rfl⟩
      have HD : Hid ((L.map Fv.pr).drop k = (f.k, f.b) :: (L.map Fv.pr).drop (k + 1)) := Lib.hid (by
        rw [List.drop_eq_getElem_cons (by rw [List.length_map]; exact hlt), List.getElem_map, hf]; rfl)
      rw [← hf] at c0 c1 hfo hfoff
      have HFO := Lib.hid hfo
      have HFB : Hid (f.b.length ≤ 140737488355328) := Lib.hid (by rw [hf]; exact Nat.le_trans (HFL.out L[k] (List.getElem_mem hlt)) (by omega))
      obtain ⟨fk, fA, fc, fb⟩ := f
      obtain ⟨q, hq⟩ : ∃ q, q = fk.toNat := ⟨_, rfl⟩
      simp only at c0 c1
      rw [← hq] at c0
      have HFK := Lib.hid hq
      subst hA
      clear hcl hf hfo hfoff hq
      go_wp2_with fail
      have KT := Lib.hid (takeF_any fA fc fb (wr.alloc (.cells #[.int .u8 (q : Int), .slice fA fb.length fc] 113)) (HFO.out.alloc _).rd HFB.out HFO.out.cap HFO.out.cap_le)
      refine KT.out.mono ?_
      rintro e w4 hP
      have HP := Lib.hid hP
      have hb4 : Below (wr.alloc (.cells #[.int .u8 (q : Int), .slice fA fb.length fc] 113)).heap.size (wr.alloc (.cells #[.int .u8 (q : Int), .slice fA fb.length fc] 113)) w4 := hP.1
      have hbr : Below wr.heap.size wr w4 := (Below.alloc (Below.refl _ _) (Nat.le_refl _) _).trans (hb4.mono (by simp))
      have hbx : w4.heap[wr.heap.size]? = some (.cells #[.int .u8 (q : Int), .slice fA fb.length fc] 113) := (hb4.block _ (by simp)).trans (heap_alloc_new wr _)
      have d0 := cell_of_row w4 wr.heap.size 0 _ _ (0, 0) hbx
      simp only [List.getElem?_toArray, List.getElem?_cons_zero] at d0
      have HB4 := Lib.hid (HB.out.trans (hbr.mono HB.out.size))
      have HQ4 := Lib.hid (HQ.out.below hbr)
      have HBY4 := Lib.hid (HBY.out.below hbr)
      have HF4 := Lib.hid (HF.out.call hbr)
      have hsz4 := HB4.out.size
      have FIN : Hid (tells (lastN Q) ((fk, fb) :: (L.map Fv.pr).drop (k + 1)) = [] → BtsP w T (.returned (.slice QA k oc)) w4) := Lib.hid (fun he => BtsP.of HQK.out (by rw [HTQ.out, HD.out, he, List.append_nil]) HQ4.out HBY4.out HB4.out)
      have HBR := Lib.hid hbr
      clear hP hb4 hbr hbx KT
      rcases hv : Cod.take fb with _ | ⟨z, rest⟩
      · rw [hv] at HP
        obtain ⟨_, rfl⟩ := takenF_none HP.out
        have HV := Lib.hid hv
        clear hv HP
        go_wp2_with fail
        go_ret
        exact FIN.out (tells_none HV.out)
      · rw [hv] at HP
        obtain ⟨_, RA, rc, rfl, hrc, hrm, hrr, hrf⟩ := takenF_some HP.out
        have hz := (Cod.take_bound hv).1
        have HV := Lib.hid hv
        have HRR := Lib.hid hrr
        have HRF := Lib.hid hrf
        clear hv HP hrr hrf
        have hstop : Hid ((q ≠ 66 ∨ z < 1 ∨ 1099511627776 < z ∨ ((lastN Q).any fun y => z != y + 1) = true) → BtsP w T (.returned (.slice QA k oc)) w4) := Lib.hid (fun h => FIN.out (tells_stop HV.out (stop_if HFK.out h)))
        clear FIN
        by_cases h66 : q = 66
        · have e1 : ((q : Int) == 66) = true := by rw [h66]; rfl
          have e2 : ((q : Int) != 66) = false := by rw [h66]; rfl
          have H66 := Lib.hid h66
          clear h66
          by_cases h1 : (z : Int) < 1
          · go_wp2_with fail
            go_ret
            exact hstop.out (.inr (.inl (by omega)))
          · by_cases h2 : (1099511627776 : Int) < (z : Int)
            · go_wp2_with fail
              go_ret
              exact hstop.out (.inr (.inr (.inl (by omega))))
            · have ew : IntKind.i64.wrap (z : Int) = (z : Int) := by rw [IntKind.wrap_i64]; omega
              have HVB : Hid (Bys w4 w.heap.size (Q ++ [⟨z, RA, rc, rest⟩])) := Lib.hid (HBY4.out.snoc ⟨HRR.out, hrc, hrm, fun g hg => by
                rcases HRF.out g hg with h5 | ⟨h5, cs, fr, h6⟩
                · have := HFO.out.blk_ge g h5
                  exact ⟨by have := HB2.out.size; omega, Sto.Tag.keep (Sto.ownTag HFO.out h5) (HBR.out.block g this.2)⟩
                · exact ⟨by have := HB.out.size; simp at h5; omega, cs, fr, h6⟩⟩)
              have HLN : Hid ((Q ++ [(⟨z, RA, rc, rest⟩ : Bv)]).length = k + 1) := Lib.hid (by rw [List.length_append, HQK.out]; rfl)
              have HQN2 : Hid (∀ v ∈ Q ++ [(⟨z, RA, rc, rest⟩ : Bv)], v.n ≤ 1099511627776) := Lib.hid (fun v hv => by
                rcases List.mem_append.1 hv with hv | hv
                · exact HQN.out v hv
                · rw [List.mem_singleton] at hv; rw [hv]; simp only; omega)
              have HNX : Hid ((((lastN Q).any fun y => z != y + 1) = false) → T = (Q ++ [(⟨z, RA, rc, rest⟩ : Bv)]).map Bv.bt ++ tells (lastN (Q ++ [(⟨z, RA, rc, rest⟩ : Bv)])) ((L.map Fv.pr).drop (k + 1))) := Lib.hid (fun ha => by
                rw [HTQ.out, HD.out, tells_go HV.out (go_if HFK.out H66.out (by omega) (by omega) ha), lastN_snoc]
                simp [Bv.bt])
              by_cases hk0 : 0 < (k : Int)
              · obtain ⟨j, hj⟩ : ∃ j, k = j + 1 := ⟨k - 1, by omega⟩
                have hwj : IntKind.i64.wrap ((k : Int) - 1) = (j : Int) := by rw [IntKind.wrap_i64]; omega
                have hQl : j < Q.length := by rw [HQK.out]; omega
                obtain ⟨qb, qo, hqA, hqb, hqc⟩ := RdS.row (f := Bv.cells) (n := 2) (fun _ => rfl) (by omega) HQ4.out.rd (by omega)
                have q0 := hqc j hQl 0 _ rfl
                have hlast := lastN_at Q j hQl (by rw [HQK.out]; omega)
                have hyb := HQN.out Q[j] (List.getElem_mem hQl)
                obtain ⟨y, hy⟩ : ∃ y, y = (Q[j]).n := ⟨_, rfl⟩
                rw [← hy] at q0 hlast hyb
                rw [Nat.add_zero] at q0
                have HLA := Lib.hid hlast
                have HJ := Lib.hid hj
                have hyw : IntKind.i64.wrap ((y : Int) + 1) = (y : Int) + 1 := by rw [IntKind.wrap_i64]; omega
                have hjl : j < k := by omega
                subst hqA
                clear hqc hy hlast hQl hj
                by_cases hzy : z = y + 1
                · have f1 : ((z : Int) == (y : Int) + 1) = true := by simp; omega
                  have f2 : ((z : Int) != (y : Int) + 1) = false := by simp; omega
                  have HZY := Lib.hid hzy
                  clear hzy
                  go_wp2_with (at_builtin; refine wpList_append_s _ rfl _ _ btT rfl w.heap.size (some ⟨qb, qo, none⟩) oc Q (by rw [HQK.out]; rfl) (HQ4.out.alloc _) (w4.heap.size + 1) (some ⟨w4.heap.size, 0, none⟩) 1 1 [⟨z, RA, rc, rest⟩] rfl rfl (rd_bt_new w4 ⟨z, RA, rc, rest⟩) (by rw [HQK.out]; simp; omega) (by rw [HQK.out]; unfold maxLen; simp; omega) (by simp; omega) ?_; intro A3 c3 L3 w8 hl3 ho3 hg3 hat3)
                  have hl3 : L3 = Q ++ [⟨z, RA, rc, rest⟩] := hl3
                  subst hl3
                  have HAP := Lib.hid (told_app HQ4.out HVB.out HF4.out HB4.out hg3)
                  exact ⟨⟨k + 1, c3, A3, Q ++ [⟨z, RA, rc, rest⟩], hlt, by simp, by rw [HQK.out], HLN, HQN2, Lib.hid (HNX.out (by rw [HLA.out]; simp; exact HZY.out)), Lib.hid ho3, Lib.hid HAP.out.1, Lib.hid HAP.out.2.1, Lib.hid HAP.out.2.2⟩, by simp only [intOf]; omega⟩
                · have f1 : ((z : Int) == (y : Int) + 1) = false := by simp; omega
                  have f2 : ((z : Int) != (y : Int) + 1) = true := by simp; omega
                  have HZY := Lib.hid hzy
                  clear hzy
                  go_wp2_with fail
                  go_ret
                  exact hstop.out (.inr (.inr (.inr (by rw [HLA.out]; simp; exact HZY.out))))
              · have HK0 : Hid (((lastN Q).any fun y => z != y + 1) = false) := Lib.hid (by
                  have : Q = [] := List.eq_nil_of_length_eq_zero (by rw [HQK.out]; omega)
                  rw [this]; rfl)
                go_wp2_with (at_builtin; refine wpList_append_s _ rfl _ _ btT rfl w.heap.size QA oc Q (by rw [HQK.out]; rfl) (HQ4.out.alloc _) (w4.heap.size + 1) (some ⟨w4.heap.size, 0, none⟩) 1 1 [⟨z, RA, rc, rest⟩] rfl rfl (rd_bt_new w4 ⟨z, RA, rc, rest⟩) (by rw [HQK.out]; simp; omega) (by rw [HQK.out]; unfold maxLen; simp; omega) (by simp; omega) ?_; intro A3 c3 L3 w8 hl3 ho3 hg3 hat3)
                have hl3 : L3 = Q ++ [⟨z, RA, rc, rest⟩] := hl3
                subst hl3
                have HAP := Lib.hid (told_app HQ4.out HVB.out HF4.out HB4.out hg3)
                exact ⟨⟨k + 1, c3, A3, Q ++ [⟨z, RA, rc, rest⟩], hlt, by simp, by rw [HQK.out], HLN, HQN2, Lib.hid (HNX.out HK0.out), Lib.hid ho3, Lib.hid HAP.out.1, Lib.hid HAP.out.2.1, Lib.hid HAP.out.2.2⟩, by simp only [intOf]; omega⟩
        · have e1 : ((q : Int) == 66) = false := by simp; omega
          have e2 : ((q : Int) != 66) = true := by simp; omega
          have H66 := Lib.hid h66
          clear h66
          go_wp2_with fail
          go_ret
          exact hstop.out (.inl H66.out)
    · have hke : k = L.length := by omega
      have HTE : Hid (T = Q.map Bv.bt) := Lib.hid (by rw [HTQ.out, hke, List.drop_eq_nil_of_le (by rw [List.length_map]; omega)]; simp [tells])
      go_wp2_with fail
      go_ret
      exact BtsP.of HQK.out HTE.out HQ.out HBY.out HB.out
end Wal
end Go.Proofs.YtekbdedpombgcaaGreatDoor

namespace Go.Proofs.YtekbdedpombgcaaGreatDoor
open Go.RowKit Go.Maps

namespace Wal
theorem tells_len : ∀ (l : List (UInt8 × List UInt8)) (last : Option Nat), (tells last l).length ≤ l.length
  | [], _ => by simp [tells]
  | p :: r, last => by
    rcases hv : Cod.take p.2 with _ | ⟨z, rest⟩
    · rw [tells_none hv]; simp
    · by_cases h : p.1 ≠ 66 ∨ z < 1 ∨ 1099511627776 < z ∨ (last.any fun y => z != y + 1) = true
      · rw [tells_stop hv h]; simp
      · rw [tells_go hv h]
        have := tells_len r (some z)
        simp; omega
theorem tells_bd : ∀ (l : List (UInt8 × List UInt8)) (last : Option Nat) (x : Bt), x ∈ tells last l → 1 ≤ x.1 ∧ x.1 ≤ 1099511627776
  | [], _, x, hx => by simp [tells] at hx
  | p :: r, last, x, hx => by
    rcases hv : Cod.take p.2 with _ | ⟨z, rest⟩
    · rw [tells_none hv] at hx; cases hx
    · by_cases h : p.1 ≠ 66 ∨ z < 1 ∨ 1099511627776 < z ∨ (last.any fun y => z != y + 1) = true
      · rw [tells_stop hv h] at hx; cases hx
      · rw [tells_go hv h] at hx
        rcases List.mem_cons.1 hx with rfl | hx
        · simp only [not_or] at h
          simp only; omega
        · exact tells_bd r _ x hx
theorem scanL_len : ∀ (n : Nat) (b : List UInt8), (scanL n b).length ≤ n
  | 0, _ => by simp [scanL]
  | n + 1, b => by
    unfold scanL
    split
    · simp
    · rename_i r _
      have := scanL_len n r
      simp; omega
theorem told_len {w : World} {base g : Nat} {s : Sto.St} {m : Sto.Mem} (h : Sto.StAt w base g s m) (n : Nat) : (told s n).length ≤ 16777216 := by
  unfold told
  have h1 := tells_len (scan (Sto.read s (name n)).2) none
  have h2 := scanL_len (Sto.read s (name n)).2.length (Sto.read s (name n)).2
  have h3 := read_len h (name n)
  unfold scan at h1 ⊢
  omega
theorem told_bd (s : Sto.St) (n : Nat) (x : Bt) (hx : x ∈ told s n) : 1 ≤ x.1 ∧ x.1 ≤ 1099511627776 := tells_bd _ _ x hx
def gather (s : Sto.St) (l : List Nat) : List Bt := l.foldl (fun out n => join out (told s n)) []
theorem gather_snoc (s : Sto.St) (l : List Nat) (n : Nat) : gather s (l ++ [n]) = join (gather s l) (told s n) := by
  unfold gather; rw [List.foldl_append]; rfl
theorem join_mem {a b : List Bt} {x : Bt} (h : x ∈ join a b) : x ∈ a ∨ x ∈ b := by
  unfold join at h
  split at h
  · exact .inl h
  · exact .inr h
  · split at h
    · exact .inl h
    · split at h
      · exact .inr h
      · exact List.mem_append.1 h
theorem join_len (a b : List Bt) : (join a b).length ≤ a.length + b.length := by
  unfold join
  split
  · omega
  · omega
  · split
    · omega
    · split
      · omega
      · simp
theorem join_nil (a : List Bt) : join a [] = a := rfl
theorem join_first {b : List Bt} (h : b ≠ []) : join [] b = b := by
  cases b with
  | nil => exact absurd rfl h
  | cons x b => rfl
theorem join_old {a b : List Bt} {x z : Bt} (h1 : b.head? = some x) (h2 : a.getLast? = some z) (h : x.1 ≤ z.1) : join a b = a := by
  unfold join; rw [h1, h2]; simp only; rw [if_pos h]
theorem join_far {a b : List Bt} {x z : Bt} (h1 : b.head? = some x) (h2 : a.getLast? = some z) (h : ¬ x.1 ≤ z.1) (h3 : z.1 + 1 < x.1) : join a b = b := by
  unfold join; rw [h1, h2]; simp only; rw [if_neg h, if_pos h3]
theorem join_next {a b : List Bt} {x z : Bt} (h1 : b.head? = some x) (h2 : a.getLast? = some z) (h : ¬ x.1 ≤ z.1) (h3 : ¬ z.1 + 1 < x.1) : join a b = a ++ b := by
  unfold join; rw [h1, h2]; simp only; rw [if_neg h, if_neg h3]
theorem head_bt {l : List Bv} (h : 0 < l.length) : (l.map Bv.bt).head? = some (l[0].bt) := by
  cases l with
  | nil => simp at h
  | cons x l => rfl
theorem last_bt {l : List Bv} (k : Nat) (h : k < l.length) (hk : k + 1 = l.length) : (l.map Bv.bt).getLast? = some (l[k].bt) := by
  rw [List.getLast?_eq_getElem?, List.length_map, show l.length - 1 = k by omega, List.getElem?_map, List.getElem?_eq_getElem h]
  rfl
theorem zb_step {z t k : Nat} (h : z ≤ k * 16777216) (ht : t ≤ 16777216) : z + t ≤ (k + 1) * 16777216 := by rw [Nat.succ_mul]; exact Nat.add_le_add h ht
theorem zb_max {z k n : Nat} (h : z ≤ k * 16777216) (hk : k ≤ n) (hn : n ≤ 100000) : z ≤ 1677721600000 := Nat.le_trans h (Nat.le_trans (Nat.mul_le_mul_right _ (Nat.le_trans hk hn)) (by decide))
theorem there_app {w w4 w8 : World} {oc : Nat} {QA : Option Addr} {Q Q2 : List Bv} (hQ : OwnS Bv.cells 2 w4 w.heap.size 151 QA oc Q) (hB : Bys w4 w.heap.size Q2) (hb : Below w.heap.size w w4) (hg : w4.grownBy w8 (blk QA)) :
    Bys w8 w.heap.size Q2 ∧ Below w.heap.size w w8 :=
  ⟨hB.grown hg (fun k e _ => Sto.ownTagS hQ e) (by decide), hb.grown hg hb.size (fun g e => (hQ.blk_ge g e).1)⟩
set_option maxHeartbeats 2000000 in
set_option maxRecDepth 100000 in
theorem there_any {w : World} {base g : Nat} {s : Sto.St} {m : Sto.Mem} (h : Sto.StAt w base g s m) (ht : Tab w) (A : Option Addr) (c : Nat) (l : List Nat) (hr : RdS N1 1 w w.heap.size A l) (hn : ∀ n ∈ l, n < 1000000) (hl : l.length ≤ 100000) :
    Calls Tryz.prog 45 #[.pointer (some ⟨g, 0, none⟩), .slice A l.length c] w (BtsP w (gather s l)) := by
  have H := Lib.hid h
  have HT := Lib.hid ht
  have HR := Lib.hid hr
  have HN := Lib.hid hn
  clear h ht hr hn
  go_enter Tryz.func45, Tryz.ntmps45
  go_wp2_with fail
  go_loopw [5, 12] (fun o i wr => ∃ (k oc z : Nat) (QA : Option Addr) (Q : List Bv), k ≤ l.length ∧ i = .int .i64 (k : Int) ∧ o = .slice QA z oc ∧ Hid (Q.length = z) ∧ Hid (z ≤ k * 16777216) ∧ Hid (∀ v ∈ Q, v.n ≤ 1099511627776) ∧ Hid (Q.map Bv.bt = gather s (l.take k)) ∧ Hid (OwnS Bv.cells 2 wr w.heap.size 151 QA oc Q) ∧ Hid (Bys wr w.heap.size Q) ∧ Hid (Below w.heap.size w wr)) (fun _ i _ => l.length - (intOf i).toNat)
  case atStart => exact ⟨0, 0, 0, none, [], by omega, rfl, rfl, Lib.hid rfl, Lib.hid (Nat.zero_le _), Lib.hid (fun _ h => by cases h), Lib.hid rfl, Lib.hid (OwnS.nil _ _ _), Lib.hid (Bys.nil _ _), Lib.hid (Below.refl _ _)⟩
  case round =>
    obtain ⟨k, oc, z, QA, Q, hk, rfl, rfl, HQK, HZK, HQN, HGA, HQ, HBY, HB⟩ := hrel
    by_cases hlt : k < l.length
    · obtain ⟨b, off, hA, hb, hc⟩ := RdS.row (f := N1) (n := 1) (fun _ => rfl) (by omega) (HR.out.below HB.out (Nat.le_refl _)) (by omega)
      have c0 := hc k hlt 0 _ rfl
      rw [Nat.add_zero, Nat.mul_one] at c0
      have hnk := HN.out l[k] (List.getElem_mem hlt)
      have HGS : Hid (gather s (l.take (k + 1)) = join (Q.map Bv.bt) (told s l[k])) := Lib.hid (by rw [List.take_succ_eq_append_getElem hlt, gather_snoc, HGA.out])
      obtain ⟨n, hne⟩ : ∃ n, n = l[k] := ⟨_, rfl⟩
      rw [← hne] at c0 hnk HGS
      subst hA
      clear hc hne
      obtain ⟨T, hT⟩ : ∃ T, T = told s n := ⟨_, rfl⟩
      have KT := Lib.hid (told_any (H.out.below HB.out) (HT.out.below HB.out) n hnk T hT)
      have HTB : Hid (∀ x ∈ T, x.1 ≤ 1099511627776) := Lib.hid (fun x hx => (told_bd s n x (hT ▸ hx)).2)
      have hTl : T.length ≤ 16777216 := by rw [hT]; exact told_len H.out n
      rw [← hT] at HGS
      clear hT
      go_wp2_with fail
      refine KT.out.mono ?_
      rintro e w1 ⟨A2, c2, L2, rfl, hL2, hO2, hB2, hb1⟩
      obtain ⟨t, ht⟩ : ∃ t, t = T.length := ⟨_, rfl⟩
      have HL2 : Hid (L2.length = t) := Lib.hid (by rw [ht, ← hL2, List.length_map])
      have HN2 : Hid (∀ v ∈ L2, v.n ≤ 1099511627776) := Lib.hid (fun v hv => HTB.out v.bt (by rw [← hL2]; exact List.mem_map_of_mem hv))
      have HNN : Hid (∀ v ∈ Q ++ L2, v.n ≤ 1099511627776) := Lib.hid (fun v hv => (List.mem_append.1 hv).elim (HQN.out v) (HN2.out v))
      rw [← ht] at hTl ⊢
      have HTL := Lib.hid ht
      have HLT := Lib.hid hL2
      have HO2 := Lib.hid hO2
      have HB2 := Lib.hid hB2
      have HB1 := Lib.hid (HB.out.trans (hb1.mono HB.out.size))
      have HQ1 := Lib.hid (HQ.out.below hb1)
      have HBY1 := Lib.hid (HBY.out.below hb1)
      have hsz1 := HB1.out.size
      have hsz0 := HB.out.size
      clear ht hL2 hO2 hB2 hb1 KT
      have HZ1 : Hid (z ≤ (k + 1) * 16777216) := Lib.hid (zb_step (t := 0) HZK.out (Nat.zero_le _))
      have HZT : Hid (z + t ≤ (k + 1) * 16777216) := Lib.hid (zb_step HZK.out hTl)
      have HZ0 : Hid (0 + t ≤ (k + 1) * 16777216) := Lib.hid (zb_step (Nat.zero_le _) hTl)
      have hzm := zb_max HZK.out hk hl
      by_cases ht0 : t = 0
      · have e1 : ((t : Int) == 0) = true := by rw [ht0]; rfl
        have HTN : Hid (T = []) := Lib.hid (List.eq_nil_of_length_eq_zero (by rw [← HTL.out, ht0]))
        have HT0 := Lib.hid ht0
        clear ht0
        go_wp2_with fail
        exact ⟨⟨k + 1, oc, z, QA, Q, hlt, by simp, rfl, HQK, HZ1, HQN, Lib.hid (by rw [HGS.out, HTN.out, join_nil]), HQ1, HBY1, HB1⟩, by simp only [intOf]; omega⟩
      · have e1 : ((t : Int) == 0) = false := by simp; omega
        have ht1 : 0 < t := by omega
        clear ht0
        by_cases hz0 : 0 < (z : Int)
        · obtain ⟨j, hj⟩ : ∃ j, z = j + 1 := ⟨z - 1, by omega⟩
          have hwj : IntKind.i64.wrap ((z : Int) - 1) = (j : Int) := by rw [IntKind.wrap_i64]; omega
          have hQl : j < Q.length := by rw [HQK.out]; omega
          obtain ⟨qb, qo, hqA, hqb, hqc⟩ := RdS.row (f := Bv.cells) (n := 2) (fun _ => rfl) (by omega) HQ1.out.rd (by omega)
          have q0 := hqc j hQl 0 _ rfl
          have hL1 : 0 < L2.length := by rw [HL2.out]; exact ht1
          obtain ⟨pb, po, hpA, hpb, hpc⟩ := RdS.row (f := Bv.cells) (n := 2) (fun _ => rfl) (by omega) HO2.out.rd hL1
          have p0 := hpc 0 hL1 0 _ rfl
          have hla := last_bt j hQl (by rw [HQK.out]; omega)
          have hhe := head_bt hL1
          have hyb := HQN.out Q[j] (List.getElem_mem hQl)
          have hxb := HN2.out L2[0] (List.getElem_mem hL1)
          obtain ⟨y, hy⟩ : ∃ y, y = (Q[j]).n := ⟨_, rfl⟩
          obtain ⟨x, hx⟩ : ∃ x, x = (L2[0]).n := ⟨_, rfl⟩
          rw [← hy] at q0 hyb
          rw [← hx] at p0 hxb
          rw [Nat.add_zero] at q0
          rw [Nat.zero_mul, Nat.add_zero] at p0
          have HLA : Hid (∃ b, (Q.map Bv.bt).getLast? = some (y, b)) := Lib.hid ⟨_, by rw [hla, hy]; rfl⟩
          have HHE : Hid (∃ b, (L2.map Bv.bt).head? = some (x, b)) := Lib.hid ⟨_, by rw [hhe, hx]; rfl⟩
          have HJ := Lib.hid hj
          have hyw : IntKind.i64.wrap ((y : Int) + 1) = (y : Int) + 1 := by rw [IntKind.wrap_i64]; omega
          have hjl : j < z := by omega
          subst hqA hpA
          rw [← HLT.out] at HGS
          clear hqc hpc hy hx hla hhe hQl hL1 hj
          obtain ⟨yb, hyb2⟩ := HLA.out
          obtain ⟨xb, hxb2⟩ := HHE.out
          have HL9 := Lib.hid hyb2
          have HH9 := Lib.hid hxb2
          clear hyb2 hxb2
          by_cases h1 : (x : Int) ≤ (y : Int)
          · go_wp2_with fail
            exact ⟨⟨k + 1, oc, z, _, Q, hlt, by simp, rfl, HQK, HZ1, HQN, Lib.hid (by rw [HGS.out, join_old HH9.out HL9.out (by simp only; omega)]), HQ1, HBY1, HB1⟩, by simp only [intOf]; omega⟩
          · by_cases h2 : (y : Int) + 1 < (x : Int)
            · go_wp2_with (at_builtin; refine wpList_append_s _ rfl _ _ btT rfl w.heap.size none 0 ([] : List Bv) (by rfl) (OwnS.nil _ _ _) w1.heap.size (some ⟨pb, po, none⟩) t c2 L2 (by rfl) HL2.out.symm HO2.out.rd (by rw [List.length_nil, HL2.out]; omega) (by rw [List.length_nil, HL2.out]; unfold maxLen; omega) hsz1 ?_; intro A3 c3 L3 w8 hl3 ho3 hg3 hat3)
              have hl3 : L3 = ([] : List Bv) ++ L2 := hl3
              subst hl3
              have HAP := Lib.hid (there_app (OwnS.nil _ _ _) (HB2.out.mono hsz0) HB1.out hg3)
              exact ⟨⟨k + 1, c3, 0 + t, A3, ([] : List Bv) ++ L3, hlt, by simp, by first | rw [HL2.out, Nat.zero_add] | simp [HL2.out], Lib.hid (by rw [List.length_append, List.length_nil, HL2.out]), HZ0, HN2, Lib.hid (by rw [HGS.out, List.map_append, List.map_nil, List.nil_append]; exact (join_far HH9.out HL9.out (by simp only; omega) (by simp only; omega)).symm), Lib.hid ho3, Lib.hid HAP.out.1, Lib.hid HAP.out.2⟩, by simp only [intOf]; omega⟩
            · go_wp2_with (at_builtin; refine wpList_append_s _ rfl _ _ btT rfl w.heap.size (some ⟨qb, qo, none⟩) oc Q (by rw [HQK.out]; rfl) HQ1.out w1.heap.size (some ⟨pb, po, none⟩) t c2 L2 (by rfl) HL2.out.symm HO2.out.rd (by rw [HQK.out, HL2.out]; omega) (by rw [HQK.out, HL2.out]; unfold maxLen; omega) hsz1 ?_; intro A3 c3 L3 w8 hl3 ho3 hg3 hat3)
              have hl3 : L3 = Q ++ L2 := hl3
              subst hl3
              have HAP := Lib.hid (there_app HQ1.out (HBY1.out.app (HB2.out.mono hsz0)) HB1.out hg3)
              exact ⟨⟨k + 1, c3, z + t, A3, Q ++ L2, hlt, by simp, by rw [HQK.out, HL2.out], Lib.hid (by rw [List.length_append, HQK.out, HL2.out]), HZT, HNN, Lib.hid (by rw [HGS.out, List.map_append]; exact (join_next HH9.out HL9.out (by simp only; omega) (by simp only; omega)).symm), Lib.hid ho3, Lib.hid HAP.out.1, Lib.hid HAP.out.2⟩, by simp only [intOf]; omega⟩
        · have HQE : Hid (Q = []) := Lib.hid (List.eq_nil_of_length_eq_zero (by rw [HQK.out]; omega))
          have HTE : Hid (T ≠ []) := Lib.hid (fun e => by have := HTL.out; rw [e] at this; simp at this; omega)
          go_wp2_with (at_builtin; refine wpList_append_s _ rfl _ _ btT rfl w.heap.size QA oc Q (by rw [HQK.out]; rfl) HQ1.out w1.heap.size A2 t c2 L2 (by rfl) HL2.out.symm HO2.out.rd (by rw [HQK.out, HL2.out]; omega) (by rw [HQK.out, HL2.out]; unfold maxLen; omega) hsz1 ?_; intro A3 c3 L3 w8 hl3 ho3 hg3 hat3)
          have hl3 : L3 = Q ++ L2 := hl3
          subst hl3
          have HAP := Lib.hid (there_app HQ1.out (HBY1.out.app (HB2.out.mono hsz0)) HB1.out hg3)
          exact ⟨⟨k + 1, c3, z + t, A3, Q ++ L2, hlt, by simp, by rw [HQK.out, HL2.out], Lib.hid (by rw [List.length_append, HQK.out, HL2.out]), HZT, HNN, Lib.hid (by rw [HGS.out, List.map_append, HLT.out]; rw [HQE.out, List.map_nil, List.nil_append]; exact (join_first HTE.out).symm), Lib.hid ho3, Lib.hid HAP.out.1, Lib.hid HAP.out.2⟩, by simp only [intOf]; omega⟩
    · have hke : k = l.length := by omega
      have HGE : Hid (gather s l = Q.map Bv.bt) := Lib.hid (by rw [HGA.out, hke, List.take_length])
      go_wp2_with fail
      go_ret
      exact BtsP.of HQK.out HGE.out HQ.out HBY.out HB.out
end Wal
end Go.Proofs.YtekbdedpombgcaaGreatDoor

namespace Go.Proofs.YtekbdedpombgcaaGreatDoor
open Go.RowKit Go.Maps

namespace Wal
/-- A function value: what is bound ahead, what is captured. -/
structure Fc where
  f : FuncId
  pre : List Value
  cb : List Value
def Fc.val (v : Fc) : Value := .func (.func v.f) v.pre.toArray v.cb.toArray
def Fc.args (v : Fc) : Array Value := (v.pre ++ v.cb).toArray
def F1 (v : Fc) : List Value := [v.val]
set_option maxHeartbeats 2000000 in
set_option maxRecDepth 100000 in
theorem all_any (A : Option Addr) (c : Nat) (vs : List Fc) (w : World) (I : Nat → World → Prop) (F : Int → World → Prop)
    (hen : ∀ v ∈ vs, ∀ args w, (callFunc v.f args).run Tryz.prog w = .ok (.enter v.f args) w) (hvl : vs.length ≤ 1000000)
    (hI : I 0 w) (hrd : ∀ i W, i ≤ vs.length → I i W → RdS F1 1 W W.heap.size A vs)
    (hst : ∀ i (hi : i < vs.length) W, I i W → Calls Tryz.prog vs[i].f vs[i].args W (fun e W' => ∃ x : Int, e = .returned (.int .i64 x) ∧ (x = 0 → I (i + 1) W') ∧ (x ≠ 0 → F x W'))) :
    Calls Tryz.prog 102 #[.slice A vs.length c] w fun e w' => ∃ x : Int, e = .returned (.int .i64 x) ∧ (x = 0 → I vs.length w') ∧ (x ≠ 0 → F x w') := by
  have HEN := Lib.hid hen
  have HRD := Lib.hid hrd
  have HST := Lib.hid hst
  have HI := Lib.hid hI
  clear hen hI hrd hst
  go_enter Tryz.func102, Tryz.ntmps102
  go_wp2_with fail
  go_loopw [8] (fun i wr => ∃ k : Nat, k ≤ vs.length ∧ i = .int .i64 (k : Int) ∧ Hid (I k wr)) (fun i _ => vs.length - (intOf i).toNat)
  case atStart => exact ⟨0, by omega, rfl, HI⟩
  case round =>
    obtain ⟨k, hk, rfl, HIK⟩ := hrel
    by_cases hlt : k < vs.length
    · obtain ⟨b, off, hA, hb, hc⟩ := RdS.row (f := F1) (n := 1) (fun _ => rfl) (by omega) (HRD.out k wr hk HIK.out) (by omega)
      have c0 := hc k hlt 0 _ rfl
      rw [Nat.add_zero, Nat.mul_one] at c0
      have KS := Lib.hid (HST.out k hlt wr HIK.out)
      have henk := HEN.out vs[k] (List.getElem_mem hlt)
      obtain ⟨v, hv⟩ : ∃ v, v = vs[k] := ⟨_, rfl⟩
      rw [← hv] at c0 KS henk
      obtain ⟨K, pre, cb⟩ := v
      simp only [Fc.val, Fc.args] at c0 KS henk
      subst hA
      clear hc hv
      go_wp2_with fail
      refine KS.out.mono ?_
      rintro e w1 ⟨x, rfl, h0, h1⟩
      by_cases hx : x = 0
      · have e1 : (x == 0) = true := by rw [hx]; rfl
        have e2 : (x != 0) = false := by rw [hx]; rfl
        have HI1 := Lib.hid (h0 hx)
        clear hx h0 h1
        go_wp2_with fail
        exact ⟨⟨k + 1, hlt, by simp, HI1⟩, by simp only [intOf]; omega⟩
      · have e1 : (x == 0) = false := by simpa using hx
        have e2 : (x != 0) = true := by simpa using hx
        have HF1 : Hid (∃ y : Int, Ending.returned (.int .i64 x) = .returned (.int .i64 y) ∧ (y = 0 → I vs.length w1) ∧ (y ≠ 0 → F y w1)) := Lib.hid ⟨x, rfl, fun h => absurd h hx, h1⟩
        clear hx h0 h1
        go_wp2_with fail
        go_ret
        exact HF1.out
    · have hke : k = vs.length := by omega
      subst hke
      go_wp2_with fail
      go_ret
      exact ⟨0, rfl, fun _ => HIK.out, fun h => absurd rfl h⟩
end Wal
end Go.Proofs.YtekbdedpombgcaaGreatDoor

namespace Go.Proofs.YtekbdedpombgcaaGreatDoor
open Go.RowKit Go.Maps

namespace Wal
/-- What holds of a log. -/
structure LgOk (l : Lg) : Prop where
  limit : l.limit ≤ 65536
  last : l.last ≤ 999999
  size : l.size ≤ 20000000
  next : 1 ≤ l.next ∧ l.next ≤ 1099511627777
  wait : l.waiting.length < l.next
  one : ∀ b ∈ l.waiting, b.1 ≤ 1099511627776 ∧ b.2.length ≤ 60000
/-- Where a log lies. -/
structure Lm where
  lb : Nat
  WA : Option Addr
  wc : Nat
  W : List Bv
def lgObj (g : Nat) (l : Lg) (x : Lm) : Obj := .cells #[.pointer (some ⟨g, 0, none⟩), .int .i64 (l.limit : Int), .int .i64 (l.last : Int), .int .i64 (l.size : Int), .int .i64 (l.next : Int), .slice x.WA l.waiting.length x.wc, .bool l.broken] 146
/-- The batches that wait. -/
structure WtR (w : World) (base g : Nat) (m : Sto.Mem) (wt : List Bt) (x : Lm) : Prop where
  row : OwnS Bv.cells 2 w base 151 x.WA x.wc x.W
  bt : x.W.map Bv.bt = wt
  bys : Bys w base x.W
  apart : ∀ v ∈ x.W, Sto.Apart w g m v.A
structure LS (w : World) (base g : Nat) (s : Sto.St) (m : Sto.Mem) (l : Lg) (x : Lm) : Prop where
  st : Sto.StAt w base g s m
  box : w.heap[x.lb]? = some (lgObj g l x)
  lbb : base ≤ x.lb
  wt : WtR w base g m l.waiting x
  ok : LgOk l
/-- A block that a log's operation may turn. -/
def LMut (g : Nat) (m : Sto.Mem) (x : Lm) (k : Nat) : Prop := Sto.Mut g m k ∨ k = x.lb ∨ blk x.WA = some k
structure LAft (w w' : World) (g : Nat) (m : Sto.Mem) (x : Lm) (m' : Sto.Mem) (x' : Lm) : Prop where
  os : w'.os = w.os
  tape : w'.tape = w.tape
  output : w'.output = w.output
  size : w.heap.size ≤ w'.heap.size
  block : ∀ k, k < w.heap.size → ¬ LMut g m x k → w'.heap[k]? = w.heap[k]?
  turn : ∀ k, k < w.heap.size → LMut g m' x' k → LMut g m x k
  lb : x'.lb = x.lb
section
variable {w w' w1 : World} {base g : Nat} {s s' : Sto.St} {m m' m1 : Sto.Mem} {l l' : Lg} {x x' x1 : Lm}
theorem LAft.trans (h1 : LAft w w1 g m x m1 x1) (h2 : LAft w1 w' g m1 x1 m' x') : LAft w w' g m x m' x' :=
  ⟨h2.os.trans h1.os, h2.tape.trans h1.tape, h2.output.trans h1.output, Nat.le_trans h1.size h2.size, fun k hk hn => (h2.block k (Nat.lt_of_lt_of_le hk h1.size) (fun hm => hn (h1.turn k hk hm))).trans (h1.block k hk hn),
    fun k hk hm => h1.turn k hk (h2.turn k (Nat.lt_of_lt_of_le hk h1.size) hm), h2.lb.trans h1.lb⟩
theorem LAft.of_below (hb : Below w.heap.size w w') : LAft w w' g m x m x := ⟨hb.os, hb.tape, hb.output, hb.size, fun k hk _ => hb.block k hk, fun _ _ h => h, rfl⟩
theorem LAft.refl (w : World) (g : Nat) (m : Sto.Mem) (x : Lm) : LAft w w g m x m x := LAft.of_below (Below.refl _ _)
theorem LAft.of_aft (h : Sto.Aft w w' g m m') : LAft w w' g m x m' x := ⟨h.os, h.tape, h.output, h.size, fun k hk hn => h.block k hk (fun e => hn (.inl e)), fun k hk hm => hm.elim (fun e => .inl (h.turn k hk e)) .inr, rfl⟩
theorem LS.lb_tag (h : LS w base g s m l x) : Sto.Tag w x.lb 146 := ⟨_, _, h.box⟩
theorem LS.lmut_ge (h : LS w base g s m l x) {k : Nat} (hk : LMut g m x k) : base ≤ k ∧ k < w.heap.size := by
  rcases hk with e | e | e
  · exact h.st.r.mut_ge e
  · rw [e]; exact ⟨h.lbb, h.lb_tag.lt⟩
  · exact h.wt.row.blk_ge k e
theorem LAft.below (h : LAft w w' g m x m' x') (hs : LS w base g s m l x) : Below base w w' :=
  ⟨h.os, h.tape, h.output, h.size, fun k hk => by
    rcases Nat.lt_or_ge k w.heap.size with h1 | h1
    · exact h.block k h1 (fun hm => by have := (hs.lmut_ge hm).1; omega)
    · have := hs.st.r.gb; have := hs.st.r.gt.lt; omega⟩
theorem LS.lb_not (h : LS w base g s m l x) : ¬ Sto.Foot w g m x.lb := h.st.not_foot h.lb_tag (by decide) (by decide) (by decide) (by decide) (by decide) (fun e => absurd e (by decide))
theorem not_foot_bt (h : Sto.StAt w base g s m) {k : Nat} (ht : Sto.Tag w k 151) : ¬ Sto.Foot w g m k := h.not_foot ht (by decide) (by decide) (by decide) (by decide) (by decide) (fun e => absurd e (by decide))
theorem WtR.keep {wt : List Bt} (h : WtR w base g m wt x) (hs : w.heap.size ≤ w'.heap.size) (hk : ∀ k, blk x.WA = some k ∨ (∃ v ∈ x.W, blk v.A = some k) → w'.heap[k]? = w.heap[k]?) (ht : ∀ k, k < w.heap.size → Sto.Mut g m' k → Sto.Mut g m k) : WtR w' base g m' wt x :=
  ⟨h.row.keep (fun k e => hk k (.inl e)), h.bt, h.bys.keep hs (fun v hv k e => hk k (.inr ⟨v, hv, e⟩)), fun v hv k e => ⟨Nat.lt_of_lt_of_le (h.apart v hv k e).1 hs, fun hm => (h.apart v hv k e).2 (ht k (h.apart v hv k e).1 hm)⟩⟩
/-- An operation of the store. -/
theorem LS.store (h : LS w base g s m l x) (hst : Sto.StAt w' base g s' m') (ha : Sto.Aft w w' g m m') : LS w' base g s' m' l x :=
  ⟨hst, (ha.block x.lb h.lb_tag.lt (fun e => h.lb_not (.inl e))).trans h.box, h.lbb, h.wt.keep ha.size (fun k e => by
    rcases e with e | ⟨v, hv, e⟩
    · have t := Sto.ownTagS h.wt.row e
      exact ha.block k t.lt (fun e2 => not_foot_bt h.st t (.inl e2))
    · obtain ⟨h1, h2⟩ := h.wt.apart v hv k e
      exact ha.block k h1 h2) ha.turn, h.ok⟩
theorem LS.below (h : LS w base g s m l x) (hb : Below w.heap.size w w') : LS w' base g s m l x := h.store (h.st.below hb) (Sto.Aft.of_below hb)
/-- The log's own block is turned, what waits stays. -/
theorem LS.turn (h : LS w base g s m l x) (ho : w'.os = w.os) (ht : w'.tape = w.tape) (hu : w'.output = w.output) (hs : w.heap.size ≤ w'.heap.size) (hk : ∀ k, k < w.heap.size → k ≠ x.lb → w'.heap[k]? = w.heap[k]?) (hb : w'.heap[x.lb]? = some (lgObj g l' x)) (hw : l'.waiting = l.waiting) (hok : LgOk l') :
    LS w' base g s m l' x ∧ LAft w w' g m x m x := by
  have hg : ∀ k, k < w.heap.size → Sto.Foot w g m k → w'.heap[k]? = w.heap[k]? := fun k h1 h2 => hk k h1 (fun e => h.lb_not (e ▸ h2))
  refine ⟨⟨h.st.keep hs hg, hb, h.lbb, ?_, hok⟩, ⟨ho, ht, hu, hs, fun k h1 h2 => hk k h1 (fun e => h2 (.inr (.inl e))), fun _ _ h => h, rfl⟩⟩
  rw [hw]
  refine h.wt.keep hs (fun k e => ?_) (fun _ _ h => h)
  rcases e with e | ⟨v, hv, e⟩
  · have t := Sto.ownTagS h.wt.row e
    exact hk k t.lt (t.ne h.lb_tag (by decide))
  · obtain ⟨_, _, _, h4⟩ := h.wt.bys.ok v hv
    have t := (h4 k e).2
    exact hk k t.lt (t.ne h.lb_tag (by decide))
/-- What waits is gone. -/
theorem LS.clear (h : LS w base g s m l x) (ho : w'.os = w.os) (ht : w'.tape = w.tape) (hu : w'.output = w.output) (hs : w.heap.size ≤ w'.heap.size) (hk : ∀ k, k < w.heap.size → k ≠ x.lb → w'.heap[k]? = w.heap[k]?) (hb : w'.heap[x.lb]? = some (lgObj g l' ⟨x.lb, none, 0, []⟩)) (hw : l'.waiting = []) (hok : LgOk l') :
    LS w' base g s m l' ⟨x.lb, none, 0, []⟩ ∧ LAft w w' g m x m ⟨x.lb, none, 0, []⟩ := by
  have hg : ∀ k, k < w.heap.size → Sto.Foot w g m k → w'.heap[k]? = w.heap[k]? := fun k h1 h2 => hk k h1 (fun e => h.lb_not (e ▸ h2))
  refine ⟨⟨h.st.keep hs hg, hb, h.lbb, ⟨OwnS.nil _ _ _, hw.symm, Bys.nil _ _, fun v hv => (by cases hv)⟩, hok⟩, ⟨ho, ht, hu, hs, fun k h1 h2 => hk k h1 (fun e => h2 (.inr (.inl e))), fun k _ h => ?_, rfl⟩⟩
  rcases h with h | h | h
  · exact .inl h
  · exact .inr (.inl h)
  · cases h
/-- One more waits: the row of what waits grows, then the log's own block is turned. -/
theorem LS.more (h : LS w base g s m l x) {A : Option Addr} {c : Nat} {v : Bv} (hg : w.grownBy w1 (blk x.WA)) (ho : OwnS Bv.cells 2 w1 base 151 A c (x.W ++ [v])) (hat : blk A = blk x.WA ∨ blk A = some w.heap.size)
    (hv : RdB w w.heap.size v.A v.b ∧ v.b.length ≤ v.c ∧ v.c ≤ 9223372036854775807 ∧ ∀ g, blk v.A = some g → base ≤ g ∧ Sto.Tag w g 5) (hp : Sto.Apart w g m v.A)
    (hz : w'.os = w1.os ∧ w'.tape = w1.tape ∧ w'.output = w1.output ∧ w1.heap.size ≤ w'.heap.size) (hk : ∀ k, k < w1.heap.size → k ≠ x.lb → w'.heap[k]? = w1.heap[k]?) (hb : w'.heap[x.lb]? = some (lgObj g l' ⟨x.lb, A, c, x.W ++ [v]⟩)) (hw : l'.waiting = l.waiting ++ [v.bt]) (hok : LgOk l') :
    LS w' base g s m l' ⟨x.lb, A, c, x.W ++ [v]⟩ ∧ LAft w w' g m x m ⟨x.lb, A, c, x.W ++ [v]⟩ := by
  have hs : w.heap.size ≤ w'.heap.size := Nat.le_trans hg.size hz.2.2.2
  have keep : ∀ k, k < w.heap.size → k ≠ x.lb → blk x.WA ≠ some k → w'.heap[k]? = w.heap[k]? := fun k h1 h2 h3 => (hk k (Nat.lt_of_lt_of_le h1 hg.size) h2).trans (hg.block k h1 (fun e => h3 e.symm))
  have hrow : ∀ k, blk x.WA = some k → Sto.Tag w k 151 := fun k e => Sto.ownTagS h.wt.row e
  have hf : ∀ k, k < w.heap.size → Sto.Foot w g m k → w'.heap[k]? = w.heap[k]? := fun k h1 h2 => keep k h1 (fun e => h.lb_not (e ▸ h2)) (fun e => not_foot_bt h.st (hrow k e) h2)
  have hy : ∀ k, Sto.Tag w k 5 → w'.heap[k]? = w.heap[k]? := fun k t => keep k t.lt (t.ne h.lb_tag (by decide)) (fun e => (hrow k e).ne t (by decide) rfl)
  have hlb1 : Sto.Tag w1 x.lb 146 := h.lb_tag.keep (hg.block _ h.lb_tag.lt (fun e => (hrow _ e.symm).ne h.lb_tag (by decide) rfl))
  refine ⟨⟨h.st.keep hs hf, hb, h.lbb, ⟨ho.keep (fun k e => hk k (ho.blk_ge k e).2 ((Sto.ownTagS ho e).ne hlb1 (by decide))), ?_, ?_, fun u hu k e => ?_⟩, hok⟩, ⟨hz.1.trans hg.os, hz.2.1.trans hg.tape, hz.2.2.1.trans hg.output, hs, fun k h1 h2 => keep k h1 (fun e => h2 (.inr (.inl e))) (fun e => h2 (.inr (.inr e))), fun k h1 h2 => ?_, rfl⟩⟩
  · rw [hw, List.map_append, h.wt.bt]; rfl
  · have h1 : Bys w base (x.W ++ [v]) := h.wt.bys.snoc hv
    exact h1.keep hs (fun u hu k e => hy k ((h1.ok u hu).2.2.2 k e).2)
  · rcases List.mem_append.1 hu with hu | hu
    · exact ⟨Nat.lt_of_lt_of_le (h.wt.apart u hu k e).1 hs, (h.wt.apart u hu k e).2⟩
    · rw [List.mem_singleton] at hu
      rw [hu] at e
      exact ⟨Nat.lt_of_lt_of_le (hp k e).1 hs, (hp k e).2⟩
  · rcases h2 with h2 | h2 | h2
    · exact .inl h2
    · exact .inr (.inl h2)
    · rcases hat with h3 | h3
      · exact .inr (.inr (h3.symm.trans h2))
      · rw [h3] at h2; injection h2 with h2; omega
theorem LS.cells (h : LS w base g s m l x) : w.cell? ⟨x.lb, 0, none⟩ = some (.pointer (some ⟨g, 0, none⟩)) ∧ w.cell? ⟨x.lb, 1, none⟩ = some (.int .i64 (l.limit : Int)) ∧ w.cell? ⟨x.lb, 2, none⟩ = some (.int .i64 (l.last : Int)) ∧ w.cell? ⟨x.lb, 3, none⟩ = some (.int .i64 (l.size : Int)) ∧ w.cell? ⟨x.lb, 4, none⟩ = some (.int .i64 (l.next : Int)) ∧ w.cell? ⟨x.lb, 5, none⟩ = some (.slice x.WA l.waiting.length x.wc) ∧ w.cell? ⟨x.lb, 6, none⟩ = some (.bool l.broken) := by
  have hb := h.box
  unfold lgObj at hb
  refine ⟨?_, ?_, ?_, ?_, ?_, ?_, ?_⟩
  all_goals (rw [cell_of_row w x.lb _ _ _ (0, 0) hb]; rfl)
theorem LS.frozen (h : LS w base g s m l x) (j : Nat) : w.frozen? ⟨x.lb, j, none⟩ = false := frozen_of_row w x.lb j _ _ h.box
theorem heap_setL {b : Nat} {x0 x1 x2 x3 x4 x5 x6 : Value} {T : TypeId} (h : w.heap[b]? = some (.cells #[x0, x1, x2, x3, x4, x5, x6] T)) (v : Value) :
    (w.setCell ⟨b, 2, none⟩ v).heap[b]? = some (.cells #[x0, x1, v, x3, x4, x5, x6] T) ∧ (w.setCell ⟨b, 3, none⟩ v).heap[b]? = some (.cells #[x0, x1, x2, v, x4, x5, x6] T) ∧ (w.setCell ⟨b, 4, none⟩ v).heap[b]? = some (.cells #[x0, x1, x2, x3, v, x5, x6] T) ∧
    (w.setCell ⟨b, 5, none⟩ v).heap[b]? = some (.cells #[x0, x1, x2, x3, x4, v, x6] T) ∧ (w.setCell ⟨b, 6, none⟩ v).heap[b]? = some (.cells #[x0, x1, x2, x3, x4, x5, v] T) := by
  refine ⟨?_, ?_, ?_, ?_, ?_⟩
  · have := heap_setCell_same w b 2 _ T v h; simpa using this
  · have := heap_setCell_same w b 3 _ T v h; simpa using this
  · have := heap_setCell_same w b 4 _ T v h; simpa using this
  · have := heap_setCell_same w b 5 _ T v h; simpa using this
  · have := heap_setCell_same w b 6 _ T v h; simpa using this
theorem rd_fcs {b : Nat} {vs : List Fc} {T : TypeId} {fr : Nat × Nat} (h : w.heap[b]? = some (.cells (vs.flatMap F1).toArray T fr)) : RdS F1 1 w w.heap.size (some ⟨b, 0, none⟩) vs := by
  refine RdS.of (f := F1) (n := 1) (l := vs) (fun _ => rfl) b 0 (Array.getElem?_eq_some_iff.1 h).1 (fun k hk j u hj => ?_)
  have hj' : (F1 vs[k])[j]? = some u := hj
  have hj1 : j < 1 := by
    rcases Nat.lt_or_ge j 1 with h1 | h1
    · exact h1
    · rw [List.getElem?_eq_none (by simp [F1]; omega)] at hj'; cases hj'
  rw [cell_of_row w b _ _ _ fr h, List.getElem?_toArray, Nat.zero_add, fm_get (f := F1) (n := 1) (fun _ => rfl) vs k hk j hj1]
  exact hj'
/-- What an operation of a log comes to. -/
def LopP (w : World) (base g : Nat) (m : Sto.Mem) (x : Lm) (c : Int) (s' : Sto.St) (l' : Lg) (x' : Lm) (e : Ending) (w' : World) : Prop := e = .returned (.int .i64 c) ∧ ∃ m', LS w' base g s' m' l' x' ∧ LAft w w' g m x m' x'
end
end Wal
end Go.Proofs.YtekbdedpombgcaaGreatDoor
