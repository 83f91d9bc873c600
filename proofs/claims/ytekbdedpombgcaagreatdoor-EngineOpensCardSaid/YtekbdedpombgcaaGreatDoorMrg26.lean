/- Parts of the proof, one behind the other: Contracts of the store: Names.; Contracts of the store: Crash.; Bytes of one's own; what operations leave. -/
import Derived.Test.YtekbdedpombgcaaGreatDoorMrg24
import Derived.Test.YtekbdedpombgcaaGreatDoorMrg25
import Derived.Sort.KeysCollected
import Derived.Test.YtekbdedpombgcaaGreatDoorMrg22
import Derived.Test.YtekbdedpombgcaaGreatDoorMrg21
import Derived.Test.YtekbdedpombgcaaGreatDoorMrg03
import Derived.Test.YtekbdedpombgcaaGreatDoorMrg07
import Derived.Deep.DeepCutAuto
namespace Go.Proofs.YtekbdedpombgcaaGreatDoor
open Go.RowKit Go.Maps Go.Sort Go.Shelf

namespace Sto
theorem sortsIn (m : Nat) : AnyZ.SortsIn Tryz.prog Tryz.sortedA_ren Fence.wide m :=
  ⟨fun blk off cap ss W hH hblk hsz => callsIn_wide.2 (AnyM.slices_Sort_string Tryz.sortA blk off cap ss W hH hblk hsz),
   fun p cap W => callsIn_wide.2 (AnyM.slices_Sort_string_none Tryz.sortA p cap W)⟩
theorem bb_lt : ∀ a b : List UInt8, bytesBefore a b = true → List.Lex (· < ·) a b
  | [], [], h => by simp [bytesBefore] at h
  | [], _ :: _, _ => .nil
  | _ :: _, [], h => by simp [bytesBefore] at h
  | a :: r, b :: s, h => by
    simp only [bytesBefore, Bool.or_eq_true, Bool.and_eq_true, decide_eq_true_eq, beq_iff_eq] at h
    rcases h with h | ⟨rfl, h⟩
    · exact .rel h
    · exact .cons (bb_lt r s h)
theorem bb_le (a b : List UInt8) (h : bytesBefore a b = true) : a ≤ b := List.le_of_lt (bb_lt a b h)
theorem flat_enc : ∀ l : List Str, l.flatMap S1 = l.map encStr
  | [] => rfl
  | a :: l => by rw [List.flatMap_cons, List.map_cons, flat_enc l]; rfl
/-- Names that rise are sorted. -/
theorem sorted_names {l : Dir} (h : Srt l) : (l.map (·.1)).mergeSort leB = l.map (·.1) := by
  refine List.mergeSort_of_pairwise ?_
  rw [List.pairwise_map]
  refine List.Pairwise.imp (fun {p q} hpq => ?_) h
  exact decide_eq_true (bb_le _ _ hpq)
section
variable {w w' : World} {base g : Nat} {s : St} {m : Mem}
set_option maxHeartbeats 1000000 in
set_option maxRecDepth 100000 in
theorem names_any (h : StAt w base g s m) (hf : s.files.length ≤ 1000000) : Calls Tryz.prog 26 #[.pointer (some ⟨g, 0, none⟩)] w fun e w' => ∃ A c, e = .returned (.slice A (names s).length c) ∧ OwnS S1 1 w' w.heap.size 9 A c (names s) ∧ Below w.heap.size w w' := by
  have H := Lib.hid h
  obtain ⟨_, c1, _, _, _, _⟩ := h.cells
  have hbl := h.r.now.lt
  have hnl : s.now.length ≤ 1000000 := Nat.le_trans h.r.ok.gnow.len hf
  have hseq : SeqGives Fence.wide 2 Tryz.prog 133 #[.pointer (some ⟨w.heap.size, 0, none⟩)] encStr (fun ss => ss.Perm (strKeys (dirD m.bs s.now))) (Maps.size (dirD m.bs s.now)) (w.alloc (.cells #[.map (some m.mn)] 41)) :=
    AnyZ.keys_gives (ρ := Tryz.keysA_ren) { Tryz.keysA with } Fence.wide _ trivial rfl (by omega) w.heap.size m.mn s.now.length (dirD m.bs s.now) _ (by simp) (by simp) (ownsMap_keepS h.r.now (Below.heap_alloc _ _ m.mn hbl))
  have cK : Calls Tryz.prog 63 #[.map (some m.mn)] w fun e w' => e = .returned (.func (.func 133) #[] #[.pointer (some ⟨w.heap.size, 0, none⟩)]) ∧ w' = w.alloc (.cells #[.map (some m.mn)] 41) := (callsIn_wide (n := 5)).1 (AnyZ.keys_in Tryz.keysA Fence.wide 5 trivial rfl (some m.mn) w)
  have cS := AnyZ.sorted_in Tryz.sortedA Fence.wide 5 trivial trivial trivial trivial rfl (by omega) (sortsIn _) (enters_of Tryz.func132 (by kernel_rfl) rfl) 133 #[.pointer (some ⟨w.heap.size, 0, none⟩)] trivial (enters_of Tryz.func133 (by kernel_rfl) rfl) _ _ (by rw [dirD_size]; unfold maxLen; omega) (by rw [dirD_size]; omega) _ hseq
  change CallsIn _ _ Tryz.prog 62 _ _ _ at cS
  have CS := Lib.hid ((callsIn_wide (n := 5)).1 cS)
  have CK := Lib.hid cK
  clear cS cK hseq h
  go_enter Tryz.func26, Tryz.ntmps26
  go_wp2_with fail
  refine CK.out.mono ?_
  rintro e w1 ⟨rfl, rfl⟩
  go_wp2_with fail
  refine CS.out.mono ?_
  rintro e w2 ⟨v, ss, rfl, hS, hrow, hnil, hb⟩
  have hp : ss.mergeSort (fun x y => decide (x ≤ y)) = names s := by
    have h1 := mergeSort_of_perm hS
    rw [dirD_keys, sorted_names H.out.r.ok.gnow.srt] at h1
    exact h1
  have hl : ss.length = (names s).length := by
    have h1 := hS.length_eq
    rw [dirD_keys] at h1
    exact h1
  rw [hp, ← flat_enc, hl] at hrow
  have hr2 : w2.ownsRow w.heap.size 9 1 v (names s).length ((names s).flatMap S1) := ownsRow_base_a hrow (by simp)
  obtain ⟨A, c, rfl⟩ : ∃ A c, v = .slice A (names s).length c := by
    rcases hr2.2 with ⟨hv, hn⟩ | ⟨g, cap, cur, hv, _⟩
    · exact ⟨none, 0, by rw [hv, hn]⟩
    · exact ⟨_, _, hv⟩
  have HR := Lib.hid hr2
  have HB := Lib.hid (((Below.refl _ w).alloc (Nat.le_refl _) (.cells #[.map (some m.mn)] 41)).trans (hb.mono (by simp)))
  clear hS hrow hnil hb hp hl hr2
  go_wp2_with fail
  go_ret
  exact ⟨A, c, rfl, HR.out, HB.out⟩
end
end Sto
end Go.Proofs.YtekbdedpombgcaaGreatDoor

namespace Go.Proofs.YtekbdedpombgcaaGreatDoor
open Go.RowKit Go.Maps

/-- What an operation of the store, or of a log of its own, does to memory. -/
structure Aft0 (w w' : World) (g : Nat) (m m' : Sto.Mem) : Prop where
  os : w'.os = w.os
  tape : w'.tape = w.tape
  output : w'.output = w.output
  size : w.heap.size ≤ w'.heap.size
  block : ∀ k, k < w.heap.size → ¬ Sto.Mut g m k → w'.heap[k]? = w.heap[k]?
  turn : ∀ k, k < w.heap.size → Sto.Mut g m' k → Sto.Mut g m k
namespace Sto
def I1 (n : Int) : List Value := [.int .i64 n]
section
variable {w w' : World} {base g : Nat} {s : St} {m : Mem}
/-- The directory is turned, nothing else. -/
structure CrA (w : World) (m : Mem) (d : Dir) (wr : World) : Prop where
  same : wr.os = w.os ∧ wr.tape = w.tape ∧ wr.output = w.output ∧ w.heap.size ≤ wr.heap.size
  hk : ∀ q, q < w.heap.size → q ≠ m.md → wr.heap[q]? = w.heap[q]?
  hd : DirAt wr m.md m.bs d
theorem CrA.start (h : StAt w base g s m) (hb : Below w.heap.size w w') : CrA w m s.disk w' := ⟨⟨hb.os, hb.tape, hb.output, hb.size⟩, fun q hq _ => hb.block q hq, ownsMap_keepS h.r.disk (hb.block _ h.r.disk.lt)⟩
theorem CrA.step {d d2 : Dir} {wr w1 : World} (h : CrA w m d wr) (hd : DirAt w1 m.md m.bs d2) (hg : wr.grownBy w1 (some m.md)) : CrA w m d2 w1 := by
  obtain ⟨h1, h2, h3, h4⟩ := h.same
  exact ⟨⟨hg.os.trans h1, hg.tape.trans h2, hg.output.trans h3, Nat.le_trans h4 hg.size⟩, fun q hq hn => (hg.block q (Nat.lt_of_lt_of_le hq h4) (fun e => hn (by injection e))).trans (h.hk q hq hn), hd⟩
theorem KcOk.kept {c : Chg} {v : Cl} (h : StAt w base g s m) (hk : KcOk w m.bs c v) {d : Dir} {wr : World} (ha : CrA w m d wr) : KcOk wr m.bs c v := by
  have hm : ∀ k T, Tag w k T → wr.heap[k]? = w.heap[k]? := fun k T t => ha.hk k t.lt (fun e => t.map_ne h.r.disk e.symm)
  cases c with
  | put n i =>
    obtain ⟨a, b, e, h1, h2, h3⟩ := hk
    exact ⟨a, b, e, (hm a _ ⟨_, _, h1⟩).trans h1, (hm b _ ⟨_, _, h2⟩).trans h2, h3⟩
  | del n =>
    obtain ⟨b, e, h2, h3⟩ := hk
    exact ⟨b, e, (hm b _ ⟨_, _, h2⟩).trans h2, h3⟩
  | ren f t i =>
    obtain ⟨x, a, y, e, h1, h2, h3, h4⟩ := hk
    exact ⟨x, a, y, e, (hm x _ ⟨_, _, h1⟩).trans h1, (hm a _ ⟨_, _, h2⟩).trans h2, (hm y _ ⟨_, _, h3⟩).trans h3, h4⟩
/-- What lies in a round of Crash's second loop. -/
structure CrI (w : World) (m : Mem) (N : Nat) (d : Dir) (A3 : Option Addr) (c3 : Nat) (fs : List Fl) (wr : World) : Prop where
  same : wr.os = w.os ∧ wr.tape = w.tape ∧ wr.output = w.output ∧ w.heap.size ≤ wr.heap.size
  hk : ∀ q, q < w.heap.size → q ≠ m.md → q ∉ m.bs → wr.heap[q]? = w.heap[q]?
  hd : DirAt wr m.md m.bs d
  fl : ∀ j, j < N → wr.heap[m.bs.getD j 0]? = some (.cells #[.slice (m.row j).1 (fs.getD j ⟨[], 0⟩).b.length (m.row j).2, .int .i64 ((fs.getD j ⟨[], 0⟩).sure : Int)] 107)
  nm : OwnS S1 1 wr w.heap.size 9 A3 c3 (d.map (·.1))
theorem CrI.start (h : StAt w base g s m) {d : Dir} {A3 : Option Addr} {c3 : Nat} {wr w3 : World} (ha : CrA w m d wr) (hb : Below wr.heap.size wr w3) (ho : OwnS S1 1 w3 wr.heap.size 9 A3 c3 (d.map (·.1))) : CrI w m s.files.length d A3 c3 s.files w3 := by
  obtain ⟨h1, h2, h3, h4⟩ := ha.same
  refine ⟨⟨hb.os.trans h1, hb.tape.trans h2, hb.output.trans h3, Nat.le_trans h4 hb.size⟩, fun q hq hn _ => (hb.block q (Nat.lt_of_lt_of_le hq h4)).trans (ha.hk q hq hn), ownsMap_keepS ha.hd (hb.block _ ha.hd.lt), fun j hj => ?_, ho.mono h4⟩
  have h5 := (h.r.fl j hj).box
  have h6 := h.r.bs_tag (bs_mem (m := m) (i := j) (by rw [h.r.bsl]; exact hj))
  have h7 : s.files.getD j ⟨[], 0⟩ = s.files[j] := by rw [List.getD_eq_getElem?_getD, List.getElem?_eq_getElem hj]; rfl
  rw [h7, hb.block _ (Nat.lt_of_lt_of_le h6.lt h4), ha.hk _ h6.lt (fun e => h6.map_ne h.r.disk e.symm)]
  exact h5
theorem CrI.below {N : Nat} {d : Dir} {A3 : Option Addr} {c3 : Nat} {fs : List Fl} {wr w3 : World} (h : CrI w m N d A3 c3 fs wr) (hb : Below wr.heap.size wr w3) : CrI w m N d A3 c3 fs w3 := by
  obtain ⟨h1, h2, h3, h4⟩ := h.same
  exact ⟨⟨hb.os.trans h1, hb.tape.trans h2, hb.output.trans h3, Nat.le_trans h4 hb.size⟩, fun q hq hn hm => (hb.block q (Nat.lt_of_lt_of_le hq h4)).trans (h.hk q hq hn hm), ownsMap_keepS h.hd (hb.block _ h.hd.lt), fun j hj => (hb.block _ (Array.getElem?_eq_some_iff.1 (h.fl j hj)).1).trans (h.fl j hj), h.nm.below hb⟩
theorem CrI.tag {N : Nat} {d : Dir} {A3 : Option Addr} {c3 : Nat} {fs : List Fl} {wr : World} (h : CrI w m N d A3 c3 fs wr) {j : Nat} (hj : j < N) : Tag wr (m.bs.getD j 0) 107 := ⟨_, _, h.fl j hj⟩
theorem CrI.step (hs : StAt w base g s m) {d : Dir} {A3 : Option Addr} {c3 : Nat} {fs : List Fl} {wr : World} (h : CrI w m s.files.length d A3 c3 fs wr) {i : Nat} (hi : i < s.files.length) (hl : fs.length = s.files.length) (f : Fl) :
    CrI w m s.files.length d A3 c3 (fs.set i f) ((wr.setCell ⟨m.bs.getD i 0, 0, none⟩ (.slice (m.row i).1 f.b.length (m.row i).2)).setCell ⟨m.bs.getD i 0, 1, none⟩ (.int .i64 (f.sure : Int))) := by
  obtain ⟨h1, h2, h3, h4⟩ := h.same
  obtain ⟨B, hB⟩ : ∃ B, B = m.bs.getD i 0 := ⟨_, rfl⟩
  have hbi := h.fl i hi
  have htg := h.tag hi
  rw [← hB] at hbi htg ⊢
  have hko : ∀ q, q ≠ B → ((wr.setCell ⟨B, 0, none⟩ (.slice (m.row i).1 f.b.length (m.row i).2)).setCell ⟨B, 1, none⟩ (.int .i64 (f.sure : Int))).heap[q]? = wr.heap[q]? := fun q hq => by
    rw [heap_setCell_other _ ⟨B, 1, none⟩ q _ hq, heap_setCell_other _ ⟨B, 0, none⟩ q _ hq]
  have hBm : B ∈ m.bs := by rw [hB]; exact bs_mem (by rw [hs.r.bsl]; exact hi)
  refine ⟨⟨h1, h2, h3, by simpa using h4⟩, fun q hq hn hm => (hko q (fun e => hm (e ▸ hBm))).trans (h.hk q hq hn hm), ownsMap_keepS h.hd (hko _ (htg.map_ne h.hd)), fun j hj => ?_, h.nm.keep (fun q e => hko q ((ownTagS h.nm e).ne htg (by decide)))⟩
  rw [getD_set, hl]
  by_cases hij : i = j
  · subst hij
    rw [if_pos ⟨rfl, hi⟩, ← hB]
    have q1 := heap_setCell_same wr B 0 _ _ (.slice (m.row i).1 f.b.length (m.row i).2) hbi
    have q2 := heap_setCell_same _ B 1 _ _ (.int .i64 (f.sure : Int)) q1
    simpa using q2
  · rw [if_neg (by simp [hij]), hko _ (by rw [hB]; exact bs_ne hs.r hj hi (Ne.symm hij))]
    exact h.fl j hj
theorem own_pre {b0 c : Nat} {e : TypeId} {A : Option Addr} {l : List UInt8} (h : Own w b0 e A c l) (k : Nat) : Own w b0 e A c (l.take k) := by
  unfold Own at h ⊢
  obtain ⟨h1, h2⟩ := h
  have e1 : bv (l.take k) = (bv l).take k := by unfold bv; rw [List.map_take]
  refine ⟨by unfold bv; simp, ?_⟩
  rcases h2 with ⟨hv, hn⟩ | ⟨g, cap, cur, hv, hg, hh, hnc, hcm, hs, ht⟩
  · have hl : l = [] := List.eq_nil_of_length_eq_zero hn
    subst hl
    left
    rw [List.take_nil]
    exact ⟨hv, rfl⟩
  · right
    injection hv with q1 q2 q3
    refine ⟨g, cap, cur, by rw [q1, q3], hg, hh, by rw [List.length_take]; omega, hcm, hs, ?_⟩
    rw [e1, ← ht, List.take_take, List.length_take]
    congr 1
    omega
/-- Where all lies behind a crash. -/
def crMem (m : Mem) (nm : Nat) : Mem := { m with mn := m.md, md := nm, KA := none, kc := 0, vs := [], PA := none, pc := 0 }
theorem CrI.done (hs : StAt w base g s m) {D : Dir} {A3 : Option Addr} {c3 nm : Nat} {w9 W : World} {changes : Int} {keep : List Int} (h : CrI w m s.files.length D A3 c3 (cutAll keep 0 (ids D) s.files) w9) (hD : D = (s.kept.take changes.toNat).foldl made s.disk)
    (hd2 : DirAt w9 nm m.bs D) (hnm : w.heap.size ≤ nm) (hg : W.heap[g]? = some (stObj (crMem m nm) (crash s changes keep))) (hk : ∀ q, q ≠ g → W.heap[q]? = w9.heap[q]?) (ho : W.os = w9.os ∧ W.tape = w9.tape ∧ W.output = w9.output ∧ W.heap.size = w9.heap.size) :
    StAt W base g (crash s changes keep) (crMem m nm) ∧ Aft0 w W g m (crMem m nm) := by
  obtain ⟨h1, h2, h3, h4⟩ := h.same
  have hok := hs.r.ok.crash changes keep
  have hfl : (crash s changes keep).files = cutAll keep 0 (ids D) s.files := by rw [hD]; rfl
  have hnow : (crash s changes keep).now = D := hD.symm
  have hgl := hs.r.gt.lt
  have hgd : DirAt W m.md m.bs D := ownsMap_keepS h.hd (hk _ (hs.r.gt.map_ne hs.r.disk))
  have hG := hs.r.ok.hist changes.toNat
  rw [← hD] at hG
  have hlen : (crash s changes keep).files.length = s.files.length := by rw [hfl, cutAll_len]
  refine ⟨⟨hg, ⟨_, _, hg⟩, hs.r.gb, by rw [hnow]; exact hgd, ?_, hs.r.db, Nat.le_trans hs.r.gb (Nat.le_trans (Nat.le_of_lt hgl) hnm), Nat.ne_of_lt (Nat.lt_of_lt_of_le hs.r.disk.lt hnm), by rw [hlen]; exact hs.r.bsl, by rw [hlen]; exact hs.r.rwl, fun i hi => ?_, hs.r.bb, hs.r.bnd, fun i j hi hj => by
    rw [hlen] at hi hj
    exact hs.r.rnd i j hi hj, OwnS.nil _ _ _, rfl, (fun i c v hc _ => by cases hc), RdB.nil, Nat.le_refl _, Nat.zero_le _, (fun k e => by cases e), hok⟩, ⟨ho.1.trans h1, ho.2.1.trans h2, ho.2.2.1.trans h3, by rw [ho.2.2.2]; exact h4, fun q hq hn => ?_, fun q hq hm => ?_⟩⟩
  · show DirAt W nm m.bs (crash s changes keep).disk
    have e : (crash s changes keep).disk = D := hD.symm
    rw [e]
    exact ownsMap_keepS hd2 (hk _ (by omega))
  · rw [hlen] at hi
    have e1 : (crash s changes keep).files[i]'(by rw [hlen]; exact hi) = (cutAll keep 0 (ids D) s.files).getD i ⟨[], 0⟩ := by
      rw [List.getD_eq_getElem?_getD, List.getElem?_eq_getElem (by rw [cutAll_len]; exact hi)]
      simp only [hfl]; rfl
    have e2 : s.files.getD i ⟨[], 0⟩ = s.files[i] := by rw [List.getD_eq_getElem?_getD, List.getElem?_eq_getElem hi]; rfl
    have hbl := h.fl i hi
    have htg := h.tag hi
    have hbm := bs_mem (m := m) (i := i) (by rw [hs.r.bsl]; exact hi)
    have hne : m.bs.getD i 0 ≠ g := (hs.r.bs_tag hbm).ne hs.r.gt (by decide)
    have hpre : ∃ k, ((cutAll keep 0 (ids D) s.files).getD i ⟨[], 0⟩).b = s.files[i].b.take k := by
      have hc := cutAll_at keep (ids D) 0 s.files hG.nd hs.r.ok.sure hG.lt i
      by_cases hm : i ∈ ids D
      · obtain ⟨k, _, e⟩ := hc.1 hm
        rw [e, e2]; exact ⟨_, rfl⟩
      · rw [hc.2 hm, e2]
        exact ⟨s.files[i].b.length, by simp⟩
    obtain ⟨k, hkb⟩ := hpre
    refine ⟨?_, ?_⟩
    · rw [e1]
      exact (hk _ hne).trans hbl
    · rw [e1, hkb]
      refine own_keepS (own_pre (hs.r.fl i hi).own k) (fun q e => ?_)
      have hrm := row_mem (m := m) (i := i) (by rw [hs.r.rwl]; exact hi)
      have t := hs.r.row_tag hrm e
      rw [hk _ (t.ne hs.r.gt (by decide)), h.hk q t.lt (fun e3 => t.map_ne hs.r.disk e3.symm) (fun hm => t.ne (hs.r.bs_tag hm) (by decide) rfl)]
  · rw [hk q (fun e => hn (.inl e)), h.hk q hq (fun e => hn (.inr (.inr (.inl e)))) (fun e => hn (.inr (.inr (.inr (.inl e)))))]
  · rcases hm with e | e | e | e | e | e
    · exact .inl e
    · exact .inr (.inr (.inl e))
    · have e : q = nm := e
      omega
    · exact .inr (.inr (.inr (.inl e)))
    · cases e
    · exact .inr (.inr (.inr (.inr (.inr e))))
end
end Sto
end Go.Proofs.YtekbdedpombgcaaGreatDoor

namespace Go.Proofs.YtekbdedpombgcaaGreatDoor
open Go.RowKit Go.Maps

theorem Sto.Tag.keep {w w' : World} {k : Nat} {T : TypeId} (h : Sto.Tag w k T) (hk : w'.heap[k]? = w.heap[k]?) : Sto.Tag w' k T := by
  obtain ⟨cs, fr, h⟩ := h
  exact ⟨cs, fr, hk.trans h⟩
namespace Ref
/-- Bytes of its own. -/
structure Rby (w : World) (base : Nat) (A : Option Addr) (b : List UInt8) : Prop where
  rd : RdB w w.heap.size A b
  at_ : ∀ k, blk A = some k → base ≤ k ∧ Sto.Tag w k 5
/-- What an operation does to memory. -/
structure Aft (ts : List TypeId) (w w' : World) (base : Nat) (R R' : Nat → Prop) : Prop where
  os : w'.os = w.os
  tape : w'.tape = w.tape
  output : w'.output = w.output
  size : w.heap.size ≤ w'.heap.size
  block : ∀ k, k < w.heap.size → (k < base ∨ ∀ T ∈ ts, ¬ Sto.Tag w k T) → w'.heap[k]? = w.heap[k]?
  row : ∀ k, k < w.heap.size → R' k → R k
section
variable {w w' w1 : World} {base g : Nat} {ts : List TypeId} {R R' R1 : Nat → Prop}
theorem Aft.refl (w : World) (base : Nat) (R : Nat → Prop) : Aft ts w w base R R := ⟨rfl, rfl, rfl, Nat.le_refl _, fun _ _ _ => rfl, fun _ _ h => h⟩
theorem Aft.of_below (hb : Below w.heap.size w w') (R : Nat → Prop) : Aft ts w w' base R R := ⟨hb.os, hb.tape, hb.output, hb.size, fun k hk _ => hb.block k hk, fun _ _ h => h⟩
theorem Aft.trans (h1 : Aft ts w w1 base R R1) (h2 : Aft ts w1 w' base R1 R') : Aft ts w w' base R R' :=
  ⟨h2.os.trans h1.os, h2.tape.trans h1.tape, h2.output.trans h1.output, Nat.le_trans h1.size h2.size, fun k hk hn => (h2.block k (Nat.lt_of_lt_of_le hk h1.size) (hn.imp id (fun hn T hT t => hn T hT (t.keep (h1.block k hk (.inr hn)).symm)))).trans (h1.block k hk hn),
    fun k hk hm => h1.row k hk (h2.row k (Nat.lt_of_lt_of_le hk h1.size) hm)⟩
theorem Aft.more {us : List TypeId} (h : Aft ts w w' base R R') (hu : ∀ T ∈ ts, T ∈ us) : Aft us w w' base R R' :=
  ⟨h.os, h.tape, h.output, h.size, fun k hk hn => h.block k hk (hn.imp id (fun hn T hT => hn T (hu T hT))), h.row⟩
theorem Aft.rows {S S' : Nat → Prop} (h : Aft ts w w' base R R') (hr : ∀ k, k < w.heap.size → S' k → S k) : Aft ts w w' base S S' := ⟨h.os, h.tape, h.output, h.size, h.block, hr⟩
theorem Aft.below (h : Aft ts w w' base R R') (hB : base ≤ w.heap.size) : Below base w w' := ⟨h.os, h.tape, h.output, h.size, fun k hk => h.block k (Nat.lt_of_lt_of_le hk hB) (.inl hk)⟩
theorem Aft.tag (h : Aft ts w w' base R R') {k : Nat} {T : TypeId} (ht : Sto.Tag w k T) (hT : T ∉ ts) : w'.heap[k]? = w.heap[k]? :=
  h.block k ht.lt (.inr fun U hU t => by
    rcases Nat.decEq T U with hn | he
    · exact ht.ne t hn rfl
    · exact hT (he ▸ hU))
/-- A row of the turning types is turned, or new blocks are made. -/
theorem Aft.grown {row : Option Nat} (hg : w.grownBy w' row) (hr : ∀ k, row = some k → k < w.heap.size → base ≤ k ∧ ∃ T ∈ ts, Sto.Tag w k T) (R : Nat → Prop) : Aft ts w w' base R R :=
  ⟨hg.os, hg.tape, hg.output, hg.size, fun k hk hn => hg.block k hk (fun e => by
    obtain ⟨h1, T, hT, t⟩ := hr k e.symm hk
    rcases hn with hn | hn
    · omega
    · exact hn T hT t), fun _ _ h => h⟩
theorem Rby.keep {A : Option Addr} {b : List UInt8} (h : Rby w base A b) (hs : w.heap.size ≤ w'.heap.size) (hk : ∀ k, blk A = some k → w'.heap[k]? = w.heap[k]?) : Rby w' base A b :=
  ⟨rdB_keepS h.rd hs (fun k e _ => hk k e), fun k e => ⟨(h.at_ k e).1, (h.at_ k e).2.keep (hk k e)⟩⟩
theorem Rby.below {A : Option Addr} {b : List UInt8} (h : Rby w base A b) (hb : Below w.heap.size w w') : Rby w' base A b := h.keep hb.size (fun k e => hb.block k (h.at_ k e).2.lt)
theorem Rby.aft {A : Option Addr} {b : List UInt8} (h : Rby w base A b) (ha : Aft ts w w' base R R') (hu : 5 ∉ ts) : Rby w' base A b := h.keep ha.size (fun k e => ha.tag (h.at_ k e).2 hu)
theorem Rby.nil (w : World) (base : Nat) : Rby w base none [] := ⟨RdB.nil, fun _ e => by cases e⟩
theorem Rby.own {A : Option Addr} {b : List UInt8} {c n : Nat} (h : Own w n 5 A c b) (hn : base ≤ n) : Rby w base A b := ⟨h.rd, fun k e => ⟨Nat.le_trans hn (h.blk_ge k e).1, Sto.ownTag h e⟩⟩
end
end Ref
end Go.Proofs.YtekbdedpombgcaaGreatDoor
