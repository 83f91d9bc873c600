/- Parts of the proof, one behind the other: Contracts of the store: Names.; Contracts of the store: Crash.; The reference's store as it lies in memory: it has the same plain state as the store. -/
import Derived.Test.YtgmnhdkdicgkcaaGreatDoorOrg21
import Derived.Test.YtgmnhdkdicgkcaaGreatDoorOrg22
import Derived.Sort.KeysCollected
import Derived.Deep.DeepCutAuto
namespace Go.Proofs.YtgmnhdkdicgkcaaGreatDoor
open Go.RowKit Go.Maps Go.Sort Go.Shelf
open Lib (hid)
namespace Sto
theorem sortsIn (m : Nat) : AnyZ.SortsIn Tryz.prog Tryz.sortedA_ren Fence.wide m :=
 ⟨fun blk off cap ss W hH hblk hsz => callsIn_wide.2 (AnyM.slices_Sort_string Tryz.sortA blk off cap ss W hH hblk hsz),
  fun p cap W => callsIn_wide.2 (AnyM.slices_Sort_string_none Tryz.sortA p cap W)⟩
theorem bb_lt : ∀ a b : List UInt8, bytesBefore a b = true → List.Lex (· < ·) a b
 | [], [], h => by simp [bytesBefore] at h
 | [], _ :: _, _ => .nil
 | _ :: _, [], h => by simp [bytesBefore] at h
 | a :: r, b :: s, h => by
   simp only [bytesBefore, Bool.or_eq_true, Bool.and_eq_true, decide_eq_true_eq, beq_iff_eq] at h
   rcases h with h | ⟨rfl, h⟩
   · exact .rel h
   · exact .cons (bb_lt r s h)
theorem bb_le (a b : List UInt8) (h : bytesBefore a b = true) : a ≤ b := List.le_of_lt (bb_lt a b h)
theorem flat_enc : ∀ l : List Str, l.flatMap S1 = l.map encStr
 | [] => rfl
 | a :: l => by rw [List.flatMap_cons, List.map_cons, flat_enc l]; rfl
theorem sorted_names {l : Dir} (h : Srt l) : (l.map (·.1)).mergeSort leB = l.map (·.1) := by
 refine List.mergeSort_of_pairwise ?_
 rw [List.pairwise_map]
 refine List.Pairwise.imp (fun {p q} hpq => ?_) h
 exact decide_eq_true (bb_le _ _ hpq)
section
variable {w w' : World} {base g : Nat} {s : St} {m : Mem}
set_option maxHeartbeats 1000000 in
set_option maxRecDepth 100000 in
theorem names_any (h : StAt w base g s m) (hf : s.files.length ≤ 1000000) : Calls Tryz.prog 36 #[.pointer (some ⟨g, 0, none⟩)] w fun e w' => ∃ A c, e = .returned (.slice A (names s).length c) ∧ OwnS S1 1 w' w.heap.size 9 A c (names s) ∧ Below w.heap.size w w' := by
 have H := hid h
 obtain ⟨_, c1, _, _, _, _⟩ := h.cells
 have hbl := h.r.now.lt
 have hnl : s.now.length ≤ 1000000 := Nat.le_trans h.r.ok.gnow.len hf
 have hseq : SeqGives Fence.wide 2 Tryz.prog 139 #[.pointer (some ⟨w.heap.size, 0, none⟩)] encStr (fun ss => ss.Perm (strKeys (dirD m.bs s.now))) (Maps.size (dirD m.bs s.now)) (w.alloc (.cells #[.map (some m.mn)] 104)) :=
   AnyZ.keys_gives (ρ := Tryz.keysA_ren) { Tryz.keysA with } Fence.wide _ trivial rfl (by omega) w.heap.size m.mn s.now.length (dirD m.bs s.now) _ (by simp) (by simp) (ownsMap_keepS h.r.now (Below.heap_alloc _ _ m.mn hbl))
 have cK : Calls Tryz.prog 81 #[.map (some m.mn)] w fun e w' => e = .returned (.func (.func 139) #[] #[.pointer (some ⟨w.heap.size, 0, none⟩)]) ∧ w' = w.alloc (.cells #[.map (some m.mn)] 104) := (callsIn_wide (n := 5)).1 (AnyZ.keys_in Tryz.keysA Fence.wide 5 trivial rfl (some m.mn) w)
 have cS := AnyZ.sorted_in Tryz.sortedA Fence.wide 5 trivial trivial trivial trivial rfl (by omega) (sortsIn _) (enters_of Tryz.func138 (by kernel_rfl) rfl) 139 #[.pointer (some ⟨w.heap.size, 0, none⟩)] trivial (enters_of Tryz.func139 (by kernel_rfl) rfl) _ _ (by rw [dirD_size]; unfold maxLen; omega) (by rw [dirD_size]; omega) _ hseq
 change CallsIn _ _ Tryz.prog 80 _ _ _ at cS
 have CS := hid ((callsIn_wide (n := 5)).1 cS)
 have CK := hid cK
 clear cS cK hseq h
 go_enter Tryz.func36, Tryz.ntmps36
 go_wp2_with fail
 refine CK.out.mono ?_
 rintro e w1 ⟨rfl, rfl⟩
 go_wp2_with fail
 refine CS.out.mono ?_
 rintro e w2 ⟨v, ss, rfl, hS, hrow, hnil, hb⟩
 have hp : ss.mergeSort (fun x y => decide (x ≤ y)) = names s := by
   have h1 := mergeSort_of_perm hS
   rw [dirD_keys, sorted_names H.out.r.ok.gnow.srt] at h1
   exact h1
 have hl : ss.length = (names s).length := by
   have h1 := hS.length_eq
   rw [dirD_keys] at h1
   exact h1
 rw [hp, ← flat_enc, hl] at hrow
 have hr2 : w2.ownsRow w.heap.size 9 1 v (names s).length ((names s).flatMap S1) := ownsRow_base_a hrow (by simp)
 obtain ⟨A, c, rfl⟩ : ∃ A c, v = .slice A (names s).length c := by
   rcases hr2.2 with ⟨hv, hn⟩ | ⟨g, cap, cur, hv, _⟩
   · exact ⟨none, 0, by rw [hv, hn]⟩
   · exact ⟨_, _, hv⟩
 have HR := hid hr2
 have HB := hid (((Below.refl _ w).alloc (Nat.le_refl _) (.cells #[.map (some m.mn)] 104)).trans (hb.mono (by simp)))
 clear hS hrow hnil hb hp hl hr2
 go_wp2_with fail
 go_ret
 exact ⟨A, c, rfl, HR.out, HB.out⟩
end
end Sto
end Go.Proofs.YtgmnhdkdicgkcaaGreatDoor
namespace Go.Proofs.YtgmnhdkdicgkcaaGreatDoor
open Go.RowKit Go.Maps
open Lib (hid)
structure Aft0 (w w' : World) (g : Nat) (m m' : Sto.Mem) : Prop where
 os : w'.os = w.os
 tape : w'.tape = w.tape
 output : w'.output = w.output
 size : w.heap.size ≤ w'.heap.size
 block : ∀ k, k < w.heap.size → ¬ Sto.Mut g m k → w'.heap[k]? = w.heap[k]?
 turn : ∀ k, k < w.heap.size → Sto.Mut g m' k → Sto.Mut g m k
namespace Sto
def I1 (n : Int) : List Value := [.int .i64 n]
theorem cutAll_snoc (keep : List Int) : ∀ (l : List Nat) (k : Nat) (fs : List Fl) (i : Nat), cutAll keep k (l ++ [i]) fs = (cutAll keep k l fs).set i (cut keep (k + l.length) ((cutAll keep k l fs).getD i ⟨[], 0⟩))
 | [], k, fs, i => rfl
 | a :: l, k, fs, i => by
   rw [List.cons_append, cutAll, cutAll_snoc keep l (k + 1), cutAll, List.length_cons]
   have e : k + 1 + l.length = k + (l.length + 1) := by omega
   rw [e]
section
variable {w w' : World} {base g : Nat} {s : St} {m : Mem}
theorem dkeys_any (w : World) (b : Nat) : Calls Tryz.prog 81 #[.map (some b)] w fun e w' => e = .returned (.func (.func 139) #[] #[.pointer (some ⟨w.heap.size, 0, none⟩)]) ∧ w' = w.alloc (.cells #[.map (some b)] 104) :=
 (callsIn_wide (n := 5)).1 (AnyZ.keys_in Tryz.keysA Fence.wide 5 trivial rfl (some b) w)
theorem dsorted_any {b : Nat} {bs : List Nat} {l : Dir} (hd : DirAt w b bs l) (hs : Srt l) (hl : l.length ≤ 1000000) : Calls Tryz.prog 80 #[.func (.func 139) #[] #[.pointer (some ⟨w.heap.size, 0, none⟩)]] (w.alloc (.cells #[.map (some b)] 104)) fun e w' => ∃ A c, e = .returned (.slice A (l.map (·.1)).length c) ∧ OwnS S1 1 w' w.heap.size 9 A c (l.map (·.1)) ∧ Below w.heap.size w w' := by
 have hseq : SeqGives Fence.wide 2 Tryz.prog 139 #[.pointer (some ⟨w.heap.size, 0, none⟩)] encStr (fun ss => ss.Perm (strKeys (dirD bs l))) (Maps.size (dirD bs l)) (w.alloc (.cells #[.map (some b)] 104)) :=
   AnyZ.keys_gives (ρ := Tryz.keysA_ren) { Tryz.keysA with } Fence.wide _ trivial rfl (by omega) w.heap.size b l.length (dirD bs l) _ (by simp) (by simp) (ownsMap_keepS hd (Below.heap_alloc _ _ b hd.lt))
 have cS := AnyZ.sorted_in Tryz.sortedA Fence.wide 5 trivial trivial trivial trivial rfl (by omega) (sortsIn _) (enters_of Tryz.func138 (by kernel_rfl) rfl) 139 #[.pointer (some ⟨w.heap.size, 0, none⟩)] trivial (enters_of Tryz.func139 (by kernel_rfl) rfl) _ _ (by rw [dirD_size]; unfold maxLen; omega) (by rw [dirD_size]; omega) _ hseq
 change CallsIn _ _ Tryz.prog 80 _ _ _ at cS
 refine ((callsIn_wide (n := 5)).1 cS).mono ?_
 rintro e w2 ⟨v, ss, rfl, hS, hrow, hnil, hb⟩
 have hp : ss.mergeSort (fun x y => decide (x ≤ y)) = l.map (·.1) := by
   have h1 := mergeSort_of_perm hS
   rw [dirD_keys, sorted_names hs] at h1
   exact h1
 have hll : ss.length = (l.map (·.1)).length := by
   have h1 := hS.length_eq
   rw [dirD_keys] at h1
   exact h1
 rw [hp, ← flat_enc, hll] at hrow
 have hr2 : w2.ownsRow w.heap.size 9 1 v (l.map (·.1)).length ((l.map (·.1)).flatMap S1) := ownsRow_base_a hrow (by simp)
 obtain ⟨A, c, rfl⟩ : ∃ A c, v = .slice A (l.map (·.1)).length c := by
   rcases hr2.2 with ⟨hv, hn⟩ | ⟨g, cap, cur, hv, _⟩
   · exact ⟨none, 0, by rw [hv, hn]⟩
   · exact ⟨_, _, hv⟩
 exact ⟨A, c, rfl, hr2, ((Below.refl _ w).alloc (Nat.le_refl _) (.cells #[.map (some b)] 104)).trans (hb.mono (by simp))⟩
structure CrA (w : World) (m : Mem) (d : Dir) (wr : World) : Prop where
 same : wr.os = w.os ∧ wr.tape = w.tape ∧ wr.output = w.output ∧ w.heap.size ≤ wr.heap.size
 hk : ∀ q, q < w.heap.size → q ≠ m.md → wr.heap[q]? = w.heap[q]?
 hd : DirAt wr m.md m.bs d
theorem CrA.start (h : StAt w base g s m) (hb : Below w.heap.size w w') : CrA w m s.disk w' := ⟨⟨hb.os, hb.tape, hb.output, hb.size⟩, fun q hq _ => hb.block q hq, ownsMap_keepS h.r.disk (hb.block _ h.r.disk.lt)⟩
theorem CrA.step {d d2 : Dir} {wr w1 : World} (h : CrA w m d wr) (hd : DirAt w1 m.md m.bs d2) (hg : wr.grownBy w1 (some m.md)) : CrA w m d2 w1 := by
 obtain ⟨h1, h2, h3, h4⟩ := h.same
 exact ⟨⟨hg.os.trans h1, hg.tape.trans h2, hg.output.trans h3, Nat.le_trans h4 hg.size⟩, fun q hq hn => (hg.block q (Nat.lt_of_lt_of_le hq h4) (fun e => hn (by injection e))).trans (h.hk q hq hn), hd⟩
theorem KcOk.kept {c : Chg} {v : Cl} (h : StAt w base g s m) (hk : KcOk w m.bs c v) {d : Dir} {wr : World} (ha : CrA w m d wr) : KcOk wr m.bs c v := by
 have hm : ∀ k T, Tag w k T → wr.heap[k]? = w.heap[k]? := fun k T t => ha.hk k t.lt (fun e => t.map_ne h.r.disk e.symm)
 cases c with
 | put n i =>
   obtain ⟨a, b, e, h1, h2, h3⟩ := hk
   exact ⟨a, b, e, (hm a _ ⟨_, _, h1⟩).trans h1, (hm b _ ⟨_, _, h2⟩).trans h2, h3⟩
 | del n =>
   obtain ⟨b, e, h2, h3⟩ := hk
   exact ⟨b, e, (hm b _ ⟨_, _, h2⟩).trans h2, h3⟩
 | ren f t i =>
   obtain ⟨x, a, y, e, h1, h2, h3, h4⟩ := hk
   exact ⟨x, a, y, e, (hm x _ ⟨_, _, h1⟩).trans h1, (hm a _ ⟨_, _, h2⟩).trans h2, (hm y _ ⟨_, _, h3⟩).trans h3, h4⟩
set_option maxRecDepth 100000 in
theorem kept_enters {bs : List Nat} {c : Chg} {v : Cl} (hk : KcOk w bs c v) : ∀ args W, (callFunc v.f args).run Tryz.prog W = .ok (.enter v.f args) W := by
 cases c with
 | put n i =>
   obtain ⟨a, b, e, h1, h2⟩ := hk
   subst e
   exact fun _ _ => rfl
 | del n =>
   obtain ⟨b, e, h2⟩ := hk
   subst e
   exact fun _ _ => rfl
 | ren f t i =>
   obtain ⟨x, a, y, e, h1⟩ := hk
   subst e
   exact fun _ _ => rfl
theorem kept_any (h : StAt w base g s m) {d : Dir} {wr : World} (ha : CrA w m d wr) {c : Chg} {v : Cl} (hk : KcOk w m.bs c v) (hd : d.length < maxLen) :
   Calls Tryz.prog v.f (Value.map (some m.md) :: v.cb).toArray wr fun e w1 => e = .returned (.tuple #[]) ∧ CrA w m (made d c) w1 := by
 have hk2 := KcOk.kept h hk ha
 cases c with
 | put n i =>
   obtain ⟨a, b, e, h1, h2, h6⟩ := hk2
   subst e
   exact (put_any wr m.md m.bs d n i a b ha.hd hd h6 h1 h2).mono (fun e w1 ⟨h3, h4, h5⟩ => ⟨h3, ha.step h4 h5⟩)
 | del n =>
   obtain ⟨b, e, h2, h6⟩ := hk2
   subst e
   exact (del_any wr m.md m.bs d n b ha.hd h6 h2).mono (fun e w1 ⟨h3, h4, h5⟩ => ⟨h3, ha.step h4 h5⟩)
 | ren f t i =>
   obtain ⟨x, a, y, e, h1, h2, h3, h4, h5⟩ := hk2
   subst e
   exact (ren_any wr m.md m.bs d f t i x a y ha.hd hd h4 h5 h1 h2 h3).mono (fun e w1 ⟨h3, h4, h5⟩ => ⟨h3, ha.step h4 h5⟩)
theorem dir_name {b : Nat} {bs : List Nat} {l : Dir} (h : DirAt w b bs l) {p : Str × Nat} (hp : p ∈ l) : p.1.length ≤ maxLen := by
 obtain ⟨es, he, hk⟩ := World.ownsMap.keysOf h
 have e : es = l.map (ent bs) := by unfold dirD at he; injection he with he; exact he.symm
 obtain ⟨key, hkey⟩ := hk (ent bs p) (by rw [e]; exact List.mem_map_of_mem hp)
 obtain ⟨x, _, h2, h3⟩ := Maps.keyOf_str Tryz.underlying9 hkey
 have h2 : Lit.string p.1 = .string x := h2
 injection h2 with h2
 rw [h2]; exact h3
theorem look_plain {b : Nat} {bs : List Nat} {l : Dir} (h : DirAt w b bs l) {n : Str} {S : ByteArray} (hk : keyOf Tryz.prog 9 (.string S) = some (.string n)) {i : Nat} (hf : find l n = some i) :
   (Instr.lookup 104 (.map (some b)) (.string S) false).run Tryz.prog w = .ok (.pointer (some ⟨bs.getD i 0, 0, none⟩)) w := by
 obtain ⟨v, ps, h1, h2⟩ := h.lookup law Tryz.underlying104 (zeroE w) ptrR_zero hk
 rw [dirD_at, hf] at h2
 rw [h1, ptrR_pd h2]
structure CrI (w : World) (m : Mem) (N : Nat) (d : Dir) (A3 : Option Addr) (c3 : Nat) (fs : List Fl) (wr : World) : Prop where
 same : wr.os = w.os ∧ wr.tape = w.tape ∧ wr.output = w.output ∧ w.heap.size ≤ wr.heap.size
 hk : ∀ q, q < w.heap.size → q ≠ m.md → q ∉ m.bs → wr.heap[q]? = w.heap[q]?
 hd : DirAt wr m.md m.bs d
 fl : ∀ j, j < N → wr.heap[m.bs.getD j 0]? = some (.cells #[.slice (m.row j).1 (fs.getD j ⟨[], 0⟩).b.length (m.row j).2, .int .i64 ((fs.getD j ⟨[], 0⟩).sure : Int)] 130)
 nm : OwnS S1 1 wr w.heap.size 9 A3 c3 (d.map (·.1))
theorem CrI.start (h : StAt w base g s m) {d : Dir} {A3 : Option Addr} {c3 : Nat} {wr w3 : World} (ha : CrA w m d wr) (hb : Below wr.heap.size wr w3) (ho : OwnS S1 1 w3 wr.heap.size 9 A3 c3 (d.map (·.1))) : CrI w m s.files.length d A3 c3 s.files w3 := by
 obtain ⟨h1, h2, h3, h4⟩ := ha.same
 refine ⟨⟨hb.os.trans h1, hb.tape.trans h2, hb.output.trans h3, Nat.le_trans h4 hb.size⟩, fun q hq hn _ => (hb.block q (Nat.lt_of_lt_of_le hq h4)).trans (ha.hk q hq hn), ownsMap_keepS ha.hd (hb.block _ ha.hd.lt), fun j hj => ?_, ho.mono h4⟩
 have h5 := (h.r.fl j hj).box
 have h6 := h.r.bs_tag (bs_mem (m := m) (i := j) (by rw [h.r.bsl]; exact hj))
 have h7 : s.files.getD j ⟨[], 0⟩ = s.files[j] := by rw [List.getD_eq_getElem?_getD, List.getElem?_eq_getElem hj]; rfl
 rw [h7, hb.block _ (Nat.lt_of_lt_of_le h6.lt h4), ha.hk _ h6.lt (fun e => h6.map_ne h.r.disk e.symm)]
 exact h5
theorem CrI.below {N : Nat} {d : Dir} {A3 : Option Addr} {c3 : Nat} {fs : List Fl} {wr w3 : World} (h : CrI w m N d A3 c3 fs wr) (hb : Below wr.heap.size wr w3) : CrI w m N d A3 c3 fs w3 := by
 obtain ⟨h1, h2, h3, h4⟩ := h.same
 exact ⟨⟨hb.os.trans h1, hb.tape.trans h2, hb.output.trans h3, Nat.le_trans h4 hb.size⟩, fun q hq hn hm => (hb.block q (Nat.lt_of_lt_of_le hq h4)).trans (h.hk q hq hn hm), ownsMap_keepS h.hd (hb.block _ h.hd.lt), fun j hj => (hb.block _ (Array.getElem?_eq_some_iff.1 (h.fl j hj)).1).trans (h.fl j hj), h.nm.below hb⟩
theorem CrI.tag {N : Nat} {d : Dir} {A3 : Option Addr} {c3 : Nat} {fs : List Fl} {wr : World} (h : CrI w m N d A3 c3 fs wr) {j : Nat} (hj : j < N) : Tag wr (m.bs.getD j 0) 130 := ⟨_, _, h.fl j hj⟩
theorem CrI.step (hs : StAt w base g s m) {d : Dir} {A3 : Option Addr} {c3 : Nat} {fs : List Fl} {wr : World} (h : CrI w m s.files.length d A3 c3 fs wr) {i : Nat} (hi : i < s.files.length) (hl : fs.length = s.files.length) (f : Fl) :
   CrI w m s.files.length d A3 c3 (fs.set i f) ((wr.setCell ⟨m.bs.getD i 0, 0, none⟩ (.slice (m.row i).1 f.b.length (m.row i).2)).setCell ⟨m.bs.getD i 0, 1, none⟩ (.int .i64 (f.sure : Int))) := by
 obtain ⟨h1, h2, h3, h4⟩ := h.same
 obtain ⟨B, hB⟩ : ∃ B, B = m.bs.getD i 0 := ⟨_, rfl⟩
 have hbi := h.fl i hi
 have htg := h.tag hi
 rw [← hB] at hbi htg ⊢
 have hko : ∀ q, q ≠ B → ((wr.setCell ⟨B, 0, none⟩ (.slice (m.row i).1 f.b.length (m.row i).2)).setCell ⟨B, 1, none⟩ (.int .i64 (f.sure : Int))).heap[q]? = wr.heap[q]? := fun q hq => by
   rw [heap_setCell_other _ ⟨B, 1, none⟩ q _ hq, heap_setCell_other _ ⟨B, 0, none⟩ q _ hq]
 have hBm : B ∈ m.bs := by rw [hB]; exact bs_mem (by rw [hs.r.bsl]; exact hi)
 refine ⟨⟨h1, h2, h3, by simpa using h4⟩, fun q hq hn hm => (hko q (fun e => hm (e ▸ hBm))).trans (h.hk q hq hn hm), ownsMap_keepS h.hd (hko _ (htg.map_ne h.hd)), fun j hj => ?_, h.nm.keep (fun q e => hko q ((ownTagS h.nm e).ne htg (by decide)))⟩
 rw [getD_set, hl]
 by_cases hij : i = j
 · subst hij
   rw [if_pos ⟨rfl, hi⟩, ← hB]
   have q1 := heap_setCell_same wr B 0 _ _ (.slice (m.row i).1 f.b.length (m.row i).2) hbi
   have q2 := heap_setCell_same _ B 1 _ _ (.int .i64 (f.sure : Int)) q1
   simpa using q2
 · rw [if_neg (by simp [hij]), hko _ (by rw [hB]; exact bs_ne hs.r hj hi (Ne.symm hij))]
   exact h.fl j hj
theorem set6 {w9 : World} {x0 x1 x2 x3 x4 x5 : Value} {T : TypeId} (h : w9.heap[g]? = some (.cells #[x0, x1, x2, x3, x4, x5] T)) (y0 y1 y2 y3 y4 y5 : Value) :
   ∃ W : World, W = (((((w9.setCell ⟨g, 0, none⟩ y0).setCell ⟨g, 1, none⟩ y1).setCell ⟨g, 2, none⟩ y2).setCell ⟨g, 3, none⟩ y3).setCell ⟨g, 4, none⟩ y4).setCell ⟨g, 5, none⟩ y5 ∧ W.heap[g]? = some (.cells #[y0, y1, y2, y3, y4, y5] T) ∧ (∀ q, q ≠ g → W.heap[q]? = w9.heap[q]?) ∧ (W.os = w9.os ∧ W.tape = w9.tape ∧ W.output = w9.output ∧ W.heap.size = w9.heap.size) := by
 have k : ∀ (W : World) (j : Nat) (v : Value), (W.setCell ⟨g, j, none⟩ v).os = W.os ∧ (W.setCell ⟨g, j, none⟩ v).tape = W.tape ∧ (W.setCell ⟨g, j, none⟩ v).output = W.output ∧ (W.setCell ⟨g, j, none⟩ v).heap.size = W.heap.size := fun W j v => ⟨rfl, rfl, rfl, by simp⟩
 refine ⟨_, rfl, ?_, fun q hq => ?_, ?_⟩
 · have b0 := heap_setCell_same w9 g 0 _ _ y0 h
   have b1 := heap_setCell_same _ g 1 _ _ y1 b0
   have b2 := heap_setCell_same _ g 2 _ _ y2 b1
   have b3 := heap_setCell_same _ g 3 _ _ y3 b2
   have b4 := heap_setCell_same _ g 4 _ _ y4 b3
   have b5 := heap_setCell_same _ g 5 _ _ y5 b4
   simpa using b5
 · rw [heap_setCell_other _ ⟨g, 5, none⟩ q _ hq, heap_setCell_other _ ⟨g, 4, none⟩ q _ hq, heap_setCell_other _ ⟨g, 3, none⟩ q _ hq, heap_setCell_other _ ⟨g, 2, none⟩ q _ hq, heap_setCell_other _ ⟨g, 1, none⟩ q _ hq, heap_setCell_other _ ⟨g, 0, none⟩ q _ hq]
 · obtain ⟨a1, a2, a3, a4⟩ := k w9 0 y0
   obtain ⟨b1, b2, b3, b4⟩ := k (w9.setCell ⟨g, 0, none⟩ y0) 1 y1
   obtain ⟨c1, c2, c3, c4⟩ := k ((w9.setCell ⟨g, 0, none⟩ y0).setCell ⟨g, 1, none⟩ y1) 2 y2
   obtain ⟨d1, d2, d3, d4⟩ := k (((w9.setCell ⟨g, 0, none⟩ y0).setCell ⟨g, 1, none⟩ y1).setCell ⟨g, 2, none⟩ y2) 3 y3
   obtain ⟨e1, e2, e3, e4⟩ := k ((((w9.setCell ⟨g, 0, none⟩ y0).setCell ⟨g, 1, none⟩ y1).setCell ⟨g, 2, none⟩ y2).setCell ⟨g, 3, none⟩ y3) 4 y4
   obtain ⟨f1, f2, f3, f4⟩ := k (((((w9.setCell ⟨g, 0, none⟩ y0).setCell ⟨g, 1, none⟩ y1).setCell ⟨g, 2, none⟩ y2).setCell ⟨g, 3, none⟩ y3).setCell ⟨g, 4, none⟩ y4) 5 y5
   exact ⟨by rw [f1, e1, d1, c1, b1, a1], by rw [f2, e2, d2, c2, b2, a2], by rw [f3, e3, d3, c3, b3, a3], by rw [f4, e4, d4, c4, b4, a4]⟩
theorem own_pre {b0 c : Nat} {e : TypeId} {A : Option Addr} {l : List UInt8} (h : Own w b0 e A c l) (k : Nat) : Own w b0 e A c (l.take k) := by
 unfold Own at h ⊢
 obtain ⟨h1, h2⟩ := h
 have e1 : bv (l.take k) = (bv l).take k := by unfold bv; rw [List.map_take]
 refine ⟨by unfold bv; simp, ?_⟩
 rcases h2 with ⟨hv, hn⟩ | ⟨g, cap, cur, hv, hg, hh, hnc, hcm, hs, ht⟩
 · have hl : l = [] := List.eq_nil_of_length_eq_zero hn
   subst hl
   left
   rw [List.take_nil]
   exact ⟨hv, rfl⟩
 · right
   injection hv with q1 q2 q3
   refine ⟨g, cap, cur, by rw [q1, q3], hg, hh, by rw [List.length_take]; omega, hcm, hs, ?_⟩
   rw [e1, ← ht, List.take_take, List.length_take]
   congr 1
   omega
def crMem (m : Mem) (nm : Nat) : Mem := { m with mn := m.md, md := nm, KA := none, kc := 0, vs := [], PA := none, pc := 0 }
theorem CrI.done (hs : StAt w base g s m) {D : Dir} {A3 : Option Addr} {c3 nm : Nat} {w9 W : World} {changes : Int} {keep : List Int} (h : CrI w m s.files.length D A3 c3 (cutAll keep 0 (ids D) s.files) w9) (hD : D = (s.kept.take changes.toNat).foldl made s.disk)
   (hd2 : DirAt w9 nm m.bs D) (hnm : w.heap.size ≤ nm) (hg : W.heap[g]? = some (stObj (crMem m nm) (crash s changes keep))) (hk : ∀ q, q ≠ g → W.heap[q]? = w9.heap[q]?) (ho : W.os = w9.os ∧ W.tape = w9.tape ∧ W.output = w9.output ∧ W.heap.size = w9.heap.size) :
   StAt W base g (crash s changes keep) (crMem m nm) ∧ Aft0 w W g m (crMem m nm) := by
 obtain ⟨h1, h2, h3, h4⟩ := h.same
 have hok := hs.r.ok.crash changes keep
 have hfl : (crash s changes keep).files = cutAll keep 0 (ids D) s.files := by rw [hD]; rfl
 have hnow : (crash s changes keep).now = D := hD.symm
 have hgl := hs.r.gt.lt
 have hgd : DirAt W m.md m.bs D := ownsMap_keepS h.hd (hk _ (hs.r.gt.map_ne hs.r.disk))
 have hG := hs.r.ok.hist changes.toNat
 rw [← hD] at hG
 have hlen : (crash s changes keep).files.length = s.files.length := by rw [hfl, cutAll_len]
 refine ⟨⟨hg, ⟨_, _, hg⟩, hs.r.gb, by rw [hnow]; exact hgd, ?_, hs.r.db, Nat.le_trans hs.r.gb (Nat.le_trans (Nat.le_of_lt hgl) hnm), Nat.ne_of_lt (Nat.lt_of_lt_of_le hs.r.disk.lt hnm), by rw [hlen]; exact hs.r.bsl, by rw [hlen]; exact hs.r.rwl, fun i hi => ?_, hs.r.bb, hs.r.bnd, fun i j hi hj => by
   rw [hlen] at hi hj
   exact hs.r.rnd i j hi hj, OwnS.nil _ _ _, rfl, (fun i c v hc _ => by cases hc), RdB.nil, Nat.le_refl _, Nat.zero_le _, (fun k e => by cases e), hok⟩, ⟨ho.1.trans h1, ho.2.1.trans h2, ho.2.2.1.trans h3, by rw [ho.2.2.2]; exact h4, fun q hq hn => ?_, fun q hq hm => ?_⟩⟩
 · show DirAt W nm m.bs (crash s changes keep).disk
   have e : (crash s changes keep).disk = D := hD.symm
   rw [e]
   exact ownsMap_keepS hd2 (hk _ (by omega))
 · rw [hlen] at hi
   have e1 : (crash s changes keep).files[i]'(by rw [hlen]; exact hi) = (cutAll keep 0 (ids D) s.files).getD i ⟨[], 0⟩ := by
     rw [List.getD_eq_getElem?_getD, List.getElem?_eq_getElem (by rw [cutAll_len]; exact hi)]
     simp only [hfl]; rfl
   have e2 : s.files.getD i ⟨[], 0⟩ = s.files[i] := by rw [List.getD_eq_getElem?_getD, List.getElem?_eq_getElem hi]; rfl
   have hbl := h.fl i hi
   have htg := h.tag hi
   have hbm := bs_mem (m := m) (i := i) (by rw [hs.r.bsl]; exact hi)
   have hne : m.bs.getD i 0 ≠ g := (hs.r.bs_tag hbm).ne hs.r.gt (by decide)
   have hpre : ∃ k, ((cutAll keep 0 (ids D) s.files).getD i ⟨[], 0⟩).b = s.files[i].b.take k := by
     have hc := cutAll_at keep (ids D) 0 s.files hG.nd hs.r.ok.sure hG.lt i
     by_cases hm : i ∈ ids D
     · obtain ⟨k, _, e⟩ := hc.1 hm
       rw [e, e2]; exact ⟨_, rfl⟩
     · rw [hc.2 hm, e2]
       exact ⟨s.files[i].b.length, by simp⟩
   obtain ⟨k, hkb⟩ := hpre
   refine ⟨?_, ?_⟩
   · rw [e1]
     exact (hk _ hne).trans hbl
   · rw [e1, hkb]
     refine own_keepS (own_pre (hs.r.fl i hi).own k) (fun q e => ?_)
     have hrm := row_mem (m := m) (i := i) (by rw [hs.r.rwl]; exact hi)
     have t := hs.r.row_tag hrm e
     rw [hk _ (t.ne hs.r.gt (by decide)), h.hk q t.lt (fun e3 => t.map_ne hs.r.disk e3.symm) (fun hm => t.ne (hs.r.bs_tag hm) (by decide) rfl)]
 · rw [hk q (fun e => hn (.inl e)), h.hk q hq (fun e => hn (.inr (.inr (.inl e)))) (fun e => hn (.inr (.inr (.inr (.inl e)))))]
 · rcases hm with e | e | e | e | e | e
   · exact .inl e
   · exact .inr (.inr (.inl e))
   · have e : q = nm := e
     omega
   · exact .inr (.inr (.inr (.inl e)))
   · cases e
   · exact .inr (.inr (.inr (.inr (.inr e))))
set_option maxHeartbeats 1000000 in
set_option maxRecDepth 100000 in
theorem crash_any (h : StAt w base g s m) (changes : Int) (KA : Option Addr) (kc : Nat) (keep : List Int) (hk : RdS I1 1 w base KA keep) (hkl2 : keep.length ≤ 9223372036854775807) (hl : s.kept.length ≤ 1000000) (hf : s.files.length ≤ 1000000) :
   Calls Tryz.prog 27 #[.pointer (some ⟨g, 0, none⟩), .int .i64 changes, .slice KA keep.length kc] w fun e w' => e = .returned (.tuple #[]) ∧ ∃ m', StAt w' base g (crash s changes keep) m' ∧ Aft0 w w' g m m' := by
 have H := hid h
 obtain ⟨c0, c1, c2, c3, c4, c5⟩ := h.cells
 have hkl := h.r.kl
 have hcap := h.r.krow.cap
 rw [hkl] at c3 hcap
 obtain ⟨nk, hnk⟩ : ∃ nk, nk = s.kept.length := ⟨_, rfl⟩
 rw [← hnk] at c3 hl hcap
 have HNK := hid hnk
 obtain ⟨u, hu⟩ : ∃ u : Nat, min (max changes 0) (nk : Int) = (u : Int) := ⟨(min (max changes 0) (nk : Int)).toNat, by omega⟩
 have hun : u ≤ nk := by omega
 have HU : Hid (s.kept.take changes.toNat = s.kept.take u) := hid (by
   rcases Nat.lt_or_ge changes.toNat nk with h1 | h1
   · have : u = changes.toNat := by omega
     rw [this]
   · rw [List.take_of_length_le (by omega), List.take_of_length_le (by omega)])
 have hi0 : (0 : Int) ≤ (u : Int) := by omega
 have hi1 : (u : Int) ≤ (m.kc : Int) := by omega
 obtain ⟨RA, hRA⟩ : ∃ RA, RA = m.KA := ⟨_, rfl⟩
 rw [← hRA] at c3
 have HRA := hid hRA
 clear h hkl hnk hRA
 go_enter Tryz.func27, Tryz.ntmps27
 go_wp2_with fail
 go_quiet (fail)
 refine drewN_of (fun X hbX hXh => ?_)
 have HA0 := hid (CrA.start H.out hbX)
 clear hbX hXh
 have HKV := hid hk
 obtain ⟨D, hD⟩ : ∃ D, D = (s.kept.take u).foldl made s.disk := ⟨_, rfl⟩
 have HD := hid hD
 clear hk c0 c1 c2 c3 c4 c5 hD
 go_wp2_with fail
 go_loopw [31] (fun i wr => ∃ k : Nat, k ≤ u ∧ i = .int .i64 (k : Int) ∧ Hid (CrA w m ((s.kept.take k).foldl made s.disk) wr)) (fun i _ => u - (intOf i).toNat)
 case atStart => exact ⟨0, by omega, rfl, HA0⟩
 case round =>
   obtain ⟨k, hku, rfl, HA⟩ := hrel
   by_cases hlt : k < u
   · have hkk : k < s.kept.length := by have := HNK.out; omega
     have hkv : k < m.vs.length := by have := H.out.r.kl; omega
     have hrow : OwnS V1 1 wr base 123 m.KA m.kc m.vs := H.out.r.krow.keep (fun q e => by
       have t := ownTagS H.out.r.krow e
       exact HA.out.hk q t.lt (fun e2 => t.map_ne H.out.r.disk e2.symm))
     rw [← HRA.out] at hrow
     obtain ⟨b, off, hA, hb, hc⟩ := RdS.row (f := V1) (n := 1) (fun _ => rfl) (by omega) hrow.rd (by omega)
     have r0 := hc k hkv 0 _ rfl
     rw [Nat.add_zero, Nat.mul_one] at r0
     obtain ⟨v, hv⟩ : ∃ v, v = m.vs[k] := ⟨_, rfl⟩
     obtain ⟨c, hcc⟩ : ∃ c, c = s.kept[k] := ⟨_, rfl⟩
     have hok : KcOk w m.bs c v := H.out.r.kok k c v (by rw [hcc]; exact List.getElem?_eq_getElem hkk) (by rw [hv]; exact List.getElem?_eq_getElem hkv)
     have hdl : ((s.kept.take k).foldl made s.disk).length < maxLen := by
       have h1 := (H.out.r.ok.hist k).len
       unfold maxLen; omega
     have KK := hid (kept_any H.out HA.out hok hdl)
     have hen := kept_enters hok
     have hnext : (s.kept.take (k + 1)).foldl made s.disk = made ((s.kept.take k).foldl made s.disk) c := by
       rw [List.take_succ_eq_append_getElem hkk, List.foldl_append, hcc]; rfl
     rw [← hnext] at KK
     rw [← hv] at r0
     obtain ⟨K, cb⟩ := v
     simp only [Cl.val] at r0 KK hen
     subst hA
     clear hc hv hcc hok hdl hnext hrow
     go_wp2_with fail
     refine KK.out.mono ?_
     rintro e w1 ⟨rfl, hA1⟩
     have HA1 := hid hA1
     clear hA1 KK
     go_wp2_with fail
     exact ⟨⟨k + 1, hlt, by simp, HA1⟩, by simp only [intOf]; omega⟩
   · have hke : k = u := by omega
     have HA1 : Hid (CrA w m D wr) := hid (by rw [HD.out, ← hke]; exact HA.out)
     have hg : Good s.files.length D := by rw [HD.out]; exact H.out.r.ok.hist u
     have hdl : D.length ≤ 1000000 := Nat.le_trans hg.len hf
     have KK := hid (dkeys_any wr m.md)
     have KS := hid (dsorted_any HA1.out.hd hg.srt hdl)
     have HG := hid hg
     clear HA hke hg
     go_wp2_with fail
     refine KK.out.mono ?_
     rintro e w2 ⟨rfl, rfl⟩
     go_wp2_with fail
     refine KS.out.mono ?_
     rintro e w3 ⟨A3, c3, rfl, ho3, hb3⟩
     have HO3 := hid ho3
     have HB3 := hid hb3
     clear ho3 hb3 KK KS
     have HI0 : Hid (CrI w m s.files.length D A3 c3 (cutAll keep 0 ((ids D).take 0) s.files) w3) := hid (CrI.start H.out HA1.out HB3.out HO3.out)
     have hdl2 : (D.map (·.1)).length ≤ 1000000 := by rw [List.length_map]; exact hdl
     obtain ⟨nd, hnd⟩ : ∃ nd, nd = (D.map (·.1)).length := ⟨_, rfl⟩
     have HND := hid hnd
     rw [← hnd] at hdl2 ⊢
     clear hnd hdl HA1 HO3 HB3
     go_wp2_with fail
     go_loopw [43] (fun i wr => ∃ k : Nat, k ≤ nd ∧ i = .int .i64 (k : Int) ∧ Hid (CrI w m s.files.length D A3 c3 (cutAll keep 0 ((ids D).take k) s.files) wr)) (fun i _ => nd - (intOf i).toNat)
     case atStart => exact ⟨0, by omega, rfl, HI0⟩
     case round =>
       obtain ⟨k, hk, rfl, HI⟩ := hrel
       by_cases hlt : k < nd
       · have hkn : k < (D.map (·.1)).length := by rw [← HND.out]; exact hlt
         have hkd : k < D.length := by rw [List.length_map] at hkn; exact hkn
         obtain ⟨b, off, hA, hb, hc⟩ := RdS.row (f := S1) (n := 1) (fun _ => rfl) (by omega) HI.out.nm.rd (by omega)
         have r0 := hc k hkn 0 _ rfl
         rw [Nat.add_zero, Nat.mul_one] at r0
         obtain ⟨p, hp⟩ : ∃ p, p = D[k] := ⟨_, rfl⟩
         have hpm : p ∈ D := by rw [hp]; exact List.getElem_mem _
         have hpk : (D.map (·.1))[k] = p.1 := by rw [List.getElem_map, hp]
         rw [hpk] at r0
         have hkey := hkey p.1 (dir_name HI.out.hd hpm)
         obtain ⟨S, hS⟩ : ∃ S, S = (⟨p.1.toArray⟩ : ByteArray) := ⟨_, rfl⟩
         have r0' : wr.cell? ⟨b, off + k, none⟩ = some (.string S) := by rw [hS]; exact r0
         rw [← hS] at hkey
         have hfd := HG.out.srt.find (n := p.1) (i := p.2) hpm
         have hlook := look_plain HI.out.hd hkey hfd
         have hpi : p.2 < s.files.length := HG.out.lt _ (List.mem_map_of_mem hpm)
         obtain ⟨B, hB⟩ : ∃ B, B = m.bs.getD p.2 0 := ⟨_, rfl⟩
         obtain ⟨F, hF⟩ : ∃ F, F = cutAll keep 0 ((ids D).take k) s.files := ⟨_, rfl⟩
         have hFs : F.getD p.2 ⟨[], 0⟩ = s.files[p.2] := by
           have hnd := HG.out.nd
           have h1 := (cutAll_at keep ((ids D).take k) 0 s.files (hnd.sublist (List.take_sublist _ _)) H.out.r.ok.sure (fun i hi => HG.out.lt i (List.mem_of_mem_take hi)) p.2).2 (fun hm => by
             obtain ⟨j, hj, e⟩ := List.getElem_of_mem hm
             rw [List.length_take] at hj
             rw [List.getElem_take] at e
             have hki : k < (ids D).length := by unfold ids; rw [List.length_map]; exact hkd
             have e2 : (ids D)[k] = p.2 := by rw [hp]; simp [ids]
             have e3 := (List.getElem_inj hnd).1 (e.trans e2.symm)
             omega)
           rw [hF, h1, List.getD_eq_getElem?_getD, List.getElem?_eq_getElem hpi]; rfl
         have hfb := HI.out.fl p.2 hpi
         rw [← hF, hFs, ← hB] at hfb
         rw [← hB] at hlook
         obtain ⟨f, hf⟩ : ∃ f, f = s.files[p.2] := ⟨_, rfl⟩
         rw [← hf] at hfb hFs
         have hsu : f.sure ≤ f.b.length := by rw [hf]; exact H.out.r.ok.sure _ (List.getElem_mem _)
         have hln : f.b.length ≤ 16777216 := by rw [hf]; exact H.out.r.ok.len _ (List.getElem_mem _)
         have hcp : f.b.length ≤ (m.row p.2).2 := by rw [hf]; exact (H.out.r.fl p.2 hpi).own.cap
         have hcm : (m.row p.2).2 ≤ 9223372036854775807 := own_cap_le (H.out.r.fl p.2 hpi).own
         obtain ⟨n, hn⟩ : ∃ n : Nat, n = (match keep[k]? with | some x => (min (max x 0) ((f.b.length : Int) - (f.sure : Int))).toNat | none => 0) := ⟨_, rfl⟩
         have hnl : f.sure + n ≤ f.b.length := by
           rw [hn]
           rcases keep[k]? with _ | x
           · simpa using hsu
           · simp only; omega
         have HNZ : Hid (¬ k < keep.length → n = 0) := hid (fun h => by rw [hn, List.getElem?_eq_none (by omega)])
         have HNY : Hid (∀ h : k < keep.length, min (max keep[k] 0) ((f.b.length : Int) - (f.sure : Int)) = (n : Int)) := hid (fun h => by rw [hn, List.getElem?_eq_getElem h]; simp only; omega)
         have HCUT : Hid (cut keep k f = ⟨f.b.take (f.sure + n), f.sure + n⟩) := hid (by unfold cut; rw [hn]; rfl)
         have hnx : (f.b.take (f.sure + n)).length = f.sure + n := by rw [List.length_take]; omega
         have HNX : Hid (∀ X, Below wr.heap.size wr X → CrI w m s.files.length D A3 c3 (cutAll keep 0 ((ids D).take (k + 1)) s.files) ((X.setCell ⟨B, 0, none⟩ (.slice (m.row p.2).1 (f.sure + n) (m.row p.2).2)).setCell ⟨B, 1, none⟩ (.int .i64 ((f.sure + n : Nat) : Int)))) := hid (fun X hbX => by
           have hki : k < (ids D).length := by unfold ids; rw [List.length_map]; exact hkd
           have e2 : (ids D)[k] = p.2 := by rw [hp]; simp [ids]
           have e4 : cutAll keep 0 ((ids D).take (k + 1)) s.files = F.set p.2 ⟨f.b.take (f.sure + n), f.sure + n⟩ := by
             rw [List.take_succ_eq_append_getElem hki, cutAll_snoc, ← hF, e2, hFs, Nat.zero_add, List.length_take, Nat.min_eq_left (Nat.le_of_lt hki), HCUT.out]
           have h9 := (HI.out.below hbX).step H.out hpi (cutAll_len _ _ _ _) ⟨f.b.take (f.sure + n), f.sure + n⟩
           rw [e4, hB]
           simp only [hnx] at h9
           rw [← hF] at h9
           exact h9)
         have b0 : wr.cell? ⟨B, 0, none⟩ = some (.slice (m.row p.2).1 f.b.length (m.row p.2).2) := by rw [cell_of_row wr B 0 _ _ (0, 0) hfb]; rfl
         have b1 : wr.cell? ⟨B, 1, none⟩ = some (.int .i64 (f.sure : Int)) := by rw [cell_of_row wr B 1 _ _ (0, 0) hfb]; rfl
         have HFB := hid hfb
         subst hA
         clear hc r0 hS hp hpm hpk hfd hB hfb hFs hF hf hn hkd hkn hkey hnx
         obtain ⟨rA, hrA⟩ : ∃ rA, rA = (m.row p.2).1 := ⟨_, rfl⟩
         obtain ⟨rc, hrc⟩ : ∃ rc, rc = (m.row p.2).2 := ⟨_, rfl⟩
         rw [← hrA, ← hrc] at HNX b0
         rw [← hrc] at hcp hcm
         rw [← hrA, ← hrc] at HFB
         obtain ⟨fl, hfl⟩ : ∃ fl, fl = f.b.length := ⟨_, rfl⟩
         rw [← hfl] at hsu hln hcp hnl HNY b0 HFB
         obtain ⟨fs, hfs⟩ : ∃ fs, fs = f.sure := ⟨_, rfl⟩
         rw [← hfs] at hsu hnl HNY HNX b1 HFB
         clear hrA hrc hfl hfs
         have HKW : Hid (∀ h : k < keep.length, ∃ b4 off4, KA = some ⟨b4, off4, none⟩ ∧ wr.cell? ⟨b4, off4 + k, none⟩ = some (.int .i64 keep[k])) := hid (fun h => by
           obtain ⟨b4, off4, h1, h2, h3⟩ := RdS.row (f := I1) (n := 1) (fun _ => rfl) (by omega) HKV.out (by omega)
           have h4 := h3 k h 0 _ rfl
           rw [Nat.add_zero, Nat.mul_one] at h4
           refine ⟨b4, off4, h1, ?_⟩
           have h5 : b4 < base := h2
           rw [World.cell?_of_block (HI.out.hk b4 (by have := H.out.r.gb; have := H.out.r.gt.lt; omega) (by have := H.out.r.db; omega) (fun hm => by have := H.out.r.bb _ hm; omega))]
           exact h4)
         go_upto_if 54 with fail
         go_cut [12] (fun v wx => v = .int .i64 (n : Int) ∧ Hid (Below wr.heap.size wr wx))
         case first =>
           by_cases hkk : k < keep.length
           · obtain ⟨b4, off4, hA4, r4⟩ := HKW.out hkk
             have e2 := HNY.out hkk
             obtain ⟨x, hx⟩ : ∃ x, x = keep[k] := ⟨_, rfl⟩
             rw [← hx] at r4 e2
             have e1 : IntKind.i64.wrap ((fl : Int) - (fs : Int)) = (fl : Int) - (fs : Int) := by rw [IntKind.wrap_i64]; omega
             subst hA4
             clear hx
             have i1 : (0 : Int) ≤ (k : Int) := by omega
             have i2 : (k : Int) < (keep.length : Int) := by omega
             go_wp2_with fail
             go_quiet (fail)
             refine drewN_of (fun Y hbY hYh => ?_)
             have HBY := hid hbY
             clear hbY hYh
             go_wp2_with fail
             go_meet
             exact ⟨rfl, HBY⟩
           · have hn0 := HNZ.out hkk
             subst hn0
             go_wp2_with fail
             go_meet
             exact ⟨rfl, hid (Below.refl _ _)⟩
         case rest =>
           obtain ⟨rfl, HBW⟩ := hcut
           have HNX1 := hid (fun Y (hbY : Below wc.heap.size wc Y) => HNX.out Y (HBW.out.trans (hbY.mono HBW.out.size)))
           have HFBW : Hid (wc.heap[B]? = some (.cells #[.slice rA fl rc, .int .i64 (fs : Int)] 130)) := hid ((HBW.out.block B (Array.getElem?_eq_some_iff.1 HFB.out).1).trans HFB.out)
           clear b0 b1 HKW HNY HNZ HBW
           go_wp2_with fail
           obtain ⟨V, hV⟩ : ∃ V, wc.drew = V := ⟨_, rfl⟩
           have hbV : Below wc.heap.size wc V := by rw [← hV]; exact (Below.refl _ _).drew
           have hfv : V.heap[B]? = some (.cells #[.slice rA fl rc, .int .i64 (fs : Int)] 130) := (hbV.block B (Array.getElem?_eq_some_iff.1 HFBW.out).1).trans HFBW.out
           have v0 : V.cell? ⟨B, 0, none⟩ = some (.slice rA fl rc) := by rw [cell_of_row V B 0 _ _ (0, 0) hfv]; rfl
           have v1 : V.cell? ⟨B, 1, none⟩ = some (.int .i64 (fs : Int)) := by rw [cell_of_row V B 1 _ _ (0, 0) hfv]; rfl
           have fz : V.frozen? ⟨B, 0, none⟩ = false := frozen_of_row V B 0 _ _ hfv
           have hw1 := heap_setCell_same V B 0 _ _ (.slice rA (fs + n) rc) hfv
           have x0 : (V.setCell ⟨B, 0, none⟩ (.slice rA (fs + n) rc)).cell? ⟨B, 0, none⟩ = some (.slice rA (fs + n) rc) := by rw [cell_of_row _ B 0 _ _ (0, 0) hw1]; rfl
           have x1 : (V.setCell ⟨B, 0, none⟩ (.slice rA (fs + n) rc)).cell? ⟨B, 1, none⟩ = some (.int .i64 (fs : Int)) := by rw [cell_of_row _ B 1 _ _ (0, 0) hw1]; rfl
           have fx : (V.setCell ⟨B, 0, none⟩ (.slice rA (fs + n) rc)).frozen? ⟨B, 1, none⟩ = false := frozen_of_row _ B 1 _ _ hw1
           have e1 : IntKind.i64.wrap ((fs : Int) + (n : Int)) = (fs : Int) + (n : Int) := by rw [IntKind.wrap_i64]; omega
           have e2 : ((fs : Int) + (n : Int)).toNat = fs + n := by omega
           have i1 : (0 : Int) ≤ (fs : Int) + (n : Int) := by omega
           have i2 : (fs : Int) + (n : Int) ≤ (rc : Int) := by omega
           have hres := HNX1.out V hbV
           rw [Int.natCast_add] at hres
           have HRES := hid hres
           clear hres
           refine wp_region_E 14 (fun w' => w'.cell? ⟨B, 0, none⟩ = some (.slice rA fl rc) ∧ w'.cell? ⟨B, 1, none⟩ = some (.int .i64 (fs : Int))) (by kernel_rfl) ?_
           rw [hV]
           have HS0 : V.cell? ⟨B, 0, none⟩ = some (.slice rA fl rc) ∧ V.cell? ⟨B, 1, none⟩ = some (.int .i64 (fs : Int)) := ⟨v0, v1⟩
           clear hV hbV hfv hw1 HNX HNX1
           refine wT (i := 0) (v := ?_) rfl (Or.inl ⟨by rfl, ?_⟩) HS0 ?_
           rotate_left
           · (intro wy hSw; obtain ⟨s1x, s2x⟩ := hSw; go_simp; try with_reducible rfl)
           try simp only [Act.put, List.setIfInBounds_toArray]
           refine wT (i := 1) (v := ?_) rfl (Or.inl ⟨by rfl, ?_⟩) HS0 ?_
           rotate_left
           · (intro wy hSw; obtain ⟨s1x, s2x⟩ := hSw; go_simp; try with_reducible rfl)
           try simp only [Act.put]
           refine wT (i := 2) (v := ?_) rfl (Or.inl ⟨by rfl, ?_⟩) HS0 ?_
           rotate_left
           · (intro wy hSw; obtain ⟨s1x, s2x⟩ := hSw; go_simp; try with_reducible rfl)
           try simp only [Act.put]
           refine wT (i := 3) (v := ?_) rfl (Or.inl ⟨by rfl, ?_⟩) HS0 ?_
           rotate_left
           · (intro wy hSw; obtain ⟨s1x, s2x⟩ := hSw; go_simp; try with_reducible rfl)
           try simp only [Act.put]
           refine wT (i := 4) (v := ?_) rfl (Or.inl ⟨by rfl, ?_⟩) HS0 ?_
           rotate_left
           · (intro wy hSw; obtain ⟨s1x, s2x⟩ := hSw; go_simp; try with_reducible rfl)
           try simp only [Act.put]
           refine wT (i := 5) (v := ?_) rfl (Or.inl ⟨by rfl, ?_⟩) HS0 ?_
           rotate_left
           · (intro wy hSw; obtain ⟨s1x, s2x⟩ := hSw; go_simp; try with_reducible rfl)
           try simp only [Act.put]
           refine wT (i := 6) (v := ?_) rfl (Or.inl ⟨by rfl, ?_⟩) HS0 ?_
           rotate_left
           · (intro wy hSw; obtain ⟨s1x, s2x⟩ := hSw; go_simp; try with_reducible rfl)
           try simp only [Act.put]
           refine wT (i := 7) (v := ?_) rfl (Or.inl ⟨by rfl, ?_⟩) HS0 ?_
           rotate_left
           · (intro wy hSw; obtain ⟨s1x, s2x⟩ := hSw; go_simp; try with_reducible rfl)
           try simp only [Act.put]
           refine wT (i := 8) (v := ?_) rfl (Or.inl ⟨by rfl, ?_⟩) HS0 ?_
           rotate_left
           · (intro wy hSw; obtain ⟨s1x, s2x⟩ := hSw; go_simp; try with_reducible rfl)
           try simp only [Act.put]
           refine wT (i := 9) (v := ?_) rfl (Or.inl ⟨by rfl, ?_⟩) HS0 ?_
           rotate_left
           · (intro wy hSw; obtain ⟨s1x, s2x⟩ := hSw; go_simp; try with_reducible rfl)
           try simp only [Act.put]
           refine wpAnyE_one (i := 10) (by kernel_rfl) rfl (fun K hK => ?_)
           go_simp
           refine hK _ _ HS0 ?_
           clear hK K
           refine wpAnyE_one (i := 11) (by kernel_rfl) rfl (fun K hK => ?_)
           go_simp
           refine hK _ _ HS0 ?_
           clear hK K
           refine wpAnyE_one (i := 12) (by kernel_rfl) rfl (fun K hK => ?_)
           go_simp
           refine hK _ _ HS0 ?_
           clear hK K
           refine wpAnyE_one (i := 13) (by kernel_rfl) rfl (fun K hK => ?_)
           go_simp
           refine hK _ _ HS0 ?_
           clear hK K
           refine wpAnyE_last (by kernel_rfl) (by kernel_rfl) rfl (fun K hK => ?_)
           go_simp
           refine hK _ _ ?_
           clear v0 v1 fz HS0 e1 e2 i1 i2
           go_wp2_with fail
           exact ⟨⟨k + 1, hlt, by simp, HRES⟩, by simp only [intOf]; omega⟩
       · have hke : k = nd := by omega
         have HI1 : Hid (CrI w m s.files.length D A3 c3 (cutAll keep 0 (ids D) s.files) wr) := hid (by
           have h9 := HI.out
           have h10 : (ids D).length = nd := by rw [HND.out]; simp [ids]
           rw [hke, List.take_of_length_le (by omega)] at h9
           exact h9)
         clear HI hke
         have hbg : wr.heap[g]? = some (stObj m s) := (HI1.out.hk g H.out.r.gt.lt (fun e => H.out.r.gt.map_ne H.out.r.disk e.symm) (fun hm => (H.out.r.gt.ne (H.out.r.bs_tag hm) (by decide)) rfl)).trans H.out.box
         go_wp2_with fail
         obtain ⟨V, hV⟩ : ∃ V, wr.drew = V := ⟨_, rfl⟩
         have hbV : Below wr.heap.size wr V := by rw [← hV]; exact (Below.refl _ _).drew
         have HI2 := hid (HI1.out.below hbV)
         have hgv : V.heap[g]? = some (stObj m s) := (hbV.block g (Array.getElem?_eq_some_iff.1 hbg).1).trans hbg
         have HGV := hid hgv
         have KC := hid (dclone_any HI2.out.hd)
         have HS0 : V.cell? ⟨g, 0, none⟩ = some (.int .i64 s.room) := by rw [cell_of_row V g 0 _ _ (0, 0) hgv]; rfl
         refine wp_region_E 10 (fun w' => w'.cell? ⟨g, 0, none⟩ = some (.int .i64 s.room)) (by kernel_rfl) ?_
         rw [hV]
         clear hV hbV hbg hgv
         refine wT (i := 0) (v := ?_) rfl (Or.inl ⟨by rfl, ?_⟩) HS0 ?_
         rotate_left
         · (intro wy hSw; go_simp; try with_reducible rfl)
         try simp only [Act.put, List.setIfInBounds_toArray]
         refine wT (i := 1) (v := ?_) rfl (Or.inl ⟨by rfl, ?_⟩) HS0 ?_
         rotate_left
         · (intro wy hSw; go_simp; try with_reducible rfl)
         try simp only [Act.put]
         refine wT (i := 2) (v := ?_) rfl (Or.inl ⟨by rfl, ?_⟩) HS0 ?_
         rotate_left
         · (intro wy hSw; go_simp; try with_reducible rfl)
         try simp only [Act.put]
         refine wT (i := 3) (v := ?_) rfl (Or.inl ⟨by rfl, ?_⟩) HS0 ?_
         rotate_left
         · (intro wy hSw; go_simp; try with_reducible rfl)
         try simp only [Act.put]
         refine wT (i := 4) (v := ?_) rfl (Or.inl ⟨by rfl, ?_⟩) HS0 ?_
         rotate_left
         · (intro wy hSw; go_simp; try with_reducible rfl)
         try simp only [Act.put]
         refine wT (i := 5) (v := ?_) rfl (Or.inl ⟨by rfl, ?_⟩) HS0 ?_
         rotate_left
         · (intro wy hSw; go_simp; try with_reducible rfl)
         try simp only [Act.put]
         refine wT (i := 6) (v := ?_) rfl (Or.inl ⟨by rfl, ?_⟩) HS0 ?_
         rotate_left
         · (intro wy hSw; go_simp; try with_reducible rfl)
         try simp only [Act.put]
         refine wpAnyE_one (i := 7) (by kernel_rfl) rfl (fun K hK => ?_)
         go_simp
         refine KC.out.mono ?_
         rintro e w9 ⟨rfl, hd9, hd9b, hb9⟩
         have HI3 := hid (HI2.out.below hb9)
         have hg9 : w9.heap[g]? = some (stObj m s) := (hb9.block g (Array.getElem?_eq_some_iff.1 HGV.out).1).trans HGV.out
         have HS1 : w9.cell? ⟨g, 0, none⟩ = some (.int .i64 s.room) := by rw [cell_of_row w9 g 0 _ _ (0, 0) hg9]; rfl
         have HD9 := hid hd9
         have HG9 := hid hg9
         have HVZ : Hid (w.heap.size ≤ V.heap.size) := hid HI2.out.same.2.2.2
         refine hK _ _ HS1 ?_
         clear hK K HS0 hd9 hd9b hb9 KC hg9
         refine wpAnyE_one (i := 8) (by kernel_rfl) rfl (fun K hK => ?_)
         go_simp
         refine hK _ _ HS1 ?_
         clear hK K
         refine wpAnyE_one (i := 9) (by kernel_rfl) rfl (fun K hK => ?_)
         go_simp
         refine hK _ _ HS1 ?_
         clear hK K
         refine wpAnyE_last (by kernel_rfl) (by kernel_rfl) rfl (fun K hK => ?_)
         have d1 : w9.cell? ⟨g, 1, none⟩ = some (.map (some m.mn)) := by rw [cell_of_row w9 g 1 _ _ (0, 0) HG9.out]; rfl
         have d2 : w9.cell? ⟨g, 2, none⟩ = some (.map (some m.md)) := by rw [cell_of_row w9 g 2 _ _ (0, 0) HG9.out]; rfl
         have d3 : w9.cell? ⟨g, 3, none⟩ = some (.slice m.KA m.vs.length m.kc) := by rw [cell_of_row w9 g 3 _ _ (0, 0) HG9.out]; rfl
         have d4 : w9.cell? ⟨g, 4, none⟩ = some (.slice m.PA s.plan.length m.pc) := by rw [cell_of_row w9 g 4 _ _ (0, 0) HG9.out]; rfl
         have d5 : w9.cell? ⟨g, 5, none⟩ = some (.bool s.off) := by rw [cell_of_row w9 g 5 _ _ (0, 0) HG9.out]; rfl
         have g0 := frozen_of_row w9 g 0 _ _ HG9.out
         have g1 := frozen_of_row w9 g 1 _ _ HG9.out
         have g2 := frozen_of_row w9 g 2 _ _ HG9.out
         have g3 := frozen_of_row w9 g 3 _ _ HG9.out
         have g4 := frozen_of_row w9 g 4 _ _ HG9.out
         have g5 := frozen_of_row w9 g 5 _ _ HG9.out
         obtain ⟨W, hW, hWg, hWk, hWo⟩ := set6 HG9.out (.int .i64 s.room) (.map (some m.md)) (.map (some V.heap.size)) (.slice none 0 0) (.slice none 0 0) (.bool false)
         have HFIN : Hid (∃ m', StAt W base g (crash s changes keep) m' ∧ Aft0 w W g m m') := hid ⟨crMem m V.heap.size, CrI.done H.out HI3.out (by rw [HD.out, HU.out]) HD9.out HVZ.out hWg hWk hWo⟩
         clear hWg hWk hWo
         go_simp
         rw [← hW]
         clear hW
         refine hK _ _ ?_
         go_wp2_with fail
         go_end0
         exact ⟨rfl, HFIN.out⟩
end
end Sto
theorem Sto.Tag.keep {w w' : World} {k : Nat} {T : TypeId} (h : Sto.Tag w k T) (hk : w'.heap[k]? = w.heap[k]?) : Sto.Tag w' k T := by
 obtain ⟨cs, fr, h⟩ := h
 exact ⟨cs, fr, hk.trans h⟩
namespace Ref
structure Fv where
 A : Option Addr
 c : Nat
 f : Sto.Fl
def Fv.cells (v : Fv) : List Value := [.slice v.A v.f.b.length v.c, .int .i64 (v.f.sure : Int)]
def E1 (p : Sto.Str × Nat) : List Value := [Sto.str p.1, .int .i64 (p.2 : Int)]
def C4 : Sto.Chg → List Value
 | .put n i => [.int .i64 0, Sto.str n, Sto.str [], .int .i64 (i : Int)]
 | .ren a b i => [.int .i64 1, Sto.str a, Sto.str b, .int .i64 (i : Int)]
 | .del n => [.int .i64 2, Sto.str n, Sto.str [], .int .i64 0]
structure Mem where
 FA : Option Addr
 fc : Nat
 FV : List Fv
 NA : Option Addr
 nc : Nat
 DA : Option Addr
 dc : Nat
 KA : Option Addr
 kc : Nat
 PA : Option Addr
 pc : Nat
structure Rby (w : World) (base : Nat) (A : Option Addr) (b : List UInt8) : Prop where
 rd : RdB w w.heap.size A b
 at_ : ∀ k, blk A = some k → base ≤ k ∧ Sto.Tag w k 5
def stObj (m : Mem) (s : Sto.St) : Obj := .cells #[.int .i64 s.room, .slice m.FA m.FV.length m.fc, .slice m.NA s.now.length m.nc, .slice m.DA s.disk.length m.dc, .slice m.KA s.kept.length m.kc, .slice m.PA s.plan.length m.pc, .bool s.off] 112
structure StR (w : World) (base g : Nat) (s : Sto.St) (m : Mem) : Prop where
 gb : base ≤ g
 gl : g < w.heap.size
 fs : m.FV.map Fv.f = s.files
 frow : OwnS Fv.cells 2 w base 136 m.FA m.fc m.FV
 fb : ∀ v ∈ m.FV, Rby w base v.A v.f.b
 fcap : ∀ v ∈ m.FV, v.f.b.length ≤ v.c
 now : OwnS E1 2 w base 138 m.NA m.nc s.now
 disk : OwnS E1 2 w base 138 m.DA m.dc s.disk
 kept : OwnS C4 4 w base 134 m.KA m.kc s.kept
 plan : Rby w base m.PA s.plan
 pcap : s.plan.length ≤ m.pc
 ok : Sto.Ok s
structure StAt (w : World) (base g : Nat) (s : Sto.St) (m : Mem) : Prop where
 box : w.heap[g]? = some (stObj m s)
 r : StR w base g s m
abbrev turns : List TypeId := [112, 136, 134]
def Row (m : Mem) (k : Nat) : Prop := (∃ v ∈ m.FV, blk v.A = some k) ∨ blk m.PA = some k
structure Aft (ts : List TypeId) (w w' : World) (base : Nat) (R R' : Nat → Prop) : Prop where
 os : w'.os = w.os
 tape : w'.tape = w.tape
 output : w'.output = w.output
 size : w.heap.size ≤ w'.heap.size
 block : ∀ k, k < w.heap.size → (k < base ∨ ∀ T ∈ ts, ¬ Sto.Tag w k T) → w'.heap[k]? = w.heap[k]?
 row : ∀ k, k < w.heap.size → R' k → R k
section
variable {w w' w1 : World} {base g : Nat} {s s' : Sto.St} {m m' : Mem} {ts : List TypeId} {R R' R1 : Nat → Prop}
theorem Aft.refl (w : World) (base : Nat) (R : Nat → Prop) : Aft ts w w base R R := ⟨rfl, rfl, rfl, Nat.le_refl _, fun _ _ _ => rfl, fun _ _ h => h⟩
theorem Aft.of_below (hb : Below w.heap.size w w') (R : Nat → Prop) : Aft ts w w' base R R := ⟨hb.os, hb.tape, hb.output, hb.size, fun k hk _ => hb.block k hk, fun _ _ h => h⟩
theorem Aft.trans (h1 : Aft ts w w1 base R R1) (h2 : Aft ts w1 w' base R1 R') : Aft ts w w' base R R' :=
 ⟨h2.os.trans h1.os, h2.tape.trans h1.tape, h2.output.trans h1.output, Nat.le_trans h1.size h2.size, fun k hk hn => (h2.block k (Nat.lt_of_lt_of_le hk h1.size) (hn.imp id (fun hn T hT t => hn T hT (t.keep (h1.block k hk (.inr hn)).symm)))).trans (h1.block k hk hn),
   fun k hk hm => h1.row k hk (h2.row k (Nat.lt_of_lt_of_le hk h1.size) hm)⟩
theorem Aft.more {us : List TypeId} (h : Aft ts w w' base R R') (hu : ∀ T ∈ ts, T ∈ us) : Aft us w w' base R R' :=
 ⟨h.os, h.tape, h.output, h.size, fun k hk hn => h.block k hk (hn.imp id (fun hn T hT => hn T (hu T hT))), h.row⟩
theorem Aft.rows {S S' : Nat → Prop} (h : Aft ts w w' base R R') (hr : ∀ k, k < w.heap.size → S' k → S k) : Aft ts w w' base S S' := ⟨h.os, h.tape, h.output, h.size, h.block, hr⟩
theorem Aft.below (h : Aft ts w w' base R R') (hB : base ≤ w.heap.size) : Below base w w' := ⟨h.os, h.tape, h.output, h.size, fun k hk => h.block k (Nat.lt_of_lt_of_le hk hB) (.inl hk)⟩
theorem Aft.tag (h : Aft ts w w' base R R') {k : Nat} {T : TypeId} (ht : Sto.Tag w k T) (hT : T ∉ ts) : w'.heap[k]? = w.heap[k]? :=
 h.block k ht.lt (.inr fun U hU t => by
   rcases Nat.decEq T U with hn | he
   · exact ht.ne t hn rfl
   · exact hT (he ▸ hU))
theorem Aft.grown {row : Option Nat} (hg : w.grownBy w' row) (hr : ∀ k, row = some k → k < w.heap.size → base ≤ k ∧ ∃ T ∈ ts, Sto.Tag w k T) (R : Nat → Prop) : Aft ts w w' base R R :=
 ⟨hg.os, hg.tape, hg.output, hg.size, fun k hk hn => hg.block k hk (fun e => by
   obtain ⟨h1, T, hT, t⟩ := hr k e.symm hk
   rcases hn with hn | hn
   · omega
   · exact hn T hT t), fun _ _ h => h⟩
theorem Rby.keep {A : Option Addr} {b : List UInt8} (h : Rby w base A b) (hs : w.heap.size ≤ w'.heap.size) (hk : ∀ k, blk A = some k → w'.heap[k]? = w.heap[k]?) : Rby w' base A b :=
 ⟨rdB_keepS h.rd hs (fun k e _ => hk k e), fun k e => ⟨(h.at_ k e).1, (h.at_ k e).2.keep (hk k e)⟩⟩
theorem Rby.below {A : Option Addr} {b : List UInt8} (h : Rby w base A b) (hb : Below w.heap.size w w') : Rby w' base A b := h.keep hb.size (fun k e => hb.block k (h.at_ k e).2.lt)
theorem Rby.aft {A : Option Addr} {b : List UInt8} (h : Rby w base A b) (ha : Aft ts w w' base R R') (hu : 5 ∉ ts) : Rby w' base A b := h.keep ha.size (fun k e => ha.tag (h.at_ k e).2 hu)
theorem Rby.nil (w : World) (base : Nat) : Rby w base none [] := ⟨RdB.nil, fun _ e => by cases e⟩
theorem Rby.own {A : Option Addr} {b : List UInt8} {c n : Nat} (h : Own w n 5 A c b) (hn : base ≤ n) : Rby w base A b := ⟨h.rd, fun k e => ⟨Nat.le_trans hn (h.blk_ge k e).1, Sto.ownTag h e⟩⟩
theorem StAt.gt (h : StAt w base g s m) : Sto.Tag w g 112 := ⟨_, _, h.box⟩
theorem StR.keep (h : StR w base g s m) (hs : w.heap.size ≤ w'.heap.size) (hk : ∀ k T, Sto.Tag w k T → base ≤ k → T ∈ ([5, 136, 138, 134] : List TypeId) → (T = 5 → Row m k) → w'.heap[k]? = w.heap[k]?) : StR w' base g s m :=
 ⟨h.gb, Nat.lt_of_lt_of_le h.gl hs, h.fs, h.frow.keep (fun k e => hk k _ (Sto.ownTagS h.frow e) (h.frow.blk_ge k e).1 (by decide) (fun e => absurd e (by decide))),
   fun v hv => (h.fb v hv).keep hs (fun k e => hk k _ ((h.fb v hv).at_ k e).2 ((h.fb v hv).at_ k e).1 (by decide) (fun _ => .inl ⟨v, hv, e⟩)), h.fcap,
   h.now.keep (fun k e => hk k _ (Sto.ownTagS h.now e) (h.now.blk_ge k e).1 (by decide) (fun e => absurd e (by decide))), h.disk.keep (fun k e => hk k _ (Sto.ownTagS h.disk e) (h.disk.blk_ge k e).1 (by decide) (fun e => absurd e (by decide))),
   h.kept.keep (fun k e => hk k _ (Sto.ownTagS h.kept e) (h.kept.blk_ge k e).1 (by decide) (fun e => absurd e (by decide))), h.plan.keep hs (fun k e => hk k _ (h.plan.at_ k e).2 (h.plan.at_ k e).1 (by decide) (fun _ => .inr e)), h.pcap, h.ok⟩
theorem StAt.below (h : StAt w base g s m) (hb : Below w.heap.size w w') : StAt w' base g s m := ⟨(hb.block g h.r.gl).trans h.box, h.r.keep hb.size (fun k _ t _ _ _ => hb.block k t.lt)⟩
theorem StAt.cells (h : StAt w base g s m) : w.cell? ⟨g, 0, none⟩ = some (.int .i64 s.room) ∧ w.cell? ⟨g, 1, none⟩ = some (.slice m.FA m.FV.length m.fc) ∧ w.cell? ⟨g, 2, none⟩ = some (.slice m.NA s.now.length m.nc) ∧ w.cell? ⟨g, 3, none⟩ = some (.slice m.DA s.disk.length m.dc) ∧ w.cell? ⟨g, 4, none⟩ = some (.slice m.KA s.kept.length m.kc) ∧ w.cell? ⟨g, 5, none⟩ = some (.slice m.PA s.plan.length m.pc) ∧ w.cell? ⟨g, 6, none⟩ = some (.bool s.off) := by
 have hb := h.box
 unfold stObj at hb
 refine ⟨?_, ?_, ?_, ?_, ?_, ?_, ?_⟩
 all_goals (rw [cell_of_row w g _ _ _ (0, 0) hb]; rfl)
theorem StAt.frozen (h : StAt w base g s m) (j : Nat) : w.frozen? ⟨g, j, none⟩ = false := frozen_of_row w g j _ _ h.box
theorem StR.setG (h : StR w base g s m) (ht : Sto.Tag w g 112) (j : Nat) (v : Value) : StR (w.setCell ⟨g, j, none⟩ v) base g s m :=
 h.keep (by simp) (fun k T t _ hT _ => heap_setCell_other w ⟨g, j, none⟩ k v (t.ne ht (fun e => by rw [e] at hT; revert hT; decide)))
theorem Aft.setG (h : Sto.Tag w g 112) (hg : base ≤ g) (j : Nat) (v : Value) (R : Nat → Prop) : Aft turns w (w.setCell ⟨g, j, none⟩ v) base R R :=
 Aft.grown (row := some g) (Sto.grownBy_setS w ⟨g, j, none⟩ v) (fun k e _ => by injection e with e; subst e; exact ⟨hg, _, by decide, h⟩) R
theorem StAt.beside {b2 g2 : Nat} {s2 : Sto.St} {m2 m3 : Sto.Mem} (h : StAt w base g s m) (hs : Sto.StAt w b2 g2 s2 m2) (ha : Aft0 w w' g2 m2 m3) (hp : ∀ k, Row m k → ¬ Sto.Mut g2 m2 k) : StAt w' base g s m := by
 have hk : ∀ k T, Sto.Tag w k T → T ∈ ([5, 136, 138, 134, 112] : List TypeId) → (T = 5 → Row m k) → w'.heap[k]? = w.heap[k]? := fun k T t hT hr => by
   refine ha.block k t.lt (fun hm => ?_)
   by_cases hu : T = 5
   · exact hp k (hr hu) hm
   · refine hs.not_foot t ?_ ?_ ?_ ?_ ?_ (fun e => absurd e hu) (.inl hm)
     all_goals (intro e; rw [e] at hT; revert hT; decide)
 refine ⟨(hk g _ h.gt (by decide) (fun e => absurd e (by decide))).trans h.box, h.r.keep ha.size (fun k T t _ hT hr => hk k T t ?_ hr)⟩
 revert hT
 simp only [List.mem_cons, List.not_mem_nil, or_false]
 rintro (h | h | h | h) <;> simp [h]
end
end Ref
end Go.Proofs.YtgmnhdkdicgkcaaGreatDoor
