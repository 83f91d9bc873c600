/- Parts of the proof, one behind the other: The reference's Same and SameAll, at records that are the same.; Memory while a table's bytes are read; what the reference's Open gives.; Memory of a table while it is opened.; A table that was opened, in memory; what it is of.; Plain: where a key at a moment stands among records in order; what a list of the same records tells.; A part's records, asked for the first time: the closure that is handed to Do; all.; The contract of part.all.; A record in memory of its own: copied.; bytes.Equal.; The reference's list: Get.; The reference's list: From. -/
import Derived.Test.YtgafionfojnieaaGreatDoorMrg41
import Derived.Test.YtgafionfojnieaaGreatDoorMrg42
import Derived.Test.YtgafionfojnieaaGreatDoorMrg43
namespace Go.Proofs.YtgafionfojnieaaGreatDoor
open Go.RowKit
open Lib (hid)
set_option maxHeartbeats 2000000 in
set_option maxRecDepth 100000 in
theorem same_yes (a b : Rv) (w : World) (ha : Rv.Ok w w.heap.size a) (hb : Rv.Ok w w.heap.size b) (hc : a.core = b.core) : Calls Tryz.prog 21 #[a.val, b.val] w fun e w' => e = .returned (.bool true) ∧ Below w.heap.size w w' := by
 obtain ⟨W, hW⟩ : ∃ W : World, (w.alloc (.cells a.cells.toArray 35)).alloc (.cells b.cells.toArray 35) = W := ⟨_, rfl⟩
 have HB : Hid (Below w.heap.size w W) := hid (by rw [← hW]; exact ((Below.refl _ _).alloc (Nat.le_refl _) _).alloc (by simp) _)
 have s1 := strB_of (c := a.kc) (ha.key.below HB.out (Nat.le_refl _))
 have s2 := strB_of (c := b.kc) (hb.key.below HB.out (Nat.le_refl _))
 have s3 := strB_of (c := a.vc) (ha.val.below HB.out (Nat.le_refl _))
 have s4 := strB_of (c := b.vc) (hb.val.below HB.out (Nat.le_refl _))
 rw [← hW] at s1 s2 s3 s4
 unfold StrB at s1 s2 s3 s4
 obtain ⟨kA, kc, k, seq, del, vA, vc, v⟩ := a
 obtain ⟨kB, kd, m, seq2, del2, vB, vd, v2⟩ := b
 unfold Rv.core at hc
 injection hc with e1 hc; injection hc with e2 hc; injection hc with e3 e4
 simp only at e1 e2 e3 e4
 subst e1 e2 e3 e4
 simp only [Rv.cells, Rv.val] at s1 s2 s3 s4 hW ⊢
 obtain ⟨SA, hSA⟩ : ∃ SA : ByteArray, SA = ⟨k.toArray⟩ := ⟨_, rfl⟩
 obtain ⟨SV, hSV⟩ : ∃ SV : ByteArray, SV = ⟨v.toArray⟩ := ⟨_, rfl⟩
 rw [← hSA] at s1 s2
 rw [← hSV] at s3 s4
 clear hSA hSV ha hb
 have HW := hid hW
 clear hW
 go_enter Tryz.func21, Tryz.ntmps21
 go_wp2_with fail
 go_ret
 exact ⟨by simp, by have := HB.out; rw [← HW.out] at this; exact this⟩
set_option maxHeartbeats 2000000 in
set_option maxRecDepth 100000 in
theorem sameAll_yes (A B : Option Addr) (c d : Nat) (l m : List Rv) (w : World) (ha : RdRv w w.heap.size A l) (hb : RdRv w w.heap.size B m) (hc : l.map Rv.core = m.map Rv.core) (hl : l.length ≤ 1000000000) :
   Calls Tryz.prog 16 #[.slice A l.length c, .slice B m.length d] w fun e w' => e = .returned (.bool true) ∧ Below w.heap.size w w' := by
 have HA := hid ha
 have HB := hid hb
 have HC := hid hc
 have hlm : m.length = l.length := by
   have := congrArg List.length hc
   simpa using this.symm
 rw [hlm]
 have HLM := hid hlm
 clear ha hb hc hlm
 go_enter Tryz.func16, Tryz.ntmps16
 go_wp2_with fail
 go_loopw [5] (fun i wr => ∃ k : Nat, k ≤ l.length ∧ i = .int .i64 (k : Int) ∧ Hid (Below w.heap.size w wr)) (fun i _ => l.length - (intOf i).toNat)
 case atStart => exact ⟨0, by omega, rfl, hid (Below.refl _ _)⟩
 case round =>
   obtain ⟨k, hk, rfl, HW⟩ := hrel
   by_cases hlt : k < l.length
   · obtain ⟨V, hV⟩ : ∃ V, wr.drew = V := ⟨_, rfl⟩
     have hwV : Below w.heap.size w V := by rw [← hV]; exact HW.out.drew
     have hkm : k < m.length := by have := HLM.out; omega
     obtain ⟨ab, ao, rfl, hab, hac⟩ := (HA.out.below hwV (Nat.le_refl _)).row4 (by omega)
     obtain ⟨bb, bo, rfl, hbb, hbc⟩ := (HB.out.below hwV (Nat.le_refl _)).row4 (by omega)
     obtain ⟨a0, a1, a2, a3⟩ := hac k hlt
     obtain ⟨b0, b1, b2, b3⟩ := hbc k hkm
     have hoa := ((HA.out.below hwV (Nat.le_refl _)).ok _ (List.getElem_mem hlt)).more hwV.size
     have hob := ((HB.out.below hwV (Nat.le_refl _)).ok _ (List.getElem_mem hkm)).more hwV.size
     have hco : l[k].core = m[k].core := by
       have h1 : (l.map Rv.core)[k]? = (m.map Rv.core)[k]? := by rw [HC.out]
       rw [List.getElem?_map, List.getElem?_map, List.getElem?_eq_getElem hlt, List.getElem?_eq_getElem hkm] at h1
       simpa using h1
     have KS := hid (same_yes l[k] m[k] V hoa hob hco)
     obtain ⟨x, hx⟩ : ∃ x, x = l[k] := ⟨_, rfl⟩
     obtain ⟨y, hy⟩ : ∃ y, y = m[k] := ⟨_, rfl⟩
     rw [← hx] at KS a0 a1 a2 a3
     rw [← hy] at KS b0 b1 b2 b3
     obtain ⟨kA, kc, kk, seq, del, vA, vc, v⟩ := x
     obtain ⟨kB, kd, mm, seq2, del2, vB, vd, v2⟩ := y
     simp only [Rv.val] at KS a0 a1 a2 a3 b0 b1 b2 b3
     have HWV := hid hwV
     clear hac hbc hoa hob hco hx hy hwV
     go_wp2_with fail
     refine region_still_tail 8 (by kernel_rfl) (by kernel_rfl) hV ?_
     clear hV
     simp only [List.take_succ_cons, List.take_zero, List.drop_succ_cons, List.drop_zero]
     repeat still_step
     refine wpStill_nil ?_
     go_wp2_with fail
     refine KS.out.mono ?_
     rintro e w' ⟨rfl, hb'⟩
     have HB' := hid (HWV.out.trans (hb'.mono HWV.out.size))
     clear hb' a0 a1 a2 a3 b0 b1 b2 b3
     go_wp2_with fail
     go_roundw
     case rel => exact ⟨k + 1, hlt, by simp, HB'⟩
     case measure => simp [intOf]; omega
   · go_wp2_with fail
     go_ret
     exact ⟨rfl, HW.out⟩
theorem recT : RT Tryz.prog 23 35 Rv.cells 4 64 (.agg #[.slice none 0 0, .int .i64 0, .bool false, .slice none 0 0]) :=
 ⟨Tryz.underlying23, by kernel_rfl, fun _ => rfl, fun _ u hu => by simp [Rv.cells] at hu; rcases hu with h | h | h | h <;> (subst h; rfl), by omega, rfl⟩
structure OpR (w1 : World) (base : Nat) (A : Option Addr) (c : Nat) (R : List Rv) (wr : World) : Prop where
 row : OwnS Rv.cells 4 wr base 35 A c R
 inn : ∀ r ∈ R, (HBs wr base r.kA r.k ∧ r.k.length ≤ r.kc ∧ HBs wr base r.vA r.v ∧ r.v.length ≤ r.vc) ∧ r.k.length ≤ 70000 ∧ r.v.length ≤ 70000
 below : Below base w1 wr
 size : base ≤ wr.heap.size
section
variable {w1 wr w2 : World} {base c c' : Nat} {A A' : Option Addr} {R : List Rv} {r : Rv}
theorem OpR.start (w1 : World) : OpR w1 w1.heap.size none 0 [] w1 := ⟨OwnS.nil _ _ _, (fun _ hr => by cases hr), Below.refl _ _, Nat.le_refl _⟩
theorem OpR.call (h : OpR w1 base A c R wr) (hb : Below wr.heap.size wr w2) : OpR w1 base A c R w2 :=
 ⟨h.row.below hb, fun r hr => by
   obtain ⟨⟨h1, h2, h3, h4⟩, h5⟩ := h.inn r hr
   exact ⟨⟨h1.below hb, h2, h3.below hb, h4⟩, h5⟩, h.below.trans (hb.mono h.size), Nat.le_trans h.size hb.size⟩
theorem OpR.nob (h : OpR w1 base A c R wr) : NoB wr (blk A) := h.row.nob (by decide)
theorem OpR.ge (h : OpR w1 base A c R wr) : ∀ g, blk A = some g → base ≤ g := fun _ hg => (ownS_tag h.row hg).1
theorem OpR.app (h : OpR w1 base A c R wr) (hr : (HBs wr base r.kA r.k ∧ r.k.length ≤ r.kc ∧ HBs wr base r.vA r.v ∧ r.v.length ≤ r.vc) ∧ r.k.length ≤ 70000 ∧ r.v.length ≤ 70000)
   (ho : OwnS Rv.cells 4 w2 base 35 A' c' (R ++ [r])) (hg : wr.grownBy w2 (blk A)) : OpR w1 base A' c' (R ++ [r]) w2 := by
 have key : ∀ q : Rv, ((HBs wr base q.kA q.k ∧ q.k.length ≤ q.kc ∧ HBs wr base q.vA q.v ∧ q.v.length ≤ q.vc) ∧ q.k.length ≤ 70000 ∧ q.v.length ≤ 70000) → ((HBs w2 base q.kA q.k ∧ q.k.length ≤ q.kc ∧ HBs w2 base q.vA q.v ∧ q.v.length ≤ q.vc) ∧ q.k.length ≤ 70000 ∧ q.v.length ≤ 70000) := fun q hq => by
   obtain ⟨⟨h1, h2, h3, h4⟩, h5⟩ := hq
   exact ⟨⟨h1.grown hg h.nob h.ge, h2, h3.grown hg h.nob h.ge, h4⟩, h5⟩
 refine ⟨ho, fun q hq => ?_, h.below.grown hg h.size h.ge, Nat.le_trans h.size hg.size⟩
 simp only [List.mem_append, List.mem_singleton] at hq
 rcases hq with hq | hq
 · exact key q (h.inn q hq)
 · rw [hq]; exact key r hr
theorem OpR.rd (h : OpR w1 base A c R wr) : RdRv wr wr.heap.size A R := ⟨h.row.rd, fun r hr => by
 obtain ⟨⟨h1, h2, h3, h4⟩, _⟩ := h.inn r hr
 exact ⟨h1.rd, h3.rd, h2, h4⟩⟩
theorem OwnPv.kept_rec {l : List Pv} {PA : Option Addr} {pc pb : Nat} (h : OwnPv wr pb PA pc l) (hR : OwnS Rv.cells 4 wr base 35 A c R) (hg : wr.grownBy w2 (blk A)) : OwnPv w2 pb PA pc l := by
 refine ⟨h.row.kept_ne (T := 35) hg (fun _ hgg => (ownS_tag hR hgg).2) (by decide), fun p hp => ?_⟩
 have hnb : NoB wr (blk A) := hR.nob (by decide)
 exact ⟨(h.own p hp).1.kept_tag hg hnb, (h.own p hp).2.kept_tag hg hnb⟩
theorem Own.hbs {l : List UInt8} (h : Own wr base 5 A c l) {b0 : Nat} : HBs wr b0 A l := ⟨h.rd, fun _ _ hg => .inr (own_tag h hg).2⟩
end
theorem rd_rec_new (w : World) (r : Rv) : RdS Rv.cells 4 (w.alloc (.cells #[.slice r.kA r.k.length r.kc, .int .i64 r.seq, .bool r.del, .slice r.vA r.v.length r.vc] 35)) (w.heap.size + 1) (some ⟨w.heap.size, 0, none⟩) [r] := by
 refine RdS.of (f := Rv.cells) (n := 4) (l := [r]) (fun _ => rfl) _ 0 (by omega) (fun k hk j u hj => ?_)
 obtain rfl : k = 0 := by simp at hk; exact hk
 have hj' : r.cells[j]? = some u := hj
 rw [cell_of_row _ w.heap.size _ _ _ (0, 0) (heap_alloc_new w _)]
 simpa [Rv.cells] using hj'
theorem rd_rec_new2 (w : World) (o : Obj) (r : Rv) : RdS Rv.cells 4 ((w.alloc o).alloc (.cells #[.slice r.kA r.k.length r.kc, .int .i64 r.seq, .bool r.del, .slice r.vA r.v.length r.vc] 35)) (w.heap.size + 2) (some ⟨w.heap.size + 1, 0, none⟩) [r] := by
 have := rd_rec_new (w.alloc o) r
 simpa using this
namespace Tb
theorem scan_no {b r : List UInt8} {L : List (UInt8 × List UInt8)} (hs : Frm.Scans b L r) (hn : Frm.take r = none) (h : r ≠ [] ∨ L.length < 4) (l : List Rv) (s t : Int) : ¬ Is b l s t := fun hi => by
 obtain ⟨e, gs, hf⟩ := hi.scanned hs hn
 have := hf.len
 rcases h with h | h
 · exact h e
 · omega
theorem NR.start {b r : List UInt8} {L : List (UInt8 × List UInt8)} (hs : Frm.Scans b L r) (hn : Frm.take r = none) {p : UInt8 × List UInt8} (hp : L[L.length - 1]? = some p) : NR b [] p.2 := fun l s t hi => by
 obtain ⟨_, gs, hf⟩ := hi.scanned hs hn
 exact ⟨five l s t, rfl, hf.foot hp⟩
theorem last_no {b : List UInt8} {L : List (UInt8 × List UInt8)} {R : List Rv} (h : TR b L (L.length - 3) 0 R) {r : List UInt8} (hs : Frm.Scans b L r) (hn : Frm.take r = none) {s0 t0 : Int} (hst : ∀ l s t, Is b l s t → s = s0 ∧ t = t0) (hno : build R s0 t0 ≠ (0, b)) (l : List Rv) (s t : Int) : ¬ Is b l s t := fun hi => by
 have e := h.all hs hn hi
 obtain ⟨rfl, rfl⟩ := hst l s t hi
 exact hno ((build_core e _ _).symm.trans hi)
end Tb
def Ptc (g : Nat) : List Value := [.pointer (some ⟨g, 0, none⟩)]
theorem ptrT : RT Tryz.prog 65 79 Ptc 1 8 (.pointer none) :=
 ⟨Tryz.underlying65, by kernel_rfl, fun _ => rfl, fun _ u hu => by simp [Ptc] at hu; subst hu; rfl, by omega, rfl⟩
theorem rd_ptr_new (w : World) (g : Nat) : RdS Ptc 1 (w.alloc (.cells #[.pointer (some ⟨g, 0, none⟩)] 79)) (w.heap.size + 1) (some ⟨w.heap.size, 0, none⟩) [g] := by
 refine RdS.of (f := Ptc) (n := 1) (l := [g]) (fun _ => rfl) _ 0 (by omega) (fun k hk j u hj => ?_)
 obtain rfl : k = 0 := by simp at hk; exact hk
 have hj' : (Ptc g)[j]? = some u := hj
 rw [cell_of_row _ w.heap.size _ _ _ (0, 0) (heap_alloc_new w _)]
 simpa [Ptc] using hj'
theorem rd_ptr_new2 (w : World) (o : Obj) (g : Nat) : RdS Ptc 1 ((w.alloc o).alloc (.cells #[.pointer (some ⟨g, 0, none⟩)] 79)) (w.heap.size + 2) (some ⟨w.heap.size + 1, 0, none⟩) [g] := by
 have := rd_ptr_new (w.alloc o) g
 simpa using this
def tbObj (PA : Option Addr) (pn PC : Nat) (F m2 m3 m4 : Value) : Obj := .cells #[.slice PA pn PC, F, m2, m3, m4, .int .i64 0] 72
structure Pq where
 g : Nat
 A : Option Addr
 c : Nat
 b : List UInt8
 kA : Option Addr
 kc : Nat
 k : List UInt8
def Pq.obj (p : Pq) (d s : Int) (r : Value) : Obj := .cells #[.slice p.A p.b.length p.c, .slice p.kA p.k.length p.kc, .int .u32 d, .int .i32 s, .int .u32 0, r] 91
structure PqB (wr : World) (base : Nat) (p : Pq) : Prop where
 ge : base ≤ p.g
 hb : HBs wr base p.A p.b
 fit : p.b.length ≤ 65536
 c1 : p.b.length ≤ p.c
 c2 : p.c ≤ 9223372036854775807
 hk : HBs wr base p.kA p.k
 k0 : p.k.length ≤ 100000
 k1 : p.k.length ≤ p.kc
structure PqF (wr : World) (base : Nat) (p : Pq) : Prop where
 mem : PqB wr base p
 box : wr.heap[p.g]? = some (p.obj 0 0 (.slice none 0 0))
section
variable {wr w2 : World} {base : Nat} {p : Pq} {row : Option Nat}
theorem PqB.call (h : PqB wr base p) (hb : Below wr.heap.size wr w2) : PqB w2 base p := { h with hb := h.hb.below hb, hk := h.hk.below hb }
theorem PqB.grown (h : PqB wr base p) (hg : wr.grownBy w2 row) (hr : NoB wr row) (hb : ∀ g, row = some g → base ≤ g) : PqB w2 base p := { h with hb := h.hb.grown hg hr hb, hk := h.hk.grown hg hr hb }
theorem PqB.set_tag {g o : Nat} {cs : Array Value} {T : TypeId} {fr : Nat × Nat} {u : Value} (h : PqB wr base p) (hb : wr.heap[g]? = some (.cells cs T fr)) (hT : T ≠ 5) (hg : base ≤ g) : PqB (wr.setCell ⟨g, o, none⟩ u) base p := { h with hb := h.hb.set_tag hb hT hg, hk := h.hk.set_tag hb hT hg }
theorem PqF.call (h : PqF wr base p) (hb : Below wr.heap.size wr w2) : PqF w2 base p := ⟨h.mem.call hb, (hb.block _ (Array.getElem?_eq_some_iff.1 h.box).1).trans h.box⟩
theorem PqF.grown (h : PqF wr base p) (hg : wr.grownBy w2 row) {T : TypeId} (hr : ∀ g, row = some g → ∃ cs fr, wr.heap[g]? = some (.cells cs T fr)) (hT : T ≠ 5) (hT2 : T ≠ 91) (hb : ∀ g, row = some g → base ≤ g) : PqF w2 base p := by
 refine ⟨h.mem.grown hg (fun g e => ?_) hb, (hg.block _ (Array.getElem?_eq_some_iff.1 h.box).1 (fun e => ?_)).trans h.box⟩
 · obtain ⟨cs, fr, h1⟩ := hr g e
   exact ⟨cs, T, fr, h1, hT⟩
 · obtain ⟨cs, fr, h1⟩ := hr p.g e.symm
   exact tag_ne2 h.box h1 (fun e => hT2 e.symm) rfl
theorem PqF.set_tag {g o : Nat} {cs : Array Value} {T : TypeId} {fr : Nat × Nat} {u : Value} (h : PqF wr base p) (hb : wr.heap[g]? = some (.cells cs T fr)) (hT : T ≠ 5) (hT2 : T ≠ 91) (hg : base ≤ g) : PqF (wr.setCell ⟨g, o, none⟩ u) base p :=
 ⟨h.mem.set_tag hb hT hg, (heap_setD _ (tag_ne2 h.box hb (fun e => hT2 e.symm))).trans h.box⟩
end
structure OpT (Y : World) (base gt : Nat) (F m2 m3 m4 : Value) (RA : Option Addr) (RC : Nat) (R : List Rv) (PA : Option Addr) (PC : Nat) (ps : List Pq) (wr : World) : Prop where
 recs : OpR Y base RA RC R wr
 box : wr.heap[gt]? = some (tbObj PA ps.length PC F m2 m3 m4)
 row : OwnS Ptc 1 wr base 79 PA PC (ps.map Pq.g)
 ge : base ≤ gt
 parts : ∀ p ∈ ps, PqF wr base p
 nd : (ps.map Pq.g).Nodup
section
variable {Y wr w2 : World} {base gt RC RC' PC PC' : Nat} {F m2 m3 m4 : Value} {RA RA' PA PA' : Option Addr} {R : List Rv} {r : Rv} {ps : List Pq} {p : Pq}
theorem OpT.call (h : OpT Y base gt F m2 m3 m4 RA RC R PA PC ps wr) (hb : Below wr.heap.size wr w2) : OpT Y base gt F m2 m3 m4 RA RC R PA PC ps w2 :=
 ⟨h.recs.call hb, (hb.block _ (Array.getElem?_eq_some_iff.1 h.box).1).trans h.box, h.row.below hb, h.ge, fun p hp => (h.parts p hp).call hb, h.nd⟩
theorem OpT.app_rec (h : OpT Y base gt F m2 m3 m4 RA RC R PA PC ps wr) (hr : (HBs wr base r.kA r.k ∧ r.k.length ≤ r.kc ∧ HBs wr base r.vA r.v ∧ r.v.length ≤ r.vc) ∧ r.k.length ≤ 70000 ∧ r.v.length ≤ 70000)
   (ho : OwnS Rv.cells 4 w2 base 35 RA' RC' (R ++ [r])) (hg : wr.grownBy w2 (blk RA)) : OpT Y base gt F m2 m3 m4 RA' RC' (R ++ [r]) PA PC ps w2 := by
 refine ⟨h.recs.app hr ho hg, ?_, h.row.kept_ne (T := 35) hg (fun _ hgg => (ownS_tag h.recs.row hgg).2) (by decide), h.ge, fun p hp => (h.parts p hp).grown (T := 35) hg (fun _ hgg => (ownS_tag h.recs.row hgg).2) (by decide) (by decide) h.recs.ge, h.nd⟩
 refine (hg.block gt (Array.getElem?_eq_some_iff.1 h.box).1 (fun e => ?_)).trans h.box
 obtain ⟨_, cs, fr, h1⟩ := ownS_tag h.recs.row e.symm
 exact tag_ne2 h.box h1 (by decide) rfl
theorem OpR.kept_ptr {gs : List Nat} (h : OpR Y base RA RC R wr) (hp : OwnS Ptc 1 wr base 79 PA PC gs) (hg : wr.grownBy w2 (blk PA)) : OpR Y base RA RC R w2 := by
 have hnb : NoB wr (blk PA) := hp.nob (by decide)
 have hge : ∀ g, blk PA = some g → base ≤ g := fun _ hgg => (ownS_tag hp hgg).1
 refine ⟨h.row.kept_ne (T := 79) hg (fun _ hgg => (ownS_tag hp hgg).2) (by decide), fun q hq => ?_, h.below.grown hg h.size hge, Nat.le_trans h.size hg.size⟩
 obtain ⟨⟨h1, h2, h3, h4⟩, h5⟩ := h.inn q hq
 exact ⟨⟨h1.grown hg hnb hge, h2, h3.grown hg hnb hge, h4⟩, h5⟩
theorem ownS_set {α : Type} {f : α → List Value} {n c : Nat} {e T : TypeId} {A : Option Addr} {l : List α} {cs : Array Value} {fr : Nat × Nat} {u : Value} {o : Nat} (h : OwnS f n wr base e A c l) (hb : wr.heap[gt]? = some (.cells cs T fr)) (hT : e ≠ T) : OwnS f n (wr.setCell ⟨gt, o, none⟩ u) base e A c l := h.keep (fun k hk => by
 obtain ⟨_, cs', fr', h1⟩ := ownS_tag h hk
 exact heap_setD _ (tag_ne2 h1 hb hT))
theorem OpR.set_tab (h : OpR Y base RA RC R wr) {cs : Array Value} {fr : Nat × Nat} (hb : wr.heap[gt]? = some (.cells cs 72 fr)) (hge : base ≤ gt) {u : Value} {o : Nat} : OpR Y base RA RC R (wr.setCell ⟨gt, o, none⟩ u) := by
 refine ⟨ownS_set h.row hb (by decide), fun q hq => ?_, h.below.setCell hge _, by simpa using h.size⟩
 obtain ⟨⟨h1, h2, h3, h4⟩, h5⟩ := h.inn q hq
 exact ⟨⟨h1.set_tag hb (by decide) hge, h2, h3.set_tag hb (by decide) hge, h4⟩, h5⟩
theorem heap_set6 {w : World} {x0 x1 x2 x3 x4 x5 v : Value} {T : TypeId} (h : w.heap[gt]? = some (.cells #[x0, x1, x2, x3, x4, x5] T)) : (w.setCell ⟨gt, 0, none⟩ v).heap[gt]? = some (.cells #[v, x1, x2, x3, x4, x5] T) := by
 have := heap_setCell_same w gt 0 _ T v h
 simpa using this
theorem OpT.app_part (h : OpT Y base gt F m2 m3 m4 RA RC R PA PC ps wr) (hf : PqF wr base p) (hnew : ∀ q ∈ ps, q.g ≠ p.g) (ho : OwnS Ptc 1 w2 base 79 PA' PC' (ps.map Pq.g ++ [p.g])) (hg : wr.grownBy w2 (blk PA)) : OpT Y base gt F m2 m3 m4 RA RC R PA' PC' (ps ++ [p]) (w2.setCell ⟨gt, 0, none⟩ (.slice PA' (ps.length + 1) PC')) := by
 have hbox : w2.heap[gt]? = some (tbObj PA ps.length PC F m2 m3 m4) := by
   refine (hg.block gt (Array.getElem?_eq_some_iff.1 h.box).1 (fun e => ?_)).trans h.box
   obtain ⟨_, cs, fr, h1⟩ := ownS_tag h.row e.symm
   exact tag_ne2 h.box h1 (by decide) rfl
 have hp : ∀ q, PqF wr base q → PqF (w2.setCell ⟨gt, 0, none⟩ (.slice PA' (ps.length + 1) PC')) base q := fun q hq =>
   (hq.grown (T := 79) hg (fun _ hgg => (ownS_tag h.row hgg).2) (by decide) (by decide) (fun g hgg => (ownS_tag h.row hgg).1)).set_tag hbox (by decide) (by decide) h.ge
 refine ⟨(h.recs.kept_ptr h.row hg).set_tab hbox h.ge, ?_, ?_, h.ge, fun q hq => ?_, ?_⟩
 · rw [List.length_append]; exact heap_set6 hbox
 · rw [List.map_append]; exact ownS_set ho hbox (by decide)
 · simp only [List.mem_append, List.mem_singleton] at hq
   rcases hq with hq | hq
   · exact hp q (h.parts q hq)
   · rw [hq]; exact hp p hf
 · rw [List.map_append]
   refine List.nodup_append.2 ⟨h.nd, by simp, fun a ha b hb => ?_⟩
   obtain ⟨q, hq, rfl⟩ := List.mem_map.1 ha
   simp only [List.map_cons, List.map_nil, List.mem_singleton] at hb
   rw [hb]
   exact hnew q hq
end
namespace Tb
theorem split_flat {α β : Type} (f : α → β) : ∀ (gs : List (List β)) (l : List α), gs.flatten = l.map f → ∃ ls : List (List α), ls.flatten = l ∧ gs = ls.map (List.map f)
 | [], l, h => by
   have : l = [] := by
     have h1 := congrArg List.length h
     simp at h1
     exact List.length_eq_zero_iff.1 h1.symm
   exact ⟨[], by rw [this]; rfl, rfl⟩
 | g :: gs, l, h => by
   rw [List.flatten_cons] at h
   have h1 : g = (l.take g.length).map f := by
     rw [List.map_take, ← h, List.take_left']
     rfl
   have h2 : gs.flatten = (l.drop g.length).map f := by
     rw [List.map_drop, ← h, List.drop_left']
     rfl
   obtain ⟨ls, e1, e2⟩ := split_flat f gs _ h2
   exact ⟨l.take g.length :: ls, by rw [List.flatten_cons, e1, List.take_append_drop], by rw [List.map_cons, ← h1, ← e2]⟩
end Tb
structure RecsAt (w : World) (base : Nat) (A : Option Addr) (c : Nat) (l : List Rv) : Prop where
 row : OwnS Rv.cells 4 w base 35 A c l
 inn : ∀ r ∈ l, (HBs w base r.kA r.k ∧ r.k.length ≤ r.kc ∧ HBs w base r.vA r.v ∧ r.v.length ≤ r.vc) ∧ r.k.length ≤ 70000 ∧ r.v.length ≤ 70000
structure PqR (p : Pq) (rs : List Rv) : Prop where
 wf : Blk.WFb p.b (rs.map Tb.inner)
 ne : rs ≠ []
 rt : ∀ r ∈ rs, Tb.right r = true
 last : Blk.lastK (rs.map Tb.inner) = p.k
structure PqA (w : World) (base : Nat) (F : Nat → Prop) (p : Pq) (rs : List Rv) : Prop where
 mem : PqB w base p
 st : w.heap[p.g]? = some (p.obj 0 0 (.slice none 0 0)) ∨ ∃ (A : Option Addr) (c : Nat) (l : List Rv), w.heap[p.g]? = some (p.obj 1 0 (.slice A l.length c)) ∧ RecsAt w base A c l ∧ l.map Rv.core = rs.map Rv.core ∧ ∀ g, blk A = some g → ¬ F g
structure Ti where
 gt : Nat
 PA : Option Addr
 PC : Nat
 fA : Option Addr
 fc : Nat
 f : List UInt8
 many : Int
 low : Int
 high : Int
 ps : List (Pq × List Rv)
def Ti.obj (t : Ti) (z : Int) : Obj := .cells #[.slice t.PA t.ps.length t.PC, .slice t.fA t.f.length t.fc, .int .i64 t.many, .int .i64 t.low, .int .i64 t.high, .int .i64 z] 72
structure TbAt (base : Nat) (F : Nat → Prop) (t : Ti) (w : World) : Prop where
 size : base ≤ w.heap.size
 frn : ∀ g, F g → g < w.heap.size
 ge : base ≤ t.gt
 box : ∃ z : Int, w.heap[t.gt]? = some (t.obj z)
 row : OwnS Ptc 1 w base 79 t.PA t.PC (t.ps.map (·.1.g))
 filt : HBs w base t.fA t.f
 f1 : t.f.length ≤ t.fc
 f2 : t.fc ≤ 9223372036854775807
 f3 : t.f.length ≤ 65536
 parts : ∀ x ∈ t.ps, PqA w base F x.1 x.2
 nd : (t.ps.map (·.1.g)).Nodup
structure TbR (t : Ti) (R : List Rv) (bits : Nat) : Prop where
 flat : (t.ps.map (·.2)).flatten = R
 prt : ∀ x ∈ t.ps, PqR x.1 x.2
 ne : t.ps ≠ []
 f : t.f = Blm.build bits (R.map Rv.k)
 many : t.many = (R.length : Int)
 low : t.low = Tb.low R
 high : t.high = Tb.high R
 rt : ∀ r ∈ R, Tb.right r = true
 srt : Tb.sorted R = true
 bits1 : 1 ≤ bits
 bits2 : bits ≤ 32
 len : R.length ≤ 20000
structure Qry (base : Nat) (t : Ti) (w w' : World) : Prop where
 below : Below base w w'
 oth : ∀ k, k < w.heap.size → k ≠ t.gt → (∀ x ∈ t.ps, k ≠ x.1.g) → w'.heap[k]? = w.heap[k]?
 tagd : ∀ (k : Nat) (cs : Array Value) (T : TypeId) (fr : Nat × Nat), w.heap[k]? = some (Obj.cells cs T fr) → T ≠ 72 → T ≠ 91 → w'.heap[k]? = w.heap[k]?
section
variable {base : Nat} {w w' w2 : World} {t : Ti} {F : Nat → Prop}
theorem Qry.refl (base : Nat) (t : Ti) (w : World) : Qry base t w w := ⟨Below.refl _ _, fun _ _ _ _ => rfl, fun _ _ _ _ _ _ _ => rfl⟩
theorem Qry.trans (h : Qry base t w w') (h2 : Qry base t w' w2) : Qry base t w w2 := ⟨h.below.trans h2.below, fun k hk h3 h4 => (h2.oth k (Nat.lt_of_lt_of_le hk h.below.size) h3 h4).trans (h.oth k hk h3 h4), fun k cs T fr e1 e2 e3 => by
 have h1 := h.tagd k cs T fr e1 e2 e3
 exact (h2.tagd k cs T fr (h1.trans e1) e2 e3).trans h1⟩
theorem Qry.of (hb : Below w.heap.size w w') (hs : base ≤ w.heap.size) : Qry base t w w' := ⟨hb.mono hs, fun k hk _ _ => hb.block k hk, fun k _ _ _ e _ _ => hb.block k (Array.getElem?_eq_some_iff.1 e).1⟩
theorem Qry.grown {row : Option Nat} (hg : w.grownBy w' row) (hs : base ≤ w.heap.size) (hr : ∀ g, row = some g → base ≤ g ∧ (∃ cs T fr, w.heap[g]? = some (.cells cs T fr) ∧ (T = 72 ∨ T = 91)) ∧ (g = t.gt ∨ ∃ x ∈ t.ps, g = x.1.g)) : Qry base t w w' :=
 ⟨(Below.refl base w).grown hg hs (fun g e => (hr g e).1), fun k hk h3 h4 => hg.block k hk (fun e => by
   rcases (hr k e.symm).2.2 with h5 | ⟨x, hx, h5⟩
   · exact h3 h5
   · exact h4 x hx h5), fun k cs T fr e h1 h2 => hg.block k (Array.getElem?_eq_some_iff.1 e).1 (fun e2 => by
   obtain ⟨_, ⟨cs', T', fr', e3, e4⟩, _⟩ := hr k e2.symm
   rw [e] at e3
   injection e3 with e3
   injection e3 with _ e3 _
   subst e3
   rcases e4 with e4 | e4
   · exact h1 e4
   · exact h2 e4)⟩
theorem Qry.hbs {B : Option Addr} {r : List UInt8} {base' : Nat} (h : Qry base t w w') (hb : base' ≤ base) (hr : HBs w base' B r) : HBs w' base' B r := hr.keep h.below.size (fun hne g hg _ => by
 rcases hr.at_ hne g hg with h1 | ⟨cs, fr, h1⟩
 · exact h.below.block g (by omega)
 · exact h.tagd g cs _ fr h1 (by decide) (by decide))
theorem Qry.own {B : Option Addr} {c : Nat} {r : List UInt8} {base' : Nat} (h : Qry base t w w') (hr : Own w base' 5 B c r) : Own w' base' 5 B c r := by
 have hk : ∀ g, blk B = some g → w'.heap[g]? = w.heap[g]? := fun g hg => by
   obtain ⟨_, cs, fr, h1⟩ := own_tag hr hg
   exact h.tagd g cs _ fr h1 (by decide) (by decide)
 unfold Own at hr ⊢
 refine ⟨hr.1, ?_⟩
 rcases hr.2 with h2 | ⟨g, cap, cur, hv, hg, hh, r⟩
 · exact .inl h2
 · refine .inr ⟨g, cap, cur, hv, hg, ?_, r⟩
   injection hv with hv
   rw [hk g (by rw [hv]; rfl)]
   exact hh
theorem Qry.ownS {α : Type} {f : α → List Value} {n : Nat} {e : TypeId} {B : Option Addr} {c : Nat} {r : List α} {base' : Nat} (h : Qry base t w w') (hr : OwnS f n w base' e B c r) (h1 : e ≠ 72) (h2 : e ≠ 91) : OwnS f n w' base' e B c r := hr.keep (fun g hg => by
 obtain ⟨_, cs, fr, h3⟩ := ownS_tag hr hg
 exact h.tagd g cs _ fr h3 h1 h2)
theorem Qry.recs {A : Option Addr} {c : Nat} {l : List Rv} {base' : Nat} (h : Qry base t w w') (hb : base' ≤ base) (hr : RecsAt w base' A c l) : RecsAt w' base' A c l := ⟨h.ownS hr.row (by decide) (by decide), fun r hm => by
 obtain ⟨⟨h1, h2, h3, h4⟩, h5⟩ := hr.inn r hm
 exact ⟨⟨h.hbs hb h1, h2, h.hbs hb h3, h4⟩, h5⟩⟩
theorem Qry.pqb {p : Pq} (h : Qry base t w w') (hr : PqB w base p) : PqB w' base p := { hr with hb := h.hbs (Nat.le_refl _) hr.hb, hk := h.hbs (Nat.le_refl _) hr.hk }
theorem TbAt.call (h : TbAt base F t w) (hb : Below w.heap.size w w') : TbAt base F t w' := by
 have hq : Qry base t w w' := Qry.of hb h.size
 obtain ⟨z, hz⟩ := h.box
 refine ⟨Nat.le_trans h.size hb.size, fun g hg => Nat.lt_of_lt_of_le (h.frn g hg) hb.size, h.ge, ⟨z, (hb.block _ (Array.getElem?_eq_some_iff.1 hz).1).trans hz⟩, h.row.below hb, h.filt.below hb, h.f1, h.f2, h.f3, fun x hx => ?_, h.nd⟩
 have hp := h.parts x hx
 refine ⟨hq.pqb hp.mem, ?_⟩
 rcases hp.st with h1 | ⟨A, c, l, h1, h2, h3⟩
 · exact .inl ((hb.block _ (Array.getElem?_eq_some_iff.1 h1).1).trans h1)
 · exact .inr ⟨A, c, l, (hb.block _ (Array.getElem?_eq_some_iff.1 h1).1).trans h1, hq.recs (Nat.le_refl _) h2, h3⟩
theorem RecsAt.rd {A : Option Addr} {c : Nat} {l : List Rv} (h : RecsAt w base A c l) : RdRv w w.heap.size A l := ⟨h.row.rd, fun r hr => by
 obtain ⟨⟨h1, h2, h3, h4⟩, _⟩ := h.inn r hr
 exact ⟨h1.rd, h3.rd, h2, h4⟩⟩
theorem PqA.tag {p : Pq} {rs : List Rv} (h : PqA w base F p rs) : ∃ cs, w.heap[p.g]? = some (.cells cs 91) := by
 rcases h.st with h1 | ⟨A, c, l, h1, _⟩
 · exact ⟨_, h1⟩
 · exact ⟨_, h1⟩
theorem TbAt.asked (h : TbAt base F t w) {x : Pq × List Rv} (hx : x ∈ t.ps) (hg : w.grownBy w' (some x.1.g)) (hn : ∃ (A : Option Addr) (c : Nat) (l : List Rv), w'.heap[x.1.g]? = some (x.1.obj 1 0 (.slice A l.length c)) ∧ RecsAt w' base A c l ∧ l.map Rv.core = x.2.map Rv.core ∧ ∀ g, blk A = some g → ¬ F g) : TbAt base F t w' ∧ Qry base t w w' := by
 have hpx := h.parts x hx
 obtain ⟨cs0, htag⟩ := hpx.tag
 have hq : Qry base t w w' := Qry.grown hg h.size (fun g e => by
   injection e with e
   subst e
   exact ⟨hpx.mem.ge, ⟨cs0, _, _, htag, .inr rfl⟩, .inr ⟨x, hx, rfl⟩⟩)
 refine ⟨?_, hq⟩
 obtain ⟨z, hz⟩ := h.box
 refine ⟨Nat.le_trans h.size hg.size, fun g hgg => Nat.lt_of_lt_of_le (h.frn g hgg) hg.size, h.ge, ⟨z, ?_⟩, hq.ownS h.row (by decide) (by decide), hq.hbs (Nat.le_refl _) h.filt, h.f1, h.f2, h.f3, fun y hy => ?_, h.nd⟩
 · refine (hg.block _ (Array.getElem?_eq_some_iff.1 hz).1 (fun e => ?_)).trans hz
   injection e with e
   exact tag_ne2 hz htag (by decide) e
 · have hpy := h.parts y hy
   refine ⟨hq.pqb hpy.mem, ?_⟩
   by_cases e : y.1.g = x.1.g
   · have e2 : y = x := by
       obtain ⟨i, hi, rfl⟩ := List.mem_iff_getElem.1 hy
       obtain ⟨j, hj, rfl⟩ := List.mem_iff_getElem.1 hx
       have h1 : (t.ps.map (·.1.g))[i]'(by simpa using hi) = (t.ps.map (·.1.g))[j]'(by simpa using hj) := by simpa using e
       have h2 := (List.getElem_inj h.nd).1 h1
       subst h2; rfl
     subst e2
     exact .inr hn
   · rcases hpy.st with h1 | ⟨A, c, l, h1, h2, h3⟩
     · exact .inl ((hg.block _ (Array.getElem?_eq_some_iff.1 h1).1 (fun e2 => e (by injection e2))).trans h1)
     · exact .inr ⟨A, c, l, (hg.block _ (Array.getElem?_eq_some_iff.1 h1).1 (fun e2 => e (by injection e2))).trans h1, hq.recs (Nat.le_refl _) h2, h3⟩
theorem TbAt.count (h : TbAt base F t w) (z : Int) : TbAt base F t (w.setCell ⟨t.gt, 5, none⟩ (.int .i64 z)) ∧ Qry base t w (w.setCell ⟨t.gt, 5, none⟩ (.int .i64 z)) := by
 obtain ⟨z0, hz⟩ := h.box
 have hg := grownBy_set w ⟨t.gt, 5, none⟩ (.int .i64 z)
 have hq : Qry base t w (w.setCell ⟨t.gt, 5, none⟩ (.int .i64 z)) := Qry.grown hg h.size (fun g e => by
   injection e with e
   subst e
   exact ⟨h.ge, ⟨_, _, _, hz, .inl rfl⟩, .inl rfl⟩)
 refine ⟨?_, hq⟩
 refine ⟨Nat.le_trans h.size hg.size, fun g hgg => Nat.lt_of_lt_of_le (h.frn g hgg) hg.size, h.ge, ⟨z, ?_⟩, hq.ownS h.row (by decide) (by decide), hq.hbs (Nat.le_refl _) h.filt, h.f1, h.f2, h.f3, fun y hy => ?_, h.nd⟩
 · have := heap_setCell_same w t.gt 5 _ 72 (.int .i64 z) hz
   simpa [Ti.obj] using this
 · have hpy := h.parts y hy
   obtain ⟨cs0, htag⟩ := hpy.tag
   refine ⟨hq.pqb hpy.mem, ?_⟩
   have key : (w.setCell ⟨t.gt, 5, none⟩ (.int .i64 z)).heap[y.1.g]? = w.heap[y.1.g]? := heap_setD _ (tag_ne2 htag hz (by decide))
   rcases hpy.st with h1 | ⟨A, c, l, h1, h2, h3⟩
   · exact .inl (key.trans h1)
   · exact .inr ⟨A, c, l, key.trans h1, hq.recs (Nat.le_refl _) h2, h3⟩
end
section
variable {base : Nat} {w w' w2 : World} {t : Ti} {F F' : Nat → Prop}
theorem TbAt.more (h : TbAt base F t w) (hF : ∀ g, F' g → F g ∨ w.heap.size ≤ g) (hb : Below w.heap.size w w') (hlt : ∀ g, F' g → g < w'.heap.size) : TbAt base F' t w' := by
 have h2 := h.call hb
 refine { h2 with frn := hlt, parts := fun x hx => ?_ }
 refine ⟨(h2.parts x hx).mem, ?_⟩
 rcases (h.parts x hx).st with h1 | ⟨A, c, l, h1, h3, h4, h5⟩
 · exact .inl ((hb.block _ (Array.getElem?_eq_some_iff.1 h1).1).trans h1)
 · refine .inr ⟨A, c, l, (hb.block _ (Array.getElem?_eq_some_iff.1 h1).1).trans h1, (Qry.of (t := t) hb h.size).recs (Nat.le_refl _) h3, h4, fun g hg hf => ?_⟩
   rcases hF g hf with h6 | h6
   · exact h5 g hg h6
   · have := (h3.row.blk_ge g hg).2
     omega
theorem TbAt.less (h : TbAt base F t w) (hF : ∀ g, F' g → F g) : TbAt base F' t w := { h with
 frn := fun g hg => h.frn g (hF g hg)
 parts := fun x hx => ⟨(h.parts x hx).mem, by
   rcases (h.parts x hx).st with h1 | ⟨A, c, l, h1, h3, h4, h5⟩
   · exact .inl h1
   · exact .inr ⟨A, c, l, h1, h3, h4, fun g hg hf => h5 g hg (hF g hf)⟩⟩ }
theorem TbAt.foreignM (h : TbAt base F t w) {row : Option Nat} (hg : w.grownBy w' row) (hr : ∀ g, row = some g → F g ∧ base ≤ g ∧ ∃ cs fr, w.heap[g]? = some (.cells cs 35 fr)) (hF : ∀ g, F' g → F g ∨ w.heap.size ≤ g) (hlt : ∀ g, F' g → g < w'.heap.size) : TbAt base F' t w' := by
 have hnb : NoB w row := fun g e => by
   obtain ⟨_, _, cs, fr, h1⟩ := hr g e
   exact ⟨cs, _, fr, h1, by decide⟩
 have hge : ∀ g, row = some g → base ≤ g := fun g e => (hr g e).2.1
 have htg : ∀ g, row = some g → ∃ cs fr, w.heap[g]? = some (.cells cs 35 fr) := fun g e => (hr g e).2.2
 have key : ∀ (k : Nat) (cs : Array Value) (T : TypeId) (fr : Nat × Nat), w.heap[k]? = some (.cells cs T fr) → T ≠ 35 → w'.heap[k]? = w.heap[k]? := fun k cs T fr h1 h2 => hg.block k (Array.getElem?_eq_some_iff.1 h1).1 (fun e => by
   obtain ⟨cs', fr', h3⟩ := htg k e.symm
   exact tag_ne2 h1 h3 h2 rfl)
 obtain ⟨z, hz⟩ := h.box
 refine ⟨Nat.le_trans h.size hg.size, hlt, h.ge, ⟨z, (key _ _ _ _ hz (by decide)).trans hz⟩, h.row.kept_ne (T := 35) hg htg (by decide), h.filt.grown hg hnb hge, h.f1, h.f2, h.f3, fun x hx => ?_, h.nd⟩
 have hp := h.parts x hx
 refine ⟨hp.mem.grown hg hnb hge, ?_⟩
 rcases hp.st with h1 | ⟨A, c, l, h1, h3, h4, h5⟩
 · exact .inl ((key _ _ _ _ h1 (by decide)).trans h1)
 · refine .inr ⟨A, c, l, (key _ _ _ _ h1 (by decide)).trans h1, ⟨h3.row.kept hg ?_, fun r hm => ?_⟩, h4, fun g hgb hf => ?_⟩
   · rcases hA : blk A with _ | g
     · exact .inl rfl
     · refine .inr (fun e => ?_)
       exact h5 g hA (hr g e.symm).1
   · obtain ⟨⟨i1, i2, i3, i4⟩, i5⟩ := h3.inn r hm
     exact ⟨⟨i1.grown hg hnb hge, i2, i3.grown hg hnb hge, i4⟩, i5⟩
   · rcases hF g hf with h6 | h6
     · exact h5 g hgb h6
     · have := (h3.row.blk_ge g hgb).2
       omega
theorem TbAt.foreign (h : TbAt base F t w) {row : Option Nat} (hg : w.grownBy w' row) (hr : ∀ g, row = some g → F g ∧ base ≤ g ∧ ∃ cs fr, w.heap[g]? = some (.cells cs 35 fr)) : TbAt base F t w' :=
 h.foreignM hg hr (fun _ hf => .inl hf) (fun g hf => Nat.lt_of_lt_of_le (h.frn g hf) hg.size)
theorem RecsAt.grown {A : Option Addr} {c : Nat} {l : List Rv} (h : RecsAt w base A c l) {row : Option Nat} (hg : w.grownBy w' row) (hr : NoB w row) (hb : ∀ g, row = some g → base ≤ g) (hne : blk A = none ∨ blk A ≠ row) : RecsAt w' base A c l := ⟨h.row.kept hg hne, fun r hm => by
 obtain ⟨⟨i1, i2, i3, i4⟩, i5⟩ := h.inn r hm
 exact ⟨⟨i1.grown hg hr hb, i2, i3.grown hg hr hb, i4⟩, i5⟩⟩
theorem Qry.new (h : Qry base t w w') {row : Option Nat} (hg : w'.grownBy w2 row) (hs : base ≤ w.heap.size) (hr : ∀ g, row = some g → w.heap.size ≤ g) : Qry base t w w2 := ⟨h.below.grown hg (Nat.le_trans hs h.below.size) (fun g e => Nat.le_trans hs (hr g e)), fun k hk h3 h4 => (hg.block k (Nat.lt_of_lt_of_le hk h.below.size) (fun e => by have := hr k e.symm; omega)).trans (h.oth k hk h3 h4), fun k cs T fr h1 h2 h3 => by
 have hk := (Array.getElem?_eq_some_iff.1 h1).1
 exact (hg.block k (Nat.lt_of_lt_of_le hk h.below.size) (fun e => by have := hr k e.symm; omega)).trans (h.tagd k cs T fr h1 h2 h3)⟩
end
theorem Qry.cells {base : Nat} {w w' : World} {t : Ti} {F : Nat → Prop} (h : Qry base t w w') (ht : TbAt base F t w) {k o : Nat} {v : Value} (hc : w.cell? ⟨k, o, none⟩ = some v) (hv : (∃ x, v = .int .u8 x) ∨ ∃ b, v = .bool b) : w'.heap[k]? = w.heap[k]? := by
 have hk : k < w.heap.size := by
   rcases Nat.lt_or_ge k w.heap.size with h1 | h1
   · exact h1
   · exfalso
     have : w.heap[k]? = none := Array.getElem?_eq_none h1
     simp [World.cell?, this] at hc
 have key : ∀ (cs : Array Value) (T : TypeId), w.heap[k]? = some (.cells cs T) → cs[o]? = some v := fun cs T e => by
   rw [cell_of_row w k o cs T (0, 0) e] at hc; exact hc
 refine h.oth k hk (fun e => ?_) (fun x hx e => ?_)
 · subst e
   obtain ⟨z, hz⟩ := ht.box
   have h1 := key _ _ hz
   match o, h1 with
   | 0, h1 | 1, h1 | 2, h1 | 3, h1 | 4, h1 | 5, h1 => simp at h1; rcases hv with ⟨_, e⟩ | ⟨_, e⟩ <;> (rw [e] at h1; cases h1)
   | o + 6, h1 => simp at h1
 · subst e
   rcases (ht.parts x hx).st with h2 | ⟨A, c, l, h2, _⟩
   · have h1 := key _ _ h2
     match o, h1 with
     | 0, h1 | 1, h1 | 2, h1 | 3, h1 | 4, h1 | 5, h1 => simp at h1; rcases hv with ⟨_, e⟩ | ⟨_, e⟩ <;> (rw [e] at h1; cases h1)
     | o + 6, h1 => simp at h1
   · have h1 := key _ _ h2
     match o, h1 with
     | 0, h1 | 1, h1 | 2, h1 | 3, h1 | 4, h1 | 5, h1 => simp at h1; rcases hv with ⟨_, e⟩ | ⟨_, e⟩ <;> (rw [e] at h1; cases h1)
     | o + 6, h1 => simp at h1
theorem Qry.rdB {base : Nat} {w w' : World} {t : Ti} {F : Nat → Prop} (h : Qry base t w w') (ht : TbAt base F t w) {A : Option Addr} {l : List UInt8} (hr : RdB w w.heap.size A l) : RdB w' w'.heap.size A l := by
 refine ⟨hr.1, fun hn => ?_⟩
 obtain ⟨ad, e, hb, hc⟩ := hr.2 hn
 obtain ⟨g, off, e2, hg, h0⟩ := RdB.at_ hr (k := 0) hn
 rw [e] at e2
 injection e2 with e2
 subst e2
 have hk := h.cells ht h0 (.inl ⟨_, rfl⟩)
 refine ⟨⟨g, off, none⟩, e, Nat.lt_of_lt_of_le hg h.below.size, fun j u hu => ?_⟩
 have hk2 : w'.heap[((⟨g, off, none⟩ : Addr).add j).block]? = w.heap[((⟨g, off, none⟩ : Addr).add j).block]? := by rw [block_of_add]; exact hk
 rw [World.cell?_of_block hk2]
 exact hc j u hu
theorem Qry.rdRv {base : Nat} {w w' : World} {t : Ti} {F : Nat → Prop} (h : Qry base t w w') (ht : TbAt base F t w) {A : Option Addr} {l : List Rv} (hr : RdRv w w.heap.size A l) : RdRv w' w'.heap.size A l := by
 refine ⟨⟨hr.row.1, fun hn => ?_⟩, fun r hm => ⟨h.rdB ht (hr.ok r hm).key, h.rdB ht (hr.ok r hm).val, (hr.ok r hm).kc, (hr.ok r hm).vc⟩⟩
 obtain ⟨ad, e, hb, hc⟩ := hr.row.2 hn
 obtain ⟨g, off, e2, hg, h0⟩ := hr.row4 hn
 rw [e] at e2
 injection e2 with e2
 subst e2
 have hk := h.cells ht (h0 0 hn).2.2.1 (.inr ⟨_, rfl⟩)
 refine ⟨⟨g, off, none⟩, e, Nat.lt_of_lt_of_le hg h.below.size, fun j u hu => ?_⟩
 have hk2 : w'.heap[((⟨g, off, none⟩ : Addr).add j).block]? = w.heap[((⟨g, off, none⟩ : Addr).add j).block]? := by rw [block_of_add]; exact hk
 rw [World.cell?_of_block hk2]
 exact hc j u hu
def PtsOf (L : List (UInt8 × List UInt8)) (ps : List Pq) : Prop := ∀ (i : Nat) (p : Pq), ps[i]? = some p → ∃ f, L[i]? = some f ∧ p.b = f.2 ∧ ∀ l0, Blk.WFb f.2 l0 → Blk.lastK l0 = p.k
theorem PtsOf.nil (L : List (UInt8 × List UInt8)) : PtsOf L [] := fun i p h => by simp at h
theorem PtsOf.snoc {L : List (UInt8 × List UInt8)} {ps : List Pq} {p : Pq} (h : PtsOf L ps) {f : UInt8 × List UInt8} (hf : L[ps.length]? = some f) (hb : p.b = f.2) (hl : ∀ l0, Blk.WFb f.2 l0 → Blk.lastK l0 = p.k) : PtsOf L (ps ++ [p]) := fun i q hq => by
 by_cases hi : i < ps.length
 · rw [List.getElem?_append_left hi] at hq
   exact h i q hq
 · rw [List.getElem?_append_right (by omega)] at hq
   have h0 : i - ps.length = 0 := by
     have := (List.getElem?_eq_some_iff.1 hq).1
     simp at this; omega
   rw [h0] at hq
   have e : p = q := by simpa using hq
   subst e
   have : i = ps.length := by omega
   subst this
   exact ⟨f, hf, hb, hl⟩
theorem open_fin {b : List UInt8} {R : List Rv} {s t : Int} {L : List (UInt8 × List UInt8)} {ps : List Pq} {ff : UInt8 × List UInt8} (hi : Tb.Is b R s t) (hs : Frm.Scans b L []) (hps : ps.length = L.length - 3) (hp : PtsOf L ps) (hf : L[L.length - 3]? = some ff) (ti : Ti)
   (ef : ti.f = ff.2) (em : ti.many = (R.length : Int)) (el : ti.low = Tb.low R) (eh : ti.high = Tb.high R) : ∃ rss : List (List Rv), rss.length = ps.length ∧ TbR { ti with ps := ps.zip rss } R t.toNat := by
 obtain ⟨_, gs, hF⟩ := hi.scanned hs (by rfl)
 have hlen := hF.len
 obtain ⟨rss, e1, e2⟩ := Tb.split_flat _ _ _ hF.flat
 have u := hi.unf
 have hlr : rss.length = ps.length := by
   have := congrArg List.length e2
   rw [List.length_map] at this
   omega
 refine ⟨rss, hlr, ?_, fun x hx => ?_, ?_, ?_, em, el, eh, u.r, u.srt, by have := u.t1; omega, by have := u.t2; omega, u.l2⟩
 · show ((ps.zip rss).map (·.2)).flatten = R
   have : (ps.zip rss).map (·.2) = rss := by
     rw [List.map_snd_zip]
     omega
   rw [this, e1]
 · obtain ⟨i, hi2, rfl⟩ := List.mem_iff_getElem.1 hx
   have hi2' : i < (ps.zip rss).length := hi2
   rw [List.length_zip] at hi2'
   have hl1 : i < ps.length := by omega
   have hl2 : i < rss.length := by omega
   show PqR ((ps.zip rss)[i]).1 ((ps.zip rss)[i]).2
   rw [List.getElem_zip]
   show PqR ps[i] rss[i]
   obtain ⟨f, h1, h2, h3⟩ := hp i _ (List.getElem?_eq_getElem hl1)
   obtain ⟨g, h4, h5, h6⟩ := hF.block (i := i) (by omega) h1
   have e3 : g = (rss[i]).map Tb.inner := by
     rw [e2, List.getElem?_map, List.getElem?_eq_getElem hl2] at h4
     simpa using h4.symm
   subst e3
   refine ⟨by rw [h2]; exact h5, fun e => h6 (by rw [e]; rfl), fun r hr => u.r r ?_, h3 _ h5⟩
   rw [← e1]
   exact List.mem_flatten.2 ⟨_, List.getElem_mem hl2, hr⟩
 · intro e
   have : (ps.zip rss).length = 0 := by
     have e' : ps.zip rss = [] := e
     rw [e']; rfl
   rw [List.length_zip] at this
   omega
 · show ti.f = _
   have h1 := hF.filt
   have h2 : L.length - 3 = gs.length := by omega
   rw [h2, h1] at hf
   injection hf with hf
   rw [ef, ← hf]
theorem OpT.tab {Y w : World} {base gt RC PC fc : Nat} {F : Value} {m2 m3 m4 : Int} {RA PA fA : Option Addr} {f : List UInt8} {R : List Rv} {ps : List Pq} (h : OpT Y base gt F (.int .i64 m2) (.int .i64 m3) (.int .i64 m4) RA RC R PA PC ps w) (hF : F = .slice fA f.length fc) (hf : HBs w base fA f)
   (f1 : f.length ≤ fc) (f2 : fc ≤ 9223372036854775807) (f3 : f.length ≤ 65536) (rss : List (List Rv)) (hl : rss.length = ps.length) : TbAt base (fun _ => False) ⟨gt, PA, PC, fA, fc, f, m2, m3, m4, ps.zip rss⟩ w := by
 have hz : (ps.zip rss).length = ps.length := by rw [List.length_zip]; omega
 have hm : (ps.zip rss).map (·.1.g) = ps.map Pq.g := by
   have h1 : (ps.zip rss).map (·.1) = ps := by rw [List.map_fst_zip]; omega
   have h2 : (ps.zip rss).map (·.1.g) = ((ps.zip rss).map (·.1)).map Pq.g := by rw [List.map_map]; rfl
   rw [h2, h1]
 refine ⟨h.recs.size, fun _ hg => hg.elim, h.ge, ⟨0, ?_⟩, ?_, hf, f1, f2, f3, fun x hx => ?_, ?_⟩
 · show w.heap[gt]? = some (.cells #[.slice PA (ps.zip rss).length PC, .slice fA f.length fc, .int .i64 m2, .int .i64 m3, .int .i64 m4, .int .i64 0] _)
   rw [hz, ← hF]
   exact h.box
 · show OwnS Ptc 1 w base _ PA PC ((ps.zip rss).map (·.1.g))
   rw [hm]; exact h.row
 · have hp := h.parts _ (List.of_mem_zip hx).1
   exact ⟨hp.mem, .inl hp.box⟩
 · show ((ps.zip rss).map (·.1.g)).Nodup
   rw [hm]; exact h.nd
theorem lastK_at {l : List Pr} {m : Nat} (h : l.length = m + 1) : Blk.lastK l = (l[m]'(by omega)).k := by
 unfold Blk.lastK
 rw [List.getLast?_eq_getElem?, List.getElem?_eq_getElem (by omega)]
 simp [h]
def OpenQ (w : World) (b : List UInt8) (e : Ending) (w' : World) : Prop := Below w.heap.size w w' ∧
 ((e = .returned (.tuple #[.pointer none, .int .i64 3]) ∧ ∀ l s t, ¬ Tb.Is b l s t) ∨
  (∃ (R : List Rv) (ti : Ti) (base : Nat) (s t : Int), e = .returned (.tuple #[.pointer (some ⟨ti.gt, 0, none⟩), .int .i64 0]) ∧ w.heap.size ≤ base ∧ TbAt base (fun _ => False) ti w' ∧ TbR ti R t.toNat ∧ Tb.Is b R s t ∧ ∀ l s t, Tb.Is b l s t → l.map Rv.core = R.map Rv.core))
theorem openQ_no {w w' : World} {b : List UInt8} (hb : Below w.heap.size w w') (h : ∀ l s t, ¬ Tb.Is b l s t) : OpenQ w b (.returned (.tuple #[.pointer none, .int .i64 3])) w' := ⟨hb, .inl ⟨rfl, h⟩⟩
theorem low_nat {R : List Rv} (hr : ∀ r ∈ R, Tb.right r = true) (hp : 0 < R.length) : (((Tb.low R).toNat : Nat) : Int) = Tb.low R ∧ (((Tb.high R).toNat : Nat) : Int) = Tb.high R := by
 have h := Tb.lohi_bd R hr hp R.length (Nat.le_refl _)
 rw [Tb.lowK_all, Tb.highK_all] at h
 omega
namespace Tb
theorem less_trans : ∀ (a b c : List UInt8), Op.bytesLess a b = true → Op.bytesLess b c = true → Op.bytesLess a c = true
 | a, [], _, h, _ => by cases a <;> simp [Op.bytesLess] at h
 | _, _ :: _, [], _, h => by simp [Op.bytesLess] at h
 | [], _ :: _, _ :: _, _, _ => rfl
 | x :: a, y :: b, z :: c, h1, h2 => by
   simp only [Op.bytesLess, Bool.or_eq_true, Bool.and_eq_true, decide_eq_true_eq, beq_iff_eq] at h1 h2 ⊢
   rcases h1 with h1 | ⟨rfl, h1⟩
   · rcases h2 with h2 | ⟨rfl, h2⟩
     · left; rw [UInt8.lt_iff_toNat_lt] at *; omega
     · exact .inl h1
   · rcases h2 with h2 | ⟨rfl, h2⟩
     · exact .inl h2
     · exact .inr ⟨rfl, less_trans a b c h1 h2⟩
theorem less_irr (a : List UInt8) : Op.bytesLess a a = false := by
 induction a with
 | nil => rfl
 | cons x a ih =>
   show (decide (x < x) || (x == x && Op.bytesLess a a)) = false
   rw [ih]
   have : ¬ x < x := by rw [UInt8.lt_iff_toNat_lt]; omega
   simp [this]
theorem ahead_iff (a b : Rv) : ahead a b = true ↔ Op.bytesLess a.k b.k = true ∨ (a.k = b.k ∧ b.seq < a.seq) := by
 unfold ahead
 rw [Bool.or_eq_true, Bool.and_eq_true, decide_eq_true_eq, beq_iff_eq]
theorem ahead_trans {a b c : Rv} (h1 : ahead a b = true) (h2 : ahead b c = true) : ahead a c = true := by
 rw [ahead_iff] at *
 rcases h1 with h1 | ⟨e1, h1⟩
 · rcases h2 with h2 | ⟨e2, h2⟩
   · exact .inl (less_trans _ _ _ h1 h2)
   · rw [← e2]; exact .inl h1
 · rcases h2 with h2 | ⟨e2, h2⟩
   · rw [e1]; exact .inl h2
   · exact .inr ⟨e1.trans e2, by omega⟩
theorem sorted_lt {l : List Rv} (h : sorted l = true) (i : Nat) : ∀ (d : Nat) (hj : i + d + 1 < l.length), ahead (l[i]'(by omega)) (l[i + d + 1]'hj) = true
 | 0, hj => by
   have := sorted_at h hj (by omega)
   simpa using this
 | d + 1, hj => by
   have h1 := sorted_lt h i d (by omega)
   have h2 := sorted_at h (i := i + (d + 1) + 1) hj (by omega)
   exact ahead_trans h1 h2
theorem sorted_any {l : List Rv} (h : sorted l = true) {i j : Nat} (hij : i < j) (hj : j < l.length) : ahead (l[i]'(by omega)) (l[j]'hj) = true := by
 obtain ⟨d, rfl⟩ : ∃ d, j = i + d + 1 := ⟨j - i - 1, by omega⟩
 exact sorted_lt h i d hj
theorem ahead_core {a b c d : Rv} (h1 : a.core = b.core) (h2 : c.core = d.core) : ahead a c = ahead b d := by
 unfold Rv.core at h1 h2
 injection h1 with e1 h1; injection h1 with e2 h1
 injection h2 with e3 h2; injection h2 with e4 h2
 unfold ahead
 rw [e1, e2, e3, e4]
def ask (k : List UInt8) (seq : Int) : Rv := ⟨none, 0, k, seq, false, none, 0, []⟩
structure Pos (R : List Rv) (q : Rv) (P : Nat) : Prop where
 le : P ≤ R.length
 lo : ∀ m (h : m < R.length), m < P → ahead R[m] q = true
 hi : ∀ m (h : m < R.length), P ≤ m → ahead R[m] q = false
theorem ikey_less (a b : List UInt8) (s t : Int) (hs1 : 1 ≤ s) (hs2 : s ≤ 1099511627776) (ht1 : 1 ≤ t) (ht2 : t ≤ 1099511627776) :
   Op.bytesLess (ikey a s) (ikey b t) = true ↔ Op.bytesLess a b = true ∨ (a = b ∧ t < s) := by
 have e := Cod.key_order (iparts a (1099511627776 - s).toNat) (iparts b (1099511627776 - t).toNat) (fun p hp => by
   simp only [iparts, List.mem_cons, List.not_mem_nil, or_false] at hp
   rcases hp with rfl | rfl <;> simp <;> omega) (fun p hp => by
   simp only [iparts, List.mem_cons, List.not_mem_nil, or_false] at hp
   rcases hp with rfl | rfl <;> simp <;> omega)
 unfold ikey
 rw [e]
 unfold iparts
 by_cases hk : a = b
 · have e1 : Cod.ptSame ⟨true, 0, ⟨a.toArray⟩⟩ ⟨true, 0, ⟨b.toArray⟩⟩ = true := by unfold Cod.ptSame; simp [hk]
   rw [show Cod.less [⟨true, 0, ⟨a.toArray⟩⟩, ⟨false, (1099511627776 - s).toNat, ⟨#[]⟩⟩] [⟨true, 0, ⟨b.toArray⟩⟩, ⟨false, (1099511627776 - t).toNat, ⟨#[]⟩⟩] = Cod.less [⟨false, (1099511627776 - s).toNat, ⟨#[]⟩⟩] [⟨false, (1099511627776 - t).toNat, ⟨#[]⟩⟩] from by
     conv => lhs; unfold Cod.less
     rw [if_pos e1]]
   have hirr : Op.bytesLess a b = false := by rw [hk]; exact less_irr b
   rw [hirr]
   by_cases hst : s = t
   · have e2 : Cod.ptSame ⟨false, (1099511627776 - s).toNat, ⟨#[]⟩⟩ ⟨false, (1099511627776 - t).toNat, ⟨#[]⟩⟩ = true := by unfold Cod.ptSame; simp [hst]
     unfold Cod.less
     rw [if_pos e2]
     unfold Cod.less
     simp [hst]
   · have e2 : Cod.ptSame ⟨false, (1099511627776 - s).toNat, ⟨#[]⟩⟩ ⟨false, (1099511627776 - t).toNat, ⟨#[]⟩⟩ = false := by unfold Cod.ptSame; simp; omega
     unfold Cod.less
     rw [if_neg (by rw [e2]; simp)]
     unfold Cod.ptLess
     simp [hk]
     omega
 · have e1 : Cod.ptSame ⟨true, 0, ⟨a.toArray⟩⟩ ⟨true, 0, ⟨b.toArray⟩⟩ = false := by unfold Cod.ptSame; simp [hk]
   unfold Cod.less
   rw [if_neg (by rw [e1]; simp)]
   unfold Cod.ptLess
   simp [hk]
end Tb
def Ti.off (t : Ti) (j : Nat) : Nat := ((t.ps.take j).map (·.2)).flatten.length
theorem Ti.off_zero (t : Ti) : t.off 0 = 0 := rfl
theorem Ti.off_succ (t : Ti) {j : Nat} (h : j < t.ps.length) : t.off (j + 1) = t.off j + t.ps[j].2.length := by
 unfold Ti.off
 rw [List.take_succ_eq_append_getElem h, List.map_append, List.flatten_append, List.length_append]
 simp only [List.map_cons, List.map_nil, List.flatten_cons, List.flatten_nil, List.append_nil]
theorem Ti.off_le (t : Ti) {i j : Nat} (h : i ≤ j) (hj : j ≤ t.ps.length) : t.off i ≤ t.off j := by
 induction j with
 | zero => rw [Nat.le_zero.1 h]; exact Nat.le_refl _
 | succ j ih =>
   rcases Nat.lt_or_ge i (j + 1) with h1 | h1
   · have := ih (by omega) (by omega)
     rw [t.off_succ (by omega)]; omega
   · have : i = j + 1 := by omega
     rw [this]; exact Nat.le_refl _
section
variable {t : Ti} {R : List Rv} {bits : Nat}
theorem TbR.off_all (h : TbR t R bits) : t.off t.ps.length = R.length := by
 unfold Ti.off
 rw [List.take_length, h.flat]
theorem TbR.drop (h : TbR t R bits) (j : Nat) : R.drop (t.off j) = ((t.ps.drop j).map (·.2)).flatten := by
 have e : R = ((t.ps.take j).map (·.2)).flatten ++ ((t.ps.drop j).map (·.2)).flatten := by
   rw [← List.flatten_append, ← List.map_append, List.take_append_drop, h.flat]
 conv => lhs; rw [e]
 unfold Ti.off
 rw [List.drop_left']
 rfl
theorem TbR.at_ (h : TbR t R bits) {j m : Nat} (hj : j < t.ps.length) (hm : m < t.ps[j].2.length) : ∃ h1 : t.off j + m < R.length, R[t.off j + m] = t.ps[j].2[m] := by
 have e := h.drop j
 rw [List.drop_eq_getElem_cons hj, List.map_cons, List.flatten_cons] at e
 have h2 : (R.drop (t.off j))[m]? = some (t.ps[j].2[m]) := by
   rw [e, List.getElem?_append_left hm, List.getElem?_eq_getElem hm]
 rw [List.getElem?_drop] at h2
 obtain ⟨h3, h4⟩ := List.getElem?_eq_some_iff.1 h2
 exact ⟨h3, h4⟩
theorem TbR.pne (h : TbR t R bits) {j : Nat} (hj : j < t.ps.length) : 0 < t.ps[j].2.length := List.length_pos_iff.2 (h.prt _ (List.getElem_mem hj)).ne
theorem PqR.lastk {p : Pq} {rs : List Rv} (h : PqR p rs) {m : Nat} (hm : rs.length = m + 1) : p.k = Tb.ikey (rs[m]'(by omega)).k (rs[m]'(by omega)).seq := by
 rw [← h.last, lastK_at (m := m) (by rw [List.length_map]; exact hm), List.getElem_map]
 rfl
theorem TbR.cmp (h : TbR t R bits) (k : List UInt8) (seq : Int) (h1 : 1 ≤ seq) (h2 : seq ≤ 1099511627776) {j : Nat} (hj : j < t.ps.length) :
   Lib.compareBytes t.ps[j].1.k (Tb.ikey k seq) < 0 ↔ ∀ m (hm : m < R.length), m < t.off (j + 1) → Tb.ahead R[m] (Tb.ask k seq) = true := by
 obtain ⟨n, hn⟩ : ∃ n, t.ps[j].2.length = n + 1 := ⟨t.ps[j].2.length - 1, by have := h.pne hj; omega⟩
 have hp := h.prt _ (List.getElem_mem hj)
 obtain ⟨a1, a2⟩ := h.at_ hj (m := n) (by omega)
 have hr := (Tb.right_iff _).1 (hp.rt _ (List.getElem_mem (show n < t.ps[j].2.length by omega)))
 have ho := t.off_succ hj
 rw [compareBytes_lt, hp.lastk hn, Tb.ikey_less _ _ _ _ (by omega) (by omega) h1 h2, ← a2]
 have key : (Op.bytesLess R[t.off j + n].k k = true ∨ R[t.off j + n].k = k ∧ seq < R[t.off j + n].seq) ↔ Tb.ahead R[t.off j + n] (Tb.ask k seq) = true := by rw [Tb.ahead_iff]; exact Iff.rfl
 rw [key]
 constructor
 · intro h3 m hm hlt
   by_cases e : m = t.off j + n
   · subst e; exact h3
   · exact Tb.ahead_trans (Tb.sorted_any h.srt (by omega) a1) h3
 · intro h3
   exact h3 _ a1 (by omega)
def SeekQ (t : Ti) (R : List Rv) (q : Rv) (at_ i : Nat) : Prop := (∃ h : at_ < t.ps.length, i < t.ps[at_].2.length ∧ Tb.Pos R q (t.off at_ + i)) ∨ (at_ = t.ps.length ∧ i = 0 ∧ Tb.Pos R q R.length)
theorem TbR.behind (h : TbR t R bits) (k : List UInt8) (seq : Int) (h1 : 1 ≤ seq) (h2 : seq ≤ 1099511627776) (ha : ∀ j (hj : j < t.ps.length), Lib.compareBytes t.ps[j].1.k (Tb.ikey k seq) < 0) : SeekQ t R (Tb.ask k seq) t.ps.length 0 := by
 refine .inr ⟨rfl, rfl, Nat.le_refl _, fun m hm _ => ?_, fun m hm h3 => by omega⟩
 have hl := List.length_pos_iff.2 h.ne
 have := (h.cmp k seq h1 h2 (j := t.ps.length - 1) (by omega)).1 (ha _ (by omega)) m hm
 rw [Nat.sub_add_cancel (by omega), h.off_all] at this
 exact this hm
theorem TbR.found (h : TbR t R bits) (k : List UInt8) (seq : Int) (h1 : 1 ≤ seq) (h2 : seq ≤ 1099511627776) {a i : Nat} (ha : a < t.ps.length) (hlo : ∀ j (hj : j < t.ps.length), j < a → Lib.compareBytes t.ps[j].1.k (Tb.ikey k seq) < 0)
   (hhi : ¬ Lib.compareBytes t.ps[a].1.k (Tb.ikey k seq) < 0) (hi : i ≤ t.ps[a].2.length) (ilo : ∀ m (hm : m < t.ps[a].2.length), m < i → Tb.ahead t.ps[a].2[m] (Tb.ask k seq) = true) (ihi : ∀ m (hm : m < t.ps[a].2.length), i ≤ m → Tb.ahead t.ps[a].2[m] (Tb.ask k seq) = false) :
   SeekQ t R (Tb.ask k seq) a i := by
 have hoff := t.off_succ ha
 have hle : t.off (a + 1) ≤ R.length := by rw [← h.off_all]; exact t.off_le (by omega) (Nat.le_refl _)
 have hlow : ∀ m (hm : m < R.length), m < t.off a → Tb.ahead R[m] (Tb.ask k seq) = true := fun m hm hlt => by
   rcases Nat.eq_zero_or_pos a with e | e
   · subst e; rw [t.off_zero] at hlt; omega
   · have := (h.cmp k seq h1 h2 (j := a - 1) (by omega)).1 (hlo _ (by omega) (by omega)) m hm
     rw [Nat.sub_add_cancel e] at this
     exact this hlt
 have hil : i < t.ps[a].2.length := by
   rcases Nat.lt_or_ge i t.ps[a].2.length with h3 | h3
   · exact h3
   · exfalso
     apply hhi
     rw [h.cmp k seq h1 h2 ha]
     intro m hm hlt
     rcases Nat.lt_or_ge m (t.off a) with h4 | h4
     · exact hlow m hm h4
     · obtain ⟨n, rfl⟩ : ∃ n, m = t.off a + n := ⟨m - t.off a, by omega⟩
       obtain ⟨_, e⟩ := h.at_ ha (m := n) (by omega)
       rw [e]
       exact ilo n (by omega) (by omega)
 have hbase : ∀ m (hm : m < R.length), t.off a + i ≤ m → Tb.ahead R[m] (Tb.ask k seq) = false := fun m hm hge => by
   obtain ⟨a1, a2⟩ := h.at_ ha hil
   have h3 := ihi i hil (Nat.le_refl _)
   rw [← a2] at h3
   by_cases e : m = t.off a + i
   · subst e; exact h3
   · cases hx : Tb.ahead R[m] (Tb.ask k seq) with
     | false => rfl
     | true =>
       rw [Tb.ahead_trans (Tb.sorted_any h.srt (i := t.off a + i) (by omega) hm) hx] at h3
       cases h3
 refine .inl ⟨ha, hil, by omega, fun m hm hlt => ?_, hbase⟩
 rcases Nat.lt_or_ge m (t.off a) with h4 | h4
 · exact hlow m hm h4
 · obtain ⟨n, rfl⟩ : ∃ n, m = t.off a + n := ⟨m - t.off a, by omega⟩
   obtain ⟨_, e⟩ := h.at_ ha (m := n) (by omega)
   rw [e]
   exact ilo n (by omega) (by omega)
end
namespace Tb
def get (R : List Rv) (k : List UInt8) (seq : Int) : Option Rv := R.find? (fun r => r.k == k && decide (r.seq ≤ seq))
def fromL (R : List Rv) (k : List UInt8) : List Rv := R.filter (fun r => !Op.bytesLess r.k k)
theorem Pos.get {R : List Rv} {k : List UInt8} {seq : Int} {P : Nat} (hs : sorted R = true) (h : Pos R (ask k seq) P) : get R k seq = match R[P]? with | none => none | some r => if r.k = k then some r else none := by
 unfold Tb.get
 have hlo : ∀ m (hm : m < R.length), m < P → (R[m].k == k && decide (R[m].seq ≤ seq)) = false := fun m hm hlt => by
   have h1 := (ahead_iff _ _).1 (h.lo m hm hlt)
   rw [Bool.and_eq_false_iff]
   rcases h1 with h1 | ⟨_, h1⟩
   · left
     rw [beq_eq_false_iff_ne]
     intro e
     have h2 : Op.bytesLess R[m].k k = true := h1
     rw [e, less_irr] at h2; cases h2
   · right
     have h2 : seq < R[m].seq := h1
     simp; omega
 by_cases hP : P < R.length
 · rw [List.getElem?_eq_getElem hP]
   simp only
   have h1 := h.hi P hP (Nat.le_refl _)
   by_cases e : R[P].k = k
   · rw [if_pos e, List.find?_eq_some_iff_getElem]
     refine ⟨?_, P, hP, rfl, fun j hj => by rw [hlo j (by omega) hj]; rfl⟩
     have h2 : ¬ ahead R[P] (ask k seq) = true := by rw [h1]; simp
     rw [ahead_iff] at h2
     simp only [ask] at h2
     simp [e]
     by_cases h3 : seq < R[P].seq
     · exact absurd (.inr ⟨e, h3⟩) h2
     · omega
   · rw [if_neg e, List.find?_eq_none]
     intro r hr
     obtain ⟨m, hm, rfl⟩ := List.mem_iff_getElem.1 hr
     rcases Nat.lt_or_ge m P with h2 | h2
     · rw [hlo m hm h2]; simp
     · have h3 := h.hi m hm h2
       -- a key behind
       have h4 : R[m].k ≠ k := fun e2 => by
         rcases Nat.lt_or_ge P m with h5 | h5
         · have h6 := (ahead_iff _ _).1 (sorted_any hs h5 hm)
           have h7 : Op.bytesLess R[P].k k = true := by
             rcases h6 with h6 | ⟨h6, _⟩
             · rw [e2] at h6; exact h6
             · exact absurd (h6.trans e2) e
           have h8 : ahead R[P] (ask k seq) = true := (ahead_iff _ _).2 (.inl h7)
           rw [h1] at h8; cases h8
         · have : m = P := by omega
           subst this
           exact e e2
       simp [h4]
 · rw [List.getElem?_eq_none (by omega), List.find?_eq_none]
   intro r hr
   obtain ⟨m, hm, rfl⟩ := List.mem_iff_getElem.1 hr
   rw [hlo m hm (by omega)]; simp
theorem filter_split {α : Type} (f : α → Bool) : ∀ (l : List α) (P : Nat), (∀ m (h : m < l.length), m < P → f l[m] = false) → (∀ m (h : m < l.length), P ≤ m → f l[m] = true) → l.filter f = l.drop P
 | [], P, _, _ => by simp
 | a :: l, 0, _, h2 => by
   rw [List.drop_zero, List.filter_eq_self]
   intro x hx
   obtain ⟨m, hm, rfl⟩ := List.mem_iff_getElem.1 hx
   exact h2 m hm (by omega)
 | a :: l, P + 1, h1, h2 => by
   have h0 : f a = false := h1 0 (by simp) (by omega)
   rw [List.filter_cons_of_neg (by rw [h0]; simp), List.drop_succ_cons]
   exact filter_split f l P (fun m h hlt => h1 (m + 1) (by simp; omega) (by omega)) (fun m h hge => h2 (m + 1) (by simp; omega) (by omega))
theorem Pos.from {R : List Rv} {k : List UInt8} {P : Nat} (hr : ∀ r ∈ R, right r = true) (h : Pos R (ask k 1099511627776) P) : fromL R k = R.drop P := by
 unfold fromL
 refine filter_split _ R P (fun m hm hlt => ?_) (fun m hm hge => ?_)
 · have h1 := (ahead_iff _ _).1 (h.lo m hm hlt)
   rcases h1 with h1 | ⟨_, h1⟩
   · have h2 : Op.bytesLess R[m].k k = true := h1
     rw [h2]; rfl
   · have h2 : (1099511627776 : Int) < R[m].seq := h1
     have h3 := (right_iff _).1 (hr _ (List.getElem_mem hm))
     omega
 · have h1 := h.hi m hm hge
   cases hx : Op.bytesLess R[m].k k with
   | false => rfl
   | true =>
     have h2 : ahead R[m] (ask k 1099511627776) = true := (ahead_iff _ _).2 (.inl hx)
     rw [h1] at h2; cases h2
theorem find_congr {α : Type} {f g : α → Bool} : ∀ (l : List α), (∀ x ∈ l, f x = g x) → l.find? f = l.find? g
 | [], _ => rfl
 | a :: l, h => by
   rw [List.find?_cons, List.find?_cons, h a (by simp), find_congr l (fun x hx => h x (by simp [hx]))]
theorem get_min {R : List Rv} (hr : ∀ r ∈ R, right r = true) (k : List UInt8) (seq : Int) : get R k seq = get R k (min seq 1099511627776) := by
 unfold get
 have : ∀ r ∈ R, (r.k == k && decide (r.seq ≤ seq)) = (r.k == k && decide (r.seq ≤ min seq 1099511627776)) := fun r hm => by
   have h3 := (right_iff _).1 (hr _ hm)
   congr 1
   rw [decide_eq_decide]
   omega
 exact find_congr R this
theorem get_low {R : List Rv} (hr : ∀ r ∈ R, right r = true) (k : List UInt8) (seq : Int) (h : seq < 1) : get R k seq = none := by
 unfold get
 rw [List.find?_eq_none]
 intro r hm
 have h3 := (right_iff _).1 (hr _ hm)
 simp; omega
theorem get_no {R : List Rv} (k : List UInt8) (seq : Int) (h : ∀ r ∈ R, r.k ≠ k) : get R k seq = none := by
 unfold get
 rw [List.find?_eq_none]
 intro r hm
 simp [h r hm]
end Tb
structure AllR (w : World) (base bp : Nat) (p : Pq) (A : Option Addr) (c : Nat) (R : List Rv) (PA : Option Addr) (PC : Nat) (l : List Pv) (wr : World) : Prop where
 row : OwnS Rv.cells 4 wr w.heap.size 35 A c R
 inn : ∀ r ∈ R, (HBs wr base r.kA r.k ∧ r.k.length ≤ r.kc ∧ HBs wr base r.vA r.v ∧ r.v.length ≤ r.vc) ∧ r.k.length ≤ 70000 ∧ r.v.length ≤ 70000
 box : wr.heap[p.g]? = some (p.obj 0 1 (.slice A R.length c))
 ptr : wr.heap[bp]? = some (.cells #[.pointer (some ⟨p.g, 0, none⟩)] 79)
 pv : OwnPv wr w.heap.size PA PC l
 gr : w.grownBy wr (some p.g)
section
variable {w wr w2 : World} {base bp c c' PC : Nat} {p : Pq} {A A' PA : Option Addr} {R : List Rv} {r : Rv} {l : List Pv}
theorem grownBy_below {w wr w2 : World} {row : Option Nat} (h : w.grownBy wr row) (hb : Below wr.heap.size wr w2) : w.grownBy w2 row :=
 ⟨hb.os.trans h.os, hb.tape.trans h.tape, hb.output.trans h.output, Nat.le_trans h.size hb.size, fun k hk hne => (hb.block k (Nat.lt_of_lt_of_le hk h.size)).trans (h.block k hk hne)⟩
theorem grownBy_new {w wr w2 : World} {row row2 : Option Nat} (h : w.grownBy wr row) (h2 : wr.grownBy w2 row2) (hr : ∀ g, row2 = some g → w.heap.size ≤ g ∨ row = some g) : w.grownBy w2 row :=
 ⟨h2.os.trans h.os, h2.tape.trans h.tape, h2.output.trans h.output, Nat.le_trans h.size h2.size, fun k hk hne => (h2.block k (Nat.lt_of_lt_of_le hk h.size) (fun e => by
   rcases hr k e.symm with h3 | h3
   · omega
   · exact hne h3.symm)).trans (h.block k hk hne)⟩
theorem AllR.call (h : AllR w base bp p A c R PA PC l wr) (hb : Below wr.heap.size wr w2) : AllR w base bp p A c R PA PC l w2 :=
 ⟨h.row.below hb, fun r hr => by
   obtain ⟨⟨h1, h2, h3, h4⟩, h5⟩ := h.inn r hr
   exact ⟨⟨h1.below hb, h2, h3.below hb, h4⟩, h5⟩, (hb.block _ (Array.getElem?_eq_some_iff.1 h.box).1).trans h.box, (hb.block _ (Array.getElem?_eq_some_iff.1 h.ptr).1).trans h.ptr, h.pv.call hb, grownBy_below h.gr hb⟩
theorem heap_set65 {w : World} {gt : Nat} {x0 x1 x2 x3 x4 x5 v : Value} {T : TypeId} (h : w.heap[gt]? = some (.cells #[x0, x1, x2, x3, x4, x5] T)) : (w.setCell ⟨gt, 5, none⟩ v).heap[gt]? = some (.cells #[x0, x1, x2, x3, x4, v] T) := by
 have := heap_setCell_same w gt 5 _ T v h
 simpa using this
theorem AllR.mid (h : AllR w base bp p A c R PA PC l wr) (hg : wr.grownBy w2 (blk A)) :
   w2.heap[p.g]? = some (p.obj 0 1 (.slice A R.length c)) ∧ w2.heap[bp]? = some (.cells #[.pointer (some ⟨p.g, 0, none⟩)] 79) := by
 refine ⟨(hg.block _ (Array.getElem?_eq_some_iff.1 h.box).1 (fun e => ?_)).trans h.box, (hg.block _ (Array.getElem?_eq_some_iff.1 h.ptr).1 (fun e => ?_)).trans h.ptr⟩
 · obtain ⟨_, cs, fr, h1⟩ := ownS_tag h.row e.symm
   exact tag_ne2 h.box h1 (by decide) rfl
 · obtain ⟨_, cs, fr, h1⟩ := ownS_tag h.row e.symm
   exact tag_ne2 h.ptr h1 (by decide) rfl
theorem AllR.app (h : AllR w base bp p A c R PA PC l wr) (hbw : base ≤ w.heap.size) (hpg : base ≤ p.g) (hr : (HBs wr base r.kA r.k ∧ r.k.length ≤ r.kc ∧ HBs wr base r.vA r.v ∧ r.v.length ≤ r.vc) ∧ r.k.length ≤ 70000 ∧ r.v.length ≤ 70000)
   (ho : OwnS Rv.cells 4 w2 w.heap.size 35 A' c' (R ++ [r])) (hg : wr.grownBy w2 (blk A)) : AllR w base bp p A' c' (R ++ [r]) PA PC l (w2.setCell ⟨p.g, 5, none⟩ (.slice A' (R ++ [r]).length c')) := by
 obtain ⟨hb2, hp2⟩ := h.mid hg
 have hnb : NoB wr (blk A) := h.row.nob (by decide)
 have hge : ∀ g, blk A = some g → base ≤ g := fun g e => Nat.le_trans hbw (ownS_tag h.row e).1
 have key : ∀ q : Rv, ((HBs wr base q.kA q.k ∧ q.k.length ≤ q.kc ∧ HBs wr base q.vA q.v ∧ q.v.length ≤ q.vc) ∧ q.k.length ≤ 70000 ∧ q.v.length ≤ 70000) → ((HBs (w2.setCell ⟨p.g, 5, none⟩ (.slice A' (R ++ [r]).length c')) base q.kA q.k ∧ q.k.length ≤ q.kc ∧ HBs (w2.setCell ⟨p.g, 5, none⟩ (.slice A' (R ++ [r]).length c')) base q.vA q.v ∧ q.v.length ≤ q.vc) ∧ q.k.length ≤ 70000 ∧ q.v.length ≤ 70000) := fun q hq => by
   obtain ⟨⟨h1, h2, h3, h4⟩, h5⟩ := hq
   exact ⟨⟨(h1.grown hg hnb hge).set_tag hb2 (by decide) hpg, h2, (h3.grown hg hnb hge).set_tag hb2 (by decide) hpg, h4⟩, h5⟩
 refine ⟨ownS_set ho hb2 (by decide), fun q hq => ?_, heap_set65 hb2, ?_, ?_, ?_⟩
 · simp only [List.mem_append, List.mem_singleton] at hq
   rcases hq with hq | hq
   · exact key q (h.inn q hq)
   · rw [hq]; exact key r hr
 · exact (heap_setD _ (tag_ne2 hp2 hb2 (by decide))).trans hp2
 · have h1 := OwnPv.kept_rec h.pv h.row hg
   exact ⟨ownS_set h1.row hb2 (by decide), fun q hq => ⟨(h1.own q hq).1.cellput ⟨p.g, 5, none⟩ _ (fun e => by
     obtain ⟨_, cs, fr, h3⟩ := own_tag (h1.own q hq).1 e
     exact tag_ne2 hb2 h3 (by decide) rfl), (h1.own q hq).2.cellput ⟨p.g, 5, none⟩ _ (fun e => by
     obtain ⟨_, cs, fr, h3⟩ := own_tag (h1.own q hq).2 e
     exact tag_ne2 hb2 h3 (by decide) rfl)⟩⟩
 · exact grownBy_new (grownBy_new h.gr hg (fun g e => .inl (ownS_tag h.row e).1)) (grownBy_set w2 _ _) (fun g e => .inr e)
end
set_option maxHeartbeats 4000000 in
set_option maxRecDepth 100000 in
theorem all1_any (base bp : Nat) (p : Pq) (rs : List Rv) (w : World) (hbp : w.heap[bp]? = some (.cells #[.pointer (some ⟨p.g, 0, none⟩)] 79)) (hp : PqB w base p) (hbx : w.heap[p.g]? = some (p.obj 0 1 (.slice none 0 0))) (hr : PqR p rs) (hs : base ≤ w.heap.size) :
   Calls Tryz.prog 73 #[.pointer (some ⟨bp, 0, none⟩)] w fun e w' => e = .returned (.tuple #[]) ∧ w.grownBy w' (some p.g) ∧
     ∃ (A : Option Addr) (c : Nat) (l : List Rv), w'.heap[p.g]? = some (p.obj 0 1 (.slice A l.length c)) ∧ RecsAt w' base A c l ∧ l.map Rv.core = rs.map Rv.core ∧ ∀ g, blk A = some g → w.heap.size ≤ g := by
 have KP := hid (parse_any p.A p.c p.b w hp.hb.rd hp.fit hp.c1 hp.c2)
 have HP := hid hp
 have HBX := hid hbx
 have HBP := hid hbp
 have HR := hid hr
 have HFT := hp.fit
 have c0 := cell_of_row w bp 0 _ _ (0, 0) hbp
 simp only [List.getElem?_toArray, List.getElem?_cons_zero] at c0
 have d0 := cell_of_row w p.g 0 _ _ (0, 0) hbx
 simp only [List.getElem?_toArray, List.getElem?_cons_zero] at d0
 clear hbp hp hbx hr
 go_enter Tryz.func73, Tryz.ntmps73
 go_wp2_with fail
 refine KP.out.mono ?_
 rintro e w1 ⟨hb1, ⟨x, hx, rfl, hno⟩ | ⟨l, PA, PC, rfl, hop, hpl, hpb, hwf⟩⟩
 · exact absurd HR.out.wf (hno _)
 have hl1 : rs.map Tb.inner = l.map Pv.pr := hwf _ HR.out.wf
 have hl2 : l.length = rs.length := by
   have := congrArg List.length hl1
   simpa using this.symm
 have HL1 := hid hl1
 have HL2 := hid hl2
 have HPB := hid hpb
 have hpl2 : l.length ≤ 65536 := by omega
 have hst : AllR w base bp p none 0 [] PA PC l w1 := ⟨OwnS.nil _ _ _, (fun r hr => by cases hr), (hb1.block _ (Array.getElem?_eq_some_iff.1 HBX.out).1).trans HBX.out, (hb1.block _ (Array.getElem?_eq_some_iff.1 HBP.out).1).trans HBP.out, hop,
   ⟨hb1.os, hb1.tape, hb1.output, hb1.size, fun k hk _ => hb1.block k hk⟩⟩
 have HST := hid hst
 clear hst hb1 hop hpb hwf hl1 hl2 hpl c0 d0
 go_wp2_with fail
 go_loopw [17] (fun kk wr => ∃ (k : Nat) (A : Option Addr) (c : Nat) (R : List Rv), k ≤ l.length ∧ kk = .int .i64 (k : Int) ∧ Hid (R.length = k) ∧ Hid (R.map Rv.core = (rs.take k).map Rv.core) ∧ Hid (AllR w base bp p A c R PA PC l wr)) (fun kk _ => l.length - (intOf kk).toNat)
 case atStart => exact ⟨0, none, 0, [], by omega, rfl, hid rfl, hid rfl, HST⟩
 case round =>
   obtain ⟨k, A, c, R, hk, rfl, HRL, HRC, HA⟩ := hrel
   by_cases hlt : k < l.length
   · obtain ⟨pb, po, hPA, hpbl, hpc⟩ := RdS.row (f := Pv.cells) (n := 2) (fun _ => rfl) (by omega) HA.out.pv.row.rd (by omega)
     subst hPA
     obtain ⟨q, hq⟩ : ∃ q, q = l[k] := ⟨_, rfl⟩
     have hqm : q ∈ l := by rw [hq]; exact List.getElem_mem hlt
     have s0 := hpc k hlt 0 _ rfl
     have s1 := hpc k hlt 1 _ rfl
     rw [← hq] at s0 s1
     have ho := HA.out.pv.own q hqm
     have hbd := HPB.out q hqm
     have hszw : base ≤ wr.heap.size := Nat.le_trans hs HA.out.gr.size
     have hba : ∀ o, Below wr.heap.size wr (wr.alloc o) := fun o => (Below.refl _ _).alloc (Nat.le_refl _) o
     have KR := hid (record_any q (wr.alloc (.cells #[.slice q.kA q.k.length q.kc, .slice q.vA q.v.length q.vc] 77)) base (Nat.le_trans hszw (hba _).size) (ho.1.hbs.below (hba _)) ho.1.cap ho.1.cap_le (ho.2.hbs.below (hba _)) ho.2.cap ho.2.cap_le (by omega) (by omega))
     have hrk : k < rs.length := by have := HL2.out; omega
     have hqr : Tb.inner rs[k] = q.pr := by
       have h1 : (rs.map Tb.inner)[k]? = (l.map Pv.pr)[k]? := by rw [HL1.out]
       rw [List.getElem?_map, List.getElem?_map, List.getElem?_eq_getElem hrk, List.getElem?_eq_getElem hlt, ← hq] at h1
       simpa using h1
     have HQR := hid hqr
     have HRT := hid (HR.out.rt rs[k] (List.getElem_mem hrk))
     have HTK : Hid (rs.take (k + 1) = rs.take k ++ [rs[k]]) := hid (List.take_succ_eq_append_getElem hrk)
     obtain ⟨rk, hrkk⟩ : ∃ rk, rk = rs[k] := ⟨_, rfl⟩
     rw [← hrkk] at HQR HRT HTK
     have HBD2 : Hid (q.k.length ≤ 70000 ∧ q.v.length ≤ 70000) := hid (by omega)
     obtain ⟨pkA, pkc, pk, pvA, pvc, pv⟩ := q
     simp only [Nat.add_zero] at s0 s1 KR HBD2
     clear hq hqm ho hbd hpc hba hqr hrkk hrk
     go_wp2_with fail
     refine KR.out.mono ?_
     rintro e w5 ⟨hb5', ⟨rfl, hno⟩ | ⟨rc, rfl, hrec, hk1, hk2, hv1, hv2, hkl1, hvl1⟩⟩
     · have := hno rk HRT.out HQR.out
       cases this
     · have hb5 : Below wr.heap.size wr w5 := ((Below.refl _ _).alloc (Nat.le_refl _) _).trans (hb5'.mono (by simp))
       have HA5 := hid (HA.out.call hb5)
       have HCO : Hid (rc.core = rk.core) := hid (by
         have h1 := hrec rk HRT.out HQR.out
         injection h1)
       have HRI : Hid ((HBs w5 base rc.kA rc.k ∧ rc.k.length ≤ rc.kc ∧ HBs w5 base rc.vA rc.v ∧ rc.v.length ≤ rc.vc) ∧ rc.k.length ≤ 70000 ∧ rc.v.length ≤ 70000) := hid ⟨⟨hk1, hk2, hv1, hv2⟩, Nat.le_trans hkl1 HBD2.out.1, Nat.le_trans hvl1 HBD2.out.2⟩
       obtain ⟨rr, hrr⟩ : ∃ rr : Rv, rr = rc := ⟨_, rfl⟩
       have HRR := hid hrr
       obtain ⟨kA, kc, kk, seq, del, vA, vc, vv⟩ := rc
       have hz5 : wr.heap.size ≤ w5.heap.size := hb5.size
       simp only at HRI
       clear hb5 hb5' hrec hk1 hk2 hv1 hv2 hkl1 hvl1 hrr s0 s1
       simp only [Rv.val]
       go_wp2_with fail
       obtain ⟨V, hV⟩ : ∃ V, (w5.alloc (.cells #[.slice kA kk.length kc, .int .i64 seq, .bool del, .slice vA vv.length vc] 35)).drew = V := ⟨_, rfl⟩
       have hbV : Below w5.heap.size w5 V := by rw [← hV]; exact ((Below.refl _ _).alloc (Nat.le_refl _) _).drew
       have HAV := hid (HA5.out.call hbV)
       have hrV : V.heap[w5.heap.size]? = some (.cells #[.slice kA kk.length kc, .int .i64 seq, .bool del, .slice vA vv.length vc] 35) := by rw [← hV]; exact heap_alloc_new w5 _
       have HRIV : Hid ((HBs V base kA kk ∧ kk.length ≤ kc ∧ HBs V base vA vv ∧ vv.length ≤ vc) ∧ kk.length ≤ 70000 ∧ vv.length ≤ 70000) := hid ⟨⟨HRI.out.1.1.below hbV, HRI.out.1.2.1, HRI.out.1.2.2.1.below hbV, HRI.out.1.2.2.2⟩, HRI.out.2⟩
       have HS0 : V.cell? ⟨bp, 0, none⟩ = some (.pointer (some ⟨p.g, 0, none⟩)) ∧ V.cell? ⟨p.g, 5, none⟩ = some (.slice A R.length c) ∧ V.cell? ⟨w5.heap.size, 0, none⟩ = some (.slice kA kk.length kc) ∧ V.cell? ⟨w5.heap.size, 1, none⟩ = some (.int .i64 seq) ∧ V.cell? ⟨w5.heap.size, 2, none⟩ = some (.bool del) ∧ V.cell? ⟨w5.heap.size, 3, none⟩ = some (.slice vA vv.length vc) := by
         refine ⟨?_, ?_, ?_, ?_, ?_, ?_⟩
         · rw [cell_of_row V bp 0 _ _ (0, 0) HAV.out.ptr]; rfl
         · rw [cell_of_row V p.g 5 _ _ (0, 0) HAV.out.box]; rfl
         · rw [cell_of_row V w5.heap.size 0 _ _ (0, 0) hrV]; rfl
         · rw [cell_of_row V w5.heap.size 1 _ _ (0, 0) hrV]; rfl
         · rw [cell_of_row V w5.heap.size 2 _ _ (0, 0) hrV]; rfl
         · rw [cell_of_row V w5.heap.size 3 _ _ (0, 0) hrV]; rfl
       have hrVl := (Array.getElem?_eq_some_iff.1 hrV).1
       have hbpl := (Array.getElem?_eq_some_iff.1 HAV.out.ptr).1
       have hpgl := (Array.getElem?_eq_some_iff.1 HAV.out.box).1
       have HRV := hid hrV
       have HSB : Hid (∀ Y', Below V.heap.size V Y' → Y'.cell? ⟨bp, 0, none⟩ = some (.pointer (some ⟨p.g, 0, none⟩)) ∧ Y'.cell? ⟨p.g, 5, none⟩ = some (.slice A R.length c) ∧ Y'.cell? ⟨w5.heap.size, 0, none⟩ = some (.slice kA kk.length kc) ∧ Y'.cell? ⟨w5.heap.size, 1, none⟩ = some (.int .i64 seq) ∧ Y'.cell? ⟨w5.heap.size, 2, none⟩ = some (.bool del) ∧ Y'.cell? ⟨w5.heap.size, 3, none⟩ = some (.slice vA vv.length vc)) := hid (fun Y' hb => ⟨(hb.cell (p := ⟨bp, 0, none⟩) hbpl).trans HS0.1, (hb.cell (p := ⟨p.g, 5, none⟩) hpgl).trans HS0.2.1, (hb.cell (p := ⟨w5.heap.size, 0, none⟩) hrVl).trans HS0.2.2.1, (hb.cell (p := ⟨w5.heap.size, 1, none⟩) hrVl).trans HS0.2.2.2.1, (hb.cell (p := ⟨w5.heap.size, 2, none⟩) hrVl).trans HS0.2.2.2.2.1, (hb.cell (p := ⟨w5.heap.size, 3, none⟩) hrVl).trans HS0.2.2.2.2.2⟩)
       clear hbV hrV
       refine wp_region_E 10 (fun w' => w'.cell? ⟨bp, 0, none⟩ = some (.pointer (some ⟨p.g, 0, none⟩)) ∧ w'.cell? ⟨p.g, 5, none⟩ = some (.slice A R.length c) ∧ w'.cell? ⟨w5.heap.size, 0, none⟩ = some (.slice kA kk.length kc) ∧ w'.cell? ⟨w5.heap.size, 1, none⟩ = some (.int .i64 seq) ∧ w'.cell? ⟨w5.heap.size, 2, none⟩ = some (.bool del) ∧ w'.cell? ⟨w5.heap.size, 3, none⟩ = some (.slice vA vv.length vc)) (by kernel_rfl) ?_
       rw [hV]
       clear hV
       refine wpAnyE_take (i := 0) (v := ?_) rfl (by kernel_rfl) (by kernel_rfl) (by kernel_rfl) (by kernel_rfl) (fun _ _ _ h => h) (Or.inl ⟨by rfl, ?_⟩) HS0 ?_
       rotate_left
       · (intro wy hSw; obtain ⟨s1, s2x, s3, s4, s5, s6⟩ := hSw; go_simp; try with_reducible rfl)
       try simp only [Act.put, List.setIfInBounds_toArray]
       refine wpAnyE_take (i := 1) (v := ?_) rfl (by kernel_rfl) (by kernel_rfl) (by kernel_rfl) (by kernel_rfl) (fun _ _ _ h => h) (Or.inl ⟨by rfl, ?_⟩) HS0 ?_
       rotate_left
       · (intro wy hSw; obtain ⟨s1, s2x, s3, s4, s5, s6⟩ := hSw; go_simp; try with_reducible rfl)
       try simp only [Act.put]
       refine wpAnyE_take (i := 2) (v := ?_) rfl (by kernel_rfl) (by kernel_rfl) (by kernel_rfl) (by kernel_rfl) (fun _ _ _ h => h) (Or.inl ⟨by rfl, ?_⟩) HS0 ?_
       rotate_left
       · (intro wy hSw; obtain ⟨s1, s2x, s3, s4, s5, s6⟩ := hSw; go_simp; try with_reducible rfl)
       try simp only [Act.put]
       refine wpAnyE_take (i := 3) (v := ?_) rfl (by kernel_rfl) (by kernel_rfl) (by kernel_rfl) (by kernel_rfl) (fun _ _ _ h => h) (Or.inl ⟨by rfl, ?_⟩) HS0 ?_
       rotate_left
       · (intro wy hSw; obtain ⟨s1, s2x, s3, s4, s5, s6⟩ := hSw; go_simp; try with_reducible rfl)
       try simp only [Act.put]
       refine wpAnyE_take (i := 4) (v := ?_) rfl (by kernel_rfl) (by kernel_rfl) (by kernel_rfl) (by kernel_rfl) (fun _ _ _ h => h) (Or.inl ⟨by rfl, ?_⟩) HS0 ?_
       rotate_left
       · (intro wy hSw; obtain ⟨s1, s2x, s3, s4, s5, s6⟩ := hSw; go_simp; try with_reducible rfl)
       try simp only [Act.put]
       refine wpAnyE_take (i := 5) (v := ?_) rfl (by kernel_rfl) (by kernel_rfl) (by kernel_rfl) (by kernel_rfl) (fun _ _ _ h => h) (Or.inl ⟨by rfl, ?_⟩) HS0 ?_
       rotate_left
       · (intro wy hSw; obtain ⟨s1, s2x, s3, s4, s5, s6⟩ := hSw; go_simp; try with_reducible rfl)
       try simp only [Act.put]
       refine wpAnyE_one (i := 6) (by kernel_rfl) rfl (fun K hK => ?_)
       go_simp
       have hb6 : ∀ o2, Below V.heap.size V (V.alloc o2) := fun o2 => (Below.refl _ _).alloc (Nat.le_refl _) o2
       refine hK _ _ (HSB.out _ (hb6 _)) ?_
       have H6 := hid (HAV.out.call (hb6 (.cells #[.slice kA kk.length kc, .int .i64 seq, .bool del, .slice vA vv.length vc] 35)))
       have hRl : R.length ≤ 65536 := by have := HRL.out; omega
       have hwV : w.heap.size ≤ V.heap.size := HAV.out.gr.size
       refine wpAnyE_one (i := 7) (by kernel_rfl) rfl (fun K hK => ?_)
       refine step_append_sd _ (by rfl) (some 33) (by rfl) (.tmp 30) (.tmp 32) recT (by rfl) w.heap.size A c R rfl H6.out.row (V.heap.size + 1) (some ⟨V.heap.size, 0, none⟩) 1 1 [⟨kA, kc, kk, seq, del, vA, vc, vv⟩] rfl rfl (rd_rec_new V ⟨kA, kc, kk, seq, del, vA, vc, vv⟩) (by simp; omega) (by unfold maxLen; simp; omega) (by simp; omega) ?_
       intro A6 c6 LL w6 hL ho6 hg6 hat6
       rw [hL] at ho6 ⊢
       have HM6 := hid (H6.out.mid hg6)
       have hnr : ∀ g, blk A = some g → g ≠ w5.heap.size := fun g e => by
         have h1 := (HA5.out.row.blk_ge g e).2
         omega
       have HRV6 : Hid (w6.heap[w5.heap.size]? = some (.cells #[.slice kA kk.length kc, .int .i64 seq, .bool del, .slice vA vv.length vc] 35)) := hid (by
         have h1 := ((hb6 (.cells #[.slice kA kk.length kc, .int .i64 seq, .bool del, .slice vA vv.length vc] 35)).block _ hrVl).trans HRV.out
         exact (hg6.block _ (Nat.lt_of_lt_of_le hrVl (hb6 _).size) (fun e => hnr _ e.symm rfl)).trans h1)
       have hS6 : w6.cell? ⟨bp, 0, none⟩ = some (.pointer (some ⟨p.g, 0, none⟩)) ∧ w6.cell? ⟨p.g, 5, none⟩ = some (.slice A R.length c) ∧ w6.cell? ⟨w5.heap.size, 0, none⟩ = some (.slice kA kk.length kc) ∧ w6.cell? ⟨w5.heap.size, 1, none⟩ = some (.int .i64 seq) ∧ w6.cell? ⟨w5.heap.size, 2, none⟩ = some (.bool del) ∧ w6.cell? ⟨w5.heap.size, 3, none⟩ = some (.slice vA vv.length vc) := by
         refine ⟨?_, ?_, ?_, ?_, ?_, ?_⟩
         · rw [cell_of_row w6 bp 0 _ _ (0, 0) HM6.out.2]; rfl
         · rw [cell_of_row w6 p.g 5 _ _ (0, 0) HM6.out.1]; rfl
         · rw [cell_of_row w6 w5.heap.size 0 _ _ (0, 0) HRV6.out]; rfl
         · rw [cell_of_row w6 w5.heap.size 1 _ _ (0, 0) HRV6.out]; rfl
         · rw [cell_of_row w6 w5.heap.size 2 _ _ (0, 0) HRV6.out]; rfl
         · rw [cell_of_row w6 w5.heap.size 3 _ _ (0, 0) HRV6.out]; rfl
       have fz6 : w6.frozen? ⟨p.g, 5, none⟩ = false := frozen_of_row w6 p.g 5 _ _ HM6.out.1
       have HFIN := hid (H6.out.app (r := ⟨kA, kc, kk, seq, del, vA, vc, vv⟩) hs HP.out.ge ⟨⟨HRIV.out.1.1.below (hb6 _), HRIV.out.1.2.1, HRIV.out.1.2.2.1.below (hb6 _), HRIV.out.1.2.2.2⟩, HRIV.out.2⟩ ho6 hg6)
       refine hK _ _ hS6 ?_
       try simp only [Act.put]
       refine wpAnyE_one (i := 8) (by kernel_rfl) rfl (fun K hK => ?_)
       go_simp
       refine hK _ _ hS6 ?_
       try simp only [Act.put]
       refine wpAnyE_one (i := 9) (by kernel_rfl) rfl (fun K hK => ?_)
       go_simp
       refine hK _ _ hS6 ?_
       try simp only [Act.put]
       obtain ⟨g1, g2, g3, g4, g5, g6⟩ := hS6
       refine wpAnyE_last (by kernel_rfl) (by kernel_rfl) rfl (fun K hK => ?_)
       go_simp
       refine hK _ _ ?_
       rw [← HRR.out] at HFIN
       have HL7 : Hid ((R ++ [rr]).length = k + 1) := hid (by rw [List.length_append, HRL.out]; rfl)
       have HC7 : Hid ((R ++ [rr]).map Rv.core = (rs.take (k + 1)).map Rv.core) := hid (by
         rw [HTK.out, List.map_append, List.map_append, HRC.out]
         congr 1
         rw [HRR.out]
         simp only [List.map_cons, List.map_nil]
         rw [HCO.out])
       have hLn : (R ++ [rr]).length = R.length + 1 := by simp
       rw [hLn] at HFIN
       obtain ⟨W7, hW7⟩ : ∃ W7, w6.setCell ⟨p.g, 5, none⟩ (.slice A6 (R.length + 1) c6) = W7 := ⟨_, rfl⟩
       rw [hW7] at HFIN ⊢
       clear hW7 hLn g1 g2 g3 g4 g5 g6 fz6 hL ho6 hg6 hat6 hnr hb6 HS0
       go_wp2_with fail
       go_roundw
       case rel => exact ⟨k + 1, A6, c6, R ++ [rr], hlt, by simp, HL7, HC7, HFIN⟩
       case measure =>
         show l.length - ((k : Int) + 1).toNat < l.length - ((k : Int)).toNat
         omega
   · have hke : k = l.length := by omega
     have HRC2 : Hid (R.map Rv.core = rs.map Rv.core) := hid (by
       have h1 := HRC.out
       rw [List.take_of_length_le (by have := HL2.out; omega)] at h1
       exact h1)
     go_wp2_with fail
     go_end0
     exact ⟨rfl, HA.out.gr, A, c, R, HA.out.box, ⟨HA.out.row.mono hs, HA.out.inn⟩, HRC2.out, fun g hg => (HA.out.row.blk_ge g hg).1⟩
theorem heap_set63 {w : World} {gt : Nat} {x0 x1 x2 x3 x4 x5 v : Value} {T : TypeId} (h : w.heap[gt]? = some (.cells #[x0, x1, x2, x3, x4, x5] T)) : (w.setCell ⟨gt, 3, none⟩ v).heap[gt]? = some (.cells #[x0, x1, x2, v, x4, x5] T) := by
 have := heap_setCell_same w gt 3 _ T v h
 simpa using this
theorem heap_set62 {w : World} {gt : Nat} {x0 x1 x2 x3 x4 x5 v : Value} {T : TypeId} (h : w.heap[gt]? = some (.cells #[x0, x1, x2, x3, x4, x5] T)) : (w.setCell ⟨gt, 2, none⟩ v).heap[gt]? = some (.cells #[x0, x1, v, x3, x4, x5] T) := by
 have := heap_setCell_same w gt 2 _ T v h
 simpa using this
theorem RecsAt.keepg {w w' : World} {base g : Nat} {A : Option Addr} {c : Nat} {l : List Rv} (h : RecsAt w base A c l) (hg : w.grownBy w' (some g)) {cs : Array Value} (ht : w.heap[g]? = some (.cells cs 91)) (hge : base ≤ g) : RecsAt w' base A c l := by
 have hnb : NoB w (some g) := fun g' e => by
   injection e with e; subst e
   exact ⟨cs, _, _, ht, by decide⟩
 refine ⟨h.row.kept_ne (T := 91) hg (fun g' e => by injection e with e; subst e; exact ⟨cs, _, ht⟩) (by decide), fun r hr => ?_⟩
 obtain ⟨⟨h1, h2, h3, h4⟩, h5⟩ := h.inn r hr
 exact ⟨⟨h1.grown hg hnb (fun g' e => by injection e with e; omega), h2, h3.grown hg hnb (fun g' e => by injection e with e; omega), h4⟩, h5⟩
def AllQ (base : Nat) (F : Nat → Prop) (t : Ti) (rs : List Rv) (w : World) (e : Ending) (w' : World) : Prop := TbAt base F t w' ∧ Qry base t w w' ∧ ∃ (A : Option Addr) (c : Nat) (l : List Rv), e = .returned (.slice A l.length c) ∧ RecsAt w' base A c l ∧ l.map Rv.core = rs.map Rv.core ∧ ∀ g, blk A = some g → ¬ F g
set_option maxHeartbeats 4000000 in
set_option maxRecDepth 100000 in
theorem all_any (base : Nat) (F : Nat → Prop) (t : Ti) (x : Pq × List Rv) (hx : x ∈ t.ps) (w : World) (h : TbAt base F t w) (hr : PqR x.1 x.2) :
   Calls Tryz.prog 33 #[.pointer (some ⟨x.1.g, 0, none⟩)] w (AllQ base F t x.2 w) := by
 have hp := h.parts x hx
 have HT := hid h
 have HX := hid hx
 have hmf : ∀ (fn : Fn) (first cap : Array Value) (w : World), (Instr.makeFunc fn first cap).run Tryz.prog w = .ok (.func fn first cap) w := fun _ _ _ _ => rfl
 rcases hp.st with hb | ⟨A, c, l, hb, hrec, hco, hfr⟩
 · have hlt := (Array.getElem?_eq_some_iff.1 hb).1
   obtain ⟨W, hW⟩ : ∃ W, W = w.alloc (.cells #[.pointer (some ⟨x.1.g, 0, none⟩)] 79) := ⟨_, rfl⟩
   have hbW : Below w.heap.size w W := by rw [hW]; exact (Below.refl _ _).alloc (Nat.le_refl _) _
   have hWb : W.heap[x.1.g]? = some (x.1.obj 0 0 (.slice none 0 0)) := (hbW.block _ hlt).trans hb
   have hWp : W.heap[w.heap.size]? = some (.cells #[.pointer (some ⟨x.1.g, 0, none⟩)] 79) := by rw [hW]; exact heap_alloc_new w _
   have hne : w.heap.size ≠ x.1.g := by omega
   obtain ⟨W1, hW1⟩ : ∃ W1, W1 = W.setCell ⟨x.1.g, 3, none⟩ (.int .i32 1) := ⟨_, rfl⟩
   have hW1b : W1.heap[x.1.g]? = some (x.1.obj 0 1 (.slice none 0 0)) := by rw [hW1]; exact heap_set63 hWb
   have hW1p : W1.heap[w.heap.size]? = some (.cells #[.pointer (some ⟨x.1.g, 0, none⟩)] 79) := by rw [hW1]; exact (heap_setD _ hne).trans hWp
   have hW1s : base ≤ W1.heap.size := by rw [hW1]; simp; have := HT.out.size; have := hbW.size; omega
   have hW1m : PqB W1 base x.1 := by rw [hW1]; exact (hp.mem.call hbW).set_tag hWb (by decide) hp.mem.ge
   have hgW1 : w.grownBy W1 (some x.1.g) := by
     rw [hW1]
     exact grownBy_new ⟨hbW.os, hbW.tape, hbW.output, hbW.size, fun k hk _ => hbW.block k hk⟩ (grownBy_set W _ _) (fun g e => .inr e)
   have KA := all1_any base w.heap.size x.1 x.2 W1 hW1p hW1m hW1b hr hW1s
   rw [hW1] at KA
   have KF := hid (onc_first x.1.g 2 #[.pointer (some ⟨w.heap.size, 0, none⟩)] (fun w' => (W.setCell ⟨x.1.g, 3, none⟩ (.int .i32 1)).grownBy w' (some x.1.g) ∧ ∃ (A : Option Addr) (c : Nat) (l : List Rv), w'.heap[x.1.g]? = some (x.1.obj 0 1 (.slice A l.length c)) ∧ RecsAt w' base A c l ∧ l.map Rv.core = x.2.map Rv.core ∧ ∀ g, blk A = some g → (W.setCell ⟨x.1.g, 3, none⟩ (.int .i32 1)).heap.size ≤ g) W
     (by rw [cell_of_row W x.1.g 2 _ _ (0, 0) hWb]; rfl) (by rw [cell_of_row W x.1.g 3 _ _ (0, 0) hWb]; rfl) (frozen_of_row W x.1.g 3 _ _ hWb) KA
     (fun w' hq => by
       obtain ⟨_, A, c, l, hq1, _⟩ := hq
       exact ⟨by rw [cell_of_row w' x.1.g 2 _ _ (0, 0) hq1]; rfl, frozen_of_row w' x.1.g 2 _ _ hq1, by rw [cell_of_row w' x.1.g 3 _ _ (0, 0) hq1]; rfl, frozen_of_row w' x.1.g 3 _ _ hq1⟩))
   rw [hW] at KF
   have HG1 := hid hgW1
   have HW1 := hid hW1
   have HW := hid hW
   have HPG := hp.mem.ge
   have HW1P := hid hW1p
   obtain ⟨p, rs⟩ := x
   simp only at KF HT HX hne hlt HG1 HW1 HPG
   clear hb hbW hWb hWp hW1b hW1p hW1s hW1m hgW1 KA hW hW1 hp h hx hr
   go_enter Tryz.func33, Tryz.ntmps33
   go_wp2_with fail
   refine KF.out.mono ?_
   rintro e w' ⟨rfl, w1, ⟨hg, A, c, l, hq1, hrec, hco, hfr⟩, rfl⟩
   rw [← HW.out, ← HW1.out] at hg hfr
   have hrecD : RecsAt w1.drew base A c l := ⟨hrec.row, fun r hr => by
     obtain ⟨⟨h1, h2, h3, h4⟩, h5⟩ := hrec.inn r hr
     exact ⟨⟨h1.drew, h2, h3.drew, h4⟩, h5⟩⟩
   have hq1D : w1.drew.heap[p.g]? = some (p.obj 0 1 (.slice A l.length c)) := hq1
   have hb2 : (w1.drew.setCell ⟨p.g, 2, none⟩ (.int .u32 1)).heap[p.g]? = some (p.obj 1 1 (.slice A l.length c)) := heap_set62 hq1D
   have hb3 : ((w1.drew.setCell ⟨p.g, 2, none⟩ (.int .u32 1)).setCell ⟨p.g, 3, none⟩ (.int .i32 0)).heap[p.g]? = some (p.obj 1 0 (.slice A l.length c)) := heap_set63 hb2
   have hw1p : w1.heap[w.heap.size]? = some (.cells #[.pointer (some ⟨p.g, 0, none⟩)] 79) := (hg.block _ (Array.getElem?_eq_some_iff.1 HW1P.out).1 (fun e => hne (by injection e))).trans HW1P.out
   have hp3 : ((w1.drew.setCell ⟨p.g, 2, none⟩ (.int .u32 1)).setCell ⟨p.g, 3, none⟩ (.int .i32 0)).heap[w.heap.size]? = some (.cells #[.pointer (some ⟨p.g, 0, none⟩)] 79) := by
     rw [heap_setD _ hne, heap_setD _ hne]; exact hw1p
   have hg3 : w.grownBy ((w1.drew.setCell ⟨p.g, 2, none⟩ (.int .u32 1)).setCell ⟨p.g, 3, none⟩ (.int .i32 0)) (some p.g) :=
     grownBy_new (grownBy_new (grownBy_below (grownBy_new HG1.out hg (fun g e => .inr e)) ((Below.refl _ _).drew)) (grownBy_set w1.drew ⟨p.g, 2, none⟩ (.int .u32 1)) (fun g e => .inr e)) (grownBy_set _ ⟨p.g, 3, none⟩ (.int .i32 0)) (fun g e => .inr e)
   have hr3 : RecsAt ((w1.drew.setCell ⟨p.g, 2, none⟩ (.int .u32 1)).setCell ⟨p.g, 3, none⟩ (.int .i32 0)) base A c l := (hrecD.keepg (grownBy_set w1.drew ⟨p.g, 2, none⟩ (.int .u32 1)) hq1D HPG).keepg (grownBy_set _ ⟨p.g, 3, none⟩ (.int .i32 0)) hb2 HPG
   obtain ⟨FW, hFW⟩ : ∃ FW, (w1.drew.setCell ⟨p.g, 2, none⟩ (.int .u32 1)).setCell ⟨p.g, 3, none⟩ (.int .i32 0) = FW := ⟨_, rfl⟩
   rw [hFW] at hb3 hp3 hg3 hr3 ⊢
   have c0 : FW.cell? ⟨w.heap.size, 0, none⟩ = some (.pointer (some ⟨p.g, 0, none⟩)) := by rw [cell_of_row FW w.heap.size 0 _ _ (0, 0) hp3]; rfl
   have c1 : FW.cell? ⟨p.g, 5, none⟩ = some (.slice A l.length c) := by rw [cell_of_row FW p.g 5 _ _ (0, 0) hb3]; rfl
   have HFR : Hid (∀ g, blk A = some g → ¬ F g) := hid (fun g hgb hF => (by have h1 := hfr g hgb; have h2 := HT.out.frn g hF; have h3 := HG1.out.size; omega))
   have HFIN := hid (HT.out.asked (x := (p, rs)) HX.out hg3 ⟨A, c, l, hb3, hr3, hco, HFR.out⟩)
   have HR3 := hid hr3
   have HCO := hid hco
   obtain ⟨n, hn⟩ : ∃ n, n = l.length := ⟨_, rfl⟩
   rw [← hn] at c1
   have HN := hid hn
   clear hFW hb3 hp3 hg3 hr3 hw1p hb2 hq1D hrecD hq1 hrec hco hfr hg hn
   go_wp2_with fail
   go_ret
   exact ⟨HFIN.out.1, HFIN.out.2, A, c, l, by rw [HN.out]; rfl, HR3.out, HCO.out, HFR.out⟩
 · have hlt := (Array.getElem?_eq_some_iff.1 hb).1
   have hba : ∀ o, Below w.heap.size w (w.alloc o) := fun o => (Below.refl _ _).alloc (Nat.le_refl _) o
   have HFIN : Hid (∀ o, TbAt base F t (w.alloc o) ∧ Qry base t w (w.alloc o) ∧ RecsAt (w.alloc o) base A c l) := hid (fun o => by
     have hq : Qry base t w (w.alloc o) := Qry.of (hba o) h.size
     exact ⟨h.call (hba o), hq, hq.recs (Nat.le_refl _) hrec⟩)
   have HCO := hid hco
   have HFR := hid hfr
   have hbW : ∀ o, (w.alloc o).heap[x.1.g]? = some (x.1.obj 1 0 (.slice A l.length c)) := fun o => ((hba o).block _ hlt).trans hb
   have KD := hid (onc_done ⟨x.1.g, 2, none⟩ 1 (by decide) (.func (.func 73) #[] #[.pointer (some ⟨w.heap.size, 0, none⟩)]) (w.alloc (.cells #[.pointer (some ⟨x.1.g, 0, none⟩)] 79)) (by rw [cell_of_row _ x.1.g 2 _ _ (0, 0) (hbW _)]; rfl))
   have c1 : (w.alloc (.cells #[.pointer (some ⟨x.1.g, 0, none⟩)] 79)).cell? ⟨x.1.g, 5, none⟩ = some (.slice A l.length c) := by rw [cell_of_row _ x.1.g 5 _ _ (0, 0) (hbW _)]; rfl
   obtain ⟨p, rs⟩ := x
   simp only at KD c1 HCO
   obtain ⟨n, hn⟩ : ∃ n, n = l.length := ⟨_, rfl⟩
   rw [← hn] at c1
   have HN := hid hn
   clear hb hbW hp h hx hr hrec hco hfr hba hn
   go_enter Tryz.func33, Tryz.ntmps33
   go_wp2_with fail
   refine KD.out.mono ?_
   rintro e w' ⟨rfl, rfl⟩
   go_wp2_with fail
   go_ret
   exact ⟨(HFIN.out _).1, (HFIN.out _).2.1, A, c, l, by rw [HN.out]; rfl, (HFIN.out _).2.2, HCO.out, HFR.out⟩
def CpdQ (w : World) (r : Rv) (e : Ending) (w' : World) : Prop := Below w.heap.size w w' ∧ ∃ r' : Rv, e = .returned r'.val ∧ r'.core = r.core ∧ Own w' w.heap.size 5 r'.kA r'.kc r'.k ∧ Own w' w.heap.size 5 r'.vA r'.vc r'.v
set_option maxHeartbeats 2000000 in
set_option maxRecDepth 100000 in
theorem copied_any (r : Rv) (w : World) (hk : RdB w w.heap.size r.kA r.k) (hv : RdB w w.heap.size r.vA r.v) (hkl : r.k.length ≤ 1000000) (hvl : r.v.length ≤ 1000000) :
   Calls Tryz.prog 53 #[r.val] w (CpdQ w r) := by
 obtain ⟨kA, kc, k, seq, del, vA, vc, v⟩ := r
 simp only at hk hv hkl hvl
 have HKR : Hid (∀ X, Below w.heap.size w X → Calls Tryz.prog 34 #[.slice kA k.length kc] X (GivesB X k)) := hid (fun X hX => cloneU_any kA kc k X ((hk.below hX (Nat.le_refl _)).more hX.size) (by omega))
 have HVR : Hid (∀ X, Below w.heap.size w X → Calls Tryz.prog 34 #[.slice vA v.length vc] X (GivesB X v)) := hid (fun X hX => cloneU_any vA vc v X ((hv.below hX (Nat.le_refl _)).more hX.size) (by omega))
 clear hk hv
 simp only [Rv.val]
 go_enter Tryz.func53, Tryz.ntmps53
 go_wp2_with fail
 obtain ⟨V, hV⟩ : ∃ V, ((w.alloc (.cells #[.slice kA k.length kc, .int .i64 seq, .bool del, .slice vA v.length vc] 35)).alloc (.cells #[.slice none 0 0, .int .i64 0, .bool false, .slice none 0 0] 35)).drew = V := ⟨_, rfl⟩
 have hbV : Below w.heap.size w V := by rw [← hV]; exact (below_al2 w _ _).drew
 have hz : V.heap.size = w.heap.size + 2 := by rw [← hV]; simp
 have hx0 : V.heap[w.heap.size]? = some (.cells #[.slice kA k.length kc, .int .i64 seq, .bool del, .slice vA v.length vc] 35) := by
   rw [← hV]
   exact (((Below.refl _ _).alloc (Nat.le_refl _) _).block _ (by simp)).trans (heap_alloc_new w _)
 have hx1 : V.heap[w.heap.size + 1]? = some (.cells #[.slice none 0 0, .int .i64 0, .bool false, .slice none 0 0] 35) := by
   rw [← hV]
   have h1 := heap_alloc_new (w.alloc (.cells #[.slice kA k.length kc, .int .i64 seq, .bool del, .slice vA v.length vc] 35)) (.cells #[.slice none 0 0, .int .i64 0, .bool false, .slice none 0 0] 35)
   rw [show (w.alloc (.cells #[.slice kA k.length kc, .int .i64 seq, .bool del, .slice vA v.length vc] 35)).heap.size = w.heap.size + 1 by simp] at h1
   exact h1
 have HSV : V.cell? ⟨w.heap.size, 3, none⟩ = some (.slice vA v.length vc) := by rw [cell_of_row V w.heap.size 3 _ _ (0, 0) hx0]; rfl
 have c0 : V.cell? ⟨w.heap.size, 0, none⟩ = some (.slice kA k.length kc) := by rw [cell_of_row V w.heap.size 0 _ _ (0, 0) hx0]; rfl
 have HBV := hid hbV
 have HX0 := hid hx0
 have HX1 := hid hx1
 have HZ := hid hz
 clear hbV hx0 hx1 hz
 refine wp_region_E 9 (fun w' => w'.cell? ⟨w.heap.size, 3, none⟩ = some (.slice vA v.length vc)) (by kernel_rfl) ?_
 rw [hV]
 clear hV
 refine wpAnyE_take (i := 0) (v := ?_) rfl (by kernel_rfl) (by kernel_rfl) (by kernel_rfl) (by kernel_rfl) (fun _ _ _ h => h) (Or.inl ⟨by rfl, ?_⟩) HSV ?_
 rotate_left
 · (intro wy hSw; go_simp; try with_reducible rfl)
 try simp only [Act.put, List.setIfInBounds_toArray]
 refine wpAnyE_take (i := 3) (v := ?_) rfl (by kernel_rfl) (by kernel_rfl) (by kernel_rfl) (by kernel_rfl) (fun _ _ _ h => h) (Or.inl ⟨by rfl, ?_⟩) HSV ?_
 rotate_left
 · (intro wy hSw; go_simp; try with_reducible rfl)
 try simp only [Act.put]
 refine wpAnyE_take (i := 4) (v := ?_) rfl (by kernel_rfl) (by kernel_rfl) (by kernel_rfl) (by kernel_rfl) (fun _ _ _ h => h) (Or.inl ⟨by rfl, ?_⟩) HSV ?_
 rotate_left
 · (intro wy hSw; go_simp; try with_reducible rfl)
 try simp only [Act.put]
 refine wpAnyE_one (i := 1) (by kernel_rfl) rfl (fun K hK => ?_)
 go_simp
 refine hK _ _ HSV ?_
 try simp only [Act.put, List.setIfInBounds_toArray]
 refine wpAnyE_one (i := 2) (by kernel_rfl) rfl (fun K hK => ?_)
 refine step_call1_d (by rfl) (some 5) (by rfl) (.tmp 4) (by rfl) (.slice kA k.length kc) rfl (enters_of Tryz.func34 (by kernel_rfl) rfl) _ (HKR.out V HBV.out) ?_
 rintro e w1 ⟨A1, c1, rfl, ho1, hb1⟩
 refine ⟨_, rfl, ?_⟩
 have hS1 : w1.cell? ⟨w.heap.size, 3, none⟩ = some (.slice vA v.length vc) := (hb1.cell (p := ⟨w.heap.size, 3, none⟩) (by have := HZ.out; simp; omega)).trans HSV
 refine hK _ _ hS1 ?_
 try simp only [Act.put, List.setIfInBounds_toArray]
 refine wpAnyE_take (i := 6) (v := ?_) rfl (by kernel_rfl) (by kernel_rfl) (by kernel_rfl) (by kernel_rfl) (fun _ _ _ h => h) (Or.inl ⟨by rfl, ?_⟩) hS1 ?_
 rotate_left
 · (intro wy hSw; go_simp; try with_reducible rfl)
 try simp only [Act.put, List.setIfInBounds_toArray]
 refine wpAnyE_one (i := 5) (by kernel_rfl) rfl (fun K hK => ?_)
 refine step_call1_d (by rfl) (some 8) (by rfl) (.tmp 7) (by rfl) (.slice vA v.length vc) rfl (enters_of Tryz.func34 (by kernel_rfl) rfl) _ (HVR.out w1 (HBV.out.trans (hb1.mono HBV.out.size))) ?_
 rintro e w2 ⟨A2, c2, rfl, ho2, hb2⟩
 refine ⟨_, rfl, ?_⟩
 have hS2 : w2.cell? ⟨w.heap.size, 3, none⟩ = some (.slice vA v.length vc) := (hb2.cell (p := ⟨w.heap.size, 3, none⟩) (by have := HZ.out; have := hb1.size; simp; omega)).trans hS1
 refine hK _ _ hS2 ?_
 try simp only [Act.put]
 have hz1 := hb1.size
 have hz2 := hb2.size
 have hzV := HZ.out
 have HX02 : Hid (w2.heap[w.heap.size]? = some (.cells #[.slice kA k.length kc, .int .i64 seq, .bool del, .slice vA v.length vc] 35)) := hid ((hb2.block _ (by omega)).trans ((hb1.block _ (by omega)).trans HX0.out))
 have HX12 : Hid (w2.heap[w.heap.size + 1]? = some (.cells #[.slice none 0 0, .int .i64 0, .bool false, .slice none 0 0] 35)) := hid ((hb2.block _ (by omega)).trans ((hb1.block _ (by omega)).trans HX1.out))
 have HO1 : Hid (Own w2 w.heap.size 5 A1 c1 k) := hid ((ho1.below hb2).mono (by omega))
 have HO2 : Hid (Own w2 w.heap.size 5 A2 c2 v) := hid (ho2.mono (by omega))
 have HB2 : Hid (Below w.heap.size w w2) := hid ((HBV.out.trans (hb1.mono HBV.out.size)).trans (hb2.mono (by omega)))
 clear ho1 ho2 hb1 hb2 HSV c0 hzV
 have f0 := frozen_of_row w2 w.heap.size 0 _ _ HX02.out
 have d0 : w2.cell? ⟨w.heap.size, 0, none⟩ = some (.slice kA k.length kc) := by rw [cell_of_row w2 w.heap.size 0 _ _ (0, 0) HX02.out]; rfl
 refine wpAnyE_one (i := 7) (by kernel_rfl) rfl (fun K hK => ?_)
 go_simp
 have hx3 : (w2.setCell ⟨w.heap.size, 0, none⟩ (.slice A1 k.length c1)).heap[w.heap.size]? = some (.cells #[.slice A1 k.length c1, .int .i64 seq, .bool del, .slice vA v.length vc] 35) := by
   have := heap_setCell_same w2 w.heap.size 0 _ _ (.slice A1 k.length c1) HX02.out
   simpa using this
 have hS3 : (w2.setCell ⟨w.heap.size, 0, none⟩ (.slice A1 k.length c1)).cell? ⟨w.heap.size, 3, none⟩ = some (.slice vA v.length vc) := by rw [cell_of_row _ w.heap.size 3 _ _ (0, 0) hx3]; rfl
 refine hK _ _ hS3 ?_
 try simp only [Act.put, List.setIfInBounds_toArray]
 refine wpAnyE_one (i := 8) (by kernel_rfl) rfl (fun K hK => ?_)
 go_simp
 refine hK _ _ hS3 ?_
 try simp only [Act.put, List.setIfInBounds_toArray]
 have f3 := frozen_of_row _ w.heap.size 3 _ _ hx3
 refine wpAnyE_last (by kernel_rfl) (by kernel_rfl) rfl (fun K hK => ?_)
 go_simp
 refine hK _ _ ?_
 have hx4 : ((w2.setCell ⟨w.heap.size, 0, none⟩ (.slice A1 k.length c1)).setCell ⟨w.heap.size, 3, none⟩ (.slice A2 v.length c2)).heap[w.heap.size]? = some (.cells #[.slice A1 k.length c1, .int .i64 seq, .bool del, .slice A2 v.length c2] 35) := by
   have := heap_setCell_same _ w.heap.size 3 _ _ (.slice A2 v.length c2) hx3
   simpa using this
 have hx5 : ((w2.setCell ⟨w.heap.size, 0, none⟩ (.slice A1 k.length c1)).setCell ⟨w.heap.size, 3, none⟩ (.slice A2 v.length c2)).heap[w.heap.size + 1]? = some (.cells #[.slice none 0 0, .int .i64 0, .bool false, .slice none 0 0] 35) := by
   rw [heap_setD _ (by simp), heap_setD _ (by simp)]; exact HX12.out
 have HB4 : Hid (Below w.heap.size w ((w2.setCell ⟨w.heap.size, 0, none⟩ (.slice A1 k.length c1)).setCell ⟨w.heap.size, 3, none⟩ (.slice A2 v.length c2))) := hid ((HB2.out.setCell (Nat.le_refl _) _).setCell (Nat.le_refl _) _)
 have hnb : ∀ {A : Option Addr} {c : Nat} {l : List UInt8}, Own w2 w.heap.size 5 A c l → Own ((w2.setCell ⟨w.heap.size, 0, none⟩ (.slice A1 k.length c1)).setCell ⟨w.heap.size, 3, none⟩ (.slice A2 v.length c2)) w.heap.size 5 A c l := fun {A c l} ho => by
   have hne : blk A ≠ some w.heap.size := fun e => by
     obtain ⟨_, cs, fr, h1⟩ := own_tag ho e
     exact tag_ne2 h1 HX02.out (by decide) rfl
   exact (ho.cellput ⟨w.heap.size, 0, none⟩ _ hne).cellput ⟨w.heap.size, 3, none⟩ _ hne
 have HO1' := hid (hnb HO1.out)
 have HO2' := hid (hnb HO2.out)
 obtain ⟨W4, hW4⟩ : ∃ W4, (w2.setCell ⟨w.heap.size, 0, none⟩ (.slice A1 k.length c1)).setCell ⟨w.heap.size, 3, none⟩ (.slice A2 v.length c2) = W4 := ⟨_, rfl⟩
 rw [hW4] at hx4 hx5 HB4 HO1' HO2' ⊢
 have g0 := cell_of_row W4 w.heap.size 0 _ _ (0, 0) hx4
 have g1 := cell_of_row W4 w.heap.size 1 _ _ (0, 0) hx4
 have g2 := cell_of_row W4 w.heap.size 2 _ _ (0, 0) hx4
 have g3 := cell_of_row W4 w.heap.size 3 _ _ (0, 0) hx4
 have i0 := cell_of_row W4 (w.heap.size + 1) 0 _ _ (0, 0) hx5
 have i1 := cell_of_row W4 (w.heap.size + 1) 1 _ _ (0, 0) hx5
 have i2 := cell_of_row W4 (w.heap.size + 1) 2 _ _ (0, 0) hx5
 have i3 := cell_of_row W4 (w.heap.size + 1) 3 _ _ (0, 0) hx5
 have j0 := frozen_of_row W4 (w.heap.size + 1) 0 _ _ hx5
 have j1 := frozen_of_row W4 (w.heap.size + 1) 1 _ _ hx5
 have j2 := frozen_of_row W4 (w.heap.size + 1) 2 _ _ hx5
 have j3 := frozen_of_row W4 (w.heap.size + 1) 3 _ _ hx5
 simp only [List.getElem?_toArray, List.getElem?_cons_zero, List.getElem?_cons_succ] at g0 g1 g2 g3 i0 i1 i2 i3
 have HX5 := hid hx5
 clear hW4 hx3 hx4 hS3 hS2 hS1 f0 f3 d0 hnb hx5
 go_wp2_with fail
 obtain ⟨W5, hW5, hx6, HB5, HO15, HO25⟩ : ∃ W5, (((W4.setCell ⟨w.heap.size + 1, 0, none⟩ (.slice A1 k.length c1)).setCell ⟨w.heap.size + 1, 1, none⟩ (.int .i64 seq)).setCell ⟨w.heap.size + 1, 2, none⟩ (.bool del)).setCell ⟨w.heap.size + 1, 3, none⟩ (.slice A2 v.length c2) = W5 ∧
     W5.heap[w.heap.size + 1]? = some (.cells #[.slice A1 k.length c1, .int .i64 seq, .bool del, .slice A2 v.length c2] 35) ∧ Hid (Below w.heap.size w W5) ∧ Hid (Own W5 w.heap.size 5 A1 c1 k) ∧ Hid (Own W5 w.heap.size 5 A2 c2 v) := by
   have hnb : ∀ {A : Option Addr} {c : Nat} {l : List UInt8}, Own W4 w.heap.size 5 A c l → blk A ≠ some (w.heap.size + 1) := fun {A c l} ho e => by
     obtain ⟨_, cs, fr, h1⟩ := own_tag ho e
     exact tag_ne2 h1 HX5.out (by decide) rfl
   refine ⟨_, rfl, heap_set4 HX5.out, hid ((((HB4.out.setCell (by simp) _).setCell (by simp) _).setCell (by simp) _).setCell (by simp) _), hid ?_, hid ?_⟩
   · have h1 := hnb HO1'.out
     exact (((HO1'.out.cellput ⟨w.heap.size + 1, 0, none⟩ _ h1).cellput ⟨w.heap.size + 1, 1, none⟩ _ h1).cellput ⟨w.heap.size + 1, 2, none⟩ _ h1).cellput ⟨w.heap.size + 1, 3, none⟩ _ h1
   · have h1 := hnb HO2'.out
     exact (((HO2'.out.cellput ⟨w.heap.size + 1, 0, none⟩ _ h1).cellput ⟨w.heap.size + 1, 1, none⟩ _ h1).cellput ⟨w.heap.size + 1, 2, none⟩ _ h1).cellput ⟨w.heap.size + 1, 3, none⟩ _ h1
 rw [hW5]
 have e0 := cell_of_row W5 (w.heap.size + 1) 0 _ _ (0, 0) hx6
 have e1 := cell_of_row W5 (w.heap.size + 1) 1 _ _ (0, 0) hx6
 have e2 := cell_of_row W5 (w.heap.size + 1) 2 _ _ (0, 0) hx6
 have e3 := cell_of_row W5 (w.heap.size + 1) 3 _ _ (0, 0) hx6
 simp only [List.getElem?_toArray, List.getElem?_cons_zero, List.getElem?_cons_succ] at e0 e1 e2 e3
 exact bodyPost_ret (v := .agg #[.slice A1 k.length c1, .int .i64 seq, .bool del, .slice A2 v.length c2]) (by simp [results, Tryz.results53, go_sem, e0, e1, e2, e3]) rfl
   ⟨HB5.out, ⟨A1, c1, k, seq, del, A2, c2, v⟩, rfl, rfl, HO15.out, HO25.out⟩
theorem bytesEq_any (A B : Option Addr) (ca cb : Nat) (a b : List UInt8) (w : World) (ha : RdB w w.heap.size A a) (hb : RdB w w.heap.size B b) :
   Calls Tryz.prog 27 #[.slice A a.length ca, .slice B b.length cb] w fun e w' => e = .returned (.bool (a == b)) ∧ w = w' := by
 have s1 := strB_of (c := ca) ha
 have s2 := strB_of (c := cb) hb
 unfold StrB at s1 s2
 obtain ⟨SA, hSA⟩ : ∃ SA : ByteArray, SA = ⟨a.toArray⟩ := ⟨_, rfl⟩
 obtain ⟨SB, hSB⟩ : ∃ SB : ByteArray, SB = ⟨b.toArray⟩ := ⟨_, rfl⟩
 rw [← hSA] at s1
 rw [← hSB] at s2
 by_cases hab : a = b
 · have hss : SB = SA := by rw [hSA, hSB, hab]
   have HE : Hid ((a == b) = true) := hid (by simpa using hab)
   subst hss
   clear hSA hSB hab ha hb
   go_enter Tryz.func27, Tryz.ntmps27
   go_wp2_with fail
   go_ret
   rw [HE.out]
   exact ⟨by simp, rfl⟩
 · have hne := str_ne hSA.symm hSB.symm hab
   have HE : Hid ((a == b) = false) := hid (by simpa using hab)
   clear hSA hSB hab ha hb
   go_enter Tryz.func27, Tryz.ntmps27
   go_wp2_with fail
   go_ret
   rw [HE.out]
   exact ⟨by simp, rfl⟩
def zeroRec : Value := .agg #[.slice none 0 0, .int .i64 0, .bool false, .slice none 0 0]
namespace Tb
theorem fromL_len (L : List Rv) (key : List UInt8) : (fromL L key).length ≤ L.length := List.length_filter_le _ _
end Tb
end Go.Proofs.YtgafionfojnieaaGreatDoor
