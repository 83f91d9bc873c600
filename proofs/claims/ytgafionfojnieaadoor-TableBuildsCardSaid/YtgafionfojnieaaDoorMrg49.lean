/- Parts of the proof, one behind the other: Memory while a table's bytes are read; what the reference's Open gives.; Memory of a table while it is opened.; bytes.Equal.; Plain: what the statements ask of a table's bytes.; The contract of the reference's Open. -/
import Derived.Test.YtgafionfojnieaaDoorMrg45
import Derived.Test.YtgafionfojnieaaDoorMrg46
import Derived.Test.YtgafionfojnieaaDoorMrg47
import Derived.Test.YtgafionfojnieaaDoorMrg48
import Derived.Test.YtgafionfojnieaaDoorMrg43
import Derived.Test.YtgafionfojnieaaDoorMrg42
namespace Go.Proofs.YtgafionfojnieaaDoor
open Go.RowKit

theorem recT : RT Tryd.prog 22 37 Rv.cells 4 64 (.agg #[.slice none 0 0, .int .i64 0, .bool false, .slice none 0 0]) :=
  ⟨Tryd.underlying22, by kernel_rfl, fun _ => rfl, fun _ u hu => by simp [Rv.cells] at hu; rcases hu with h | h | h | h <;> (subst h; rfl), by omega, rfl⟩
/-- Records read so far, in memory. -/
structure OpR (w1 : World) (base : Nat) (A : Option Addr) (c : Nat) (R : List Rv) (wr : World) : Prop where
  row : OwnS Rv.cells 4 wr base 37 A c R
  inn : ∀ r ∈ R, (HBs wr base r.kA r.k ∧ r.k.length ≤ r.kc ∧ HBs wr base r.vA r.v ∧ r.v.length ≤ r.vc) ∧ r.k.length ≤ 70000 ∧ r.v.length ≤ 70000
  below : Below base w1 wr
  size : base ≤ wr.heap.size
section
variable {w1 wr w2 : World} {base c c' : Nat} {A A' : Option Addr} {R : List Rv} {r : Rv}
theorem OpR.start (w1 : World) : OpR w1 w1.heap.size none 0 [] w1 := ⟨OwnS.nil _ _ _, (fun _ hr => by cases hr), Below.refl _ _, Nat.le_refl _⟩
theorem OpR.call (h : OpR w1 base A c R wr) (hb : Below wr.heap.size wr w2) : OpR w1 base A c R w2 :=
  ⟨h.row.below hb, fun r hr => by
    obtain ⟨⟨h1, h2, h3, h4⟩, h5⟩ := h.inn r hr
    exact ⟨⟨h1.below hb, h2, h3.below hb, h4⟩, h5⟩, h.below.trans (hb.mono h.size), Nat.le_trans h.size hb.size⟩
theorem OpR.nob (h : OpR w1 base A c R wr) : NoB wr (blk A) := h.row.nob (by decide)
theorem OpR.ge (h : OpR w1 base A c R wr) : ∀ g, blk A = some g → base ≤ g := fun _ hg => (ownS_tag h.row hg).1
theorem OpR.app (h : OpR w1 base A c R wr) (hr : (HBs wr base r.kA r.k ∧ r.k.length ≤ r.kc ∧ HBs wr base r.vA r.v ∧ r.v.length ≤ r.vc) ∧ r.k.length ≤ 70000 ∧ r.v.length ≤ 70000)
    (ho : OwnS Rv.cells 4 w2 base 37 A' c' (R ++ [r])) (hg : wr.grownBy w2 (blk A)) : OpR w1 base A' c' (R ++ [r]) w2 := by
  have key : ∀ q : Rv, ((HBs wr base q.kA q.k ∧ q.k.length ≤ q.kc ∧ HBs wr base q.vA q.v ∧ q.v.length ≤ q.vc) ∧ q.k.length ≤ 70000 ∧ q.v.length ≤ 70000) → ((HBs w2 base q.kA q.k ∧ q.k.length ≤ q.kc ∧ HBs w2 base q.vA q.v ∧ q.v.length ≤ q.vc) ∧ q.k.length ≤ 70000 ∧ q.v.length ≤ 70000) := fun q hq => by
    obtain ⟨⟨h1, h2, h3, h4⟩, h5⟩ := hq
    exact ⟨⟨h1.grown hg h.nob h.ge, h2, h3.grown hg h.nob h.ge, h4⟩, h5⟩
  refine ⟨ho, fun q hq => ?_, h.below.grown hg h.size h.ge, Nat.le_trans h.size hg.size⟩
  simp only [List.mem_append, List.mem_singleton] at hq
  rcases hq with hq | hq
  · exact key q (h.inn q hq)
  · rw [hq]; exact key r hr
theorem OpR.rd (h : OpR w1 base A c R wr) : RdRv wr wr.heap.size A R := ⟨h.row.rd, fun r hr => by
  obtain ⟨⟨h1, h2, h3, h4⟩, _⟩ := h.inn r hr
  exact ⟨h1.rd, h3.rd, h2, h4⟩⟩
/-- A block's pairs stay, while records are put behind. -/
theorem OwnPv.kept_rec {l : List Pv} {PA : Option Addr} {pc pb : Nat} (h : OwnPv wr pb PA pc l) (hR : OwnS Rv.cells 4 wr base 37 A c R) (hg : wr.grownBy w2 (blk A)) : OwnPv w2 pb PA pc l := by
  refine ⟨h.row.kept_ne (T := 37) hg (fun _ hgg => (ownS_tag hR hgg).2) (by decide), fun p hp => ?_⟩
  have hnb : NoB wr (blk A) := hR.nob (by decide)
  exact ⟨(h.own p hp).1.kept_tag hg hnb, (h.own p hp).2.kept_tag hg hnb⟩
theorem Own.hbs {l : List UInt8} (h : Own wr base 5 A c l) {b0 : Nat} : HBs wr b0 A l := ⟨h.rd, fun _ _ hg => .inr (own_tag h hg).2⟩
end
theorem rd_rec_new (w : World) (r : Rv) : RdS Rv.cells 4 (w.alloc (.cells #[.slice r.kA r.k.length r.kc, .int .i64 r.seq, .bool r.del, .slice r.vA r.v.length r.vc] 37)) (w.heap.size + 1) (some ⟨w.heap.size, 0, none⟩) [r] := by
  refine RdS.of (f := Rv.cells) (n := 4) (l := [r]) (fun _ => rfl) _ 0 (by omega) (fun k hk j u hj => ?_)
  obtain rfl : k = 0 := by simp at hk; exact hk
  have hj' : r.cells[j]? = some u := hj
  rw [cell_of_row _ w.heap.size _ _ _ (0, 0) (heap_alloc_new w _)]
  simpa [Rv.cells] using hj'
theorem rd_rec_new2 (w : World) (o : Obj) (r : Rv) : RdS Rv.cells 4 ((w.alloc o).alloc (.cells #[.slice r.kA r.k.length r.kc, .int .i64 r.seq, .bool r.del, .slice r.vA r.v.length r.vc] 37)) (w.heap.size + 2) (some ⟨w.heap.size + 1, 0, none⟩) [r] := by
  have := rd_rec_new (w.alloc o) r
  simpa using this
/-- What the reference's Open gives. -/
def OpenP (w : World) (b : List UInt8) (e : Ending) (w' : World) : Prop := Below w.heap.size w w' ∧
  ((e = .returned (.tuple #[.slice none 0 0, .int .i64 3]) ∧ ∀ l s t, ¬ Tb.Is b l s t) ∨
   (∃ (R : List Rv) (A : Option Addr) (c : Nat) (s t : Int), e = .returned (.tuple #[.slice A R.length c, .int .i64 0]) ∧ RdRv w' w'.heap.size A R ∧ Tb.Is b R s t ∧ ∀ l s t, Tb.Is b l s t → l.map Rv.core = R.map Rv.core))
theorem openP_no {w w' : World} {b : List UInt8} (hb : Below w.heap.size w w') (h : ∀ l s t, ¬ Tb.Is b l s t) : OpenP w b (.returned (.tuple #[.slice none 0 0, .int .i64 3])) w' := ⟨hb, .inl ⟨rfl, h⟩⟩
namespace Tb
/-- Bytes behind the frames, or too few frames. -/
theorem scan_no {b r : List UInt8} {L : List (UInt8 × List UInt8)} (hs : Frm.Scans b L r) (hn : Frm.take r = none) (h : r ≠ [] ∨ L.length < 4) (l : List Rv) (s t : Int) : ¬ Is b l s t := fun hi => by
  obtain ⟨e, gs, hf⟩ := hi.scanned hs hn
  have := hf.len
  rcases h with h | h
  · exact h e
  · omega
theorem NR.start {b r : List UInt8} {L : List (UInt8 × List UInt8)} (hs : Frm.Scans b L r) (hn : Frm.take r = none) {p : UInt8 × List UInt8} (hp : L[L.length - 1]? = some p) : NR b [] p.2 := fun l s t hi => by
  obtain ⟨_, gs, hf⟩ := hi.scanned hs hn
  exact ⟨five l s t, rfl, hf.foot hp⟩
theorem TR.fewP {b : List UInt8} {L : List (UInt8 × List UInt8)} {i : Nat} {R : List Rv} {P : List Pr} (h : TR b L i 0 R) (hb : BR b L i P) {r : List UInt8} (hs : Frm.Scans b L r) (hn : Frm.take r = none) {l : List Rv} {s t : Int} (hi : Is b l s t) : R.length + P.length ≤ 20000 := by
  obtain ⟨_, gs, hf⟩ := hi.scanned hs hn
  obtain ⟨h1, _⟩ := h l s t gs hi hf
  obtain ⟨hx, e⟩ := List.getElem?_eq_some_iff.1 (hb l s t gs hi hf)
  have h3 := hi.unf.l2
  have h4 := congrArg List.length hf.flat
  rw [List.length_map] at h4
  have e2 : gs = gs.take i ++ gs[i] :: gs.drop (i + 1) := by rw [List.getElem_cons_drop, List.take_append_drop]
  have h5 := congrArg (fun x => x.flatten.length) e2
  simp only [List.flatten_append, List.flatten_cons, List.length_append] at h5
  rw [e] at h5
  omega
/-- The last check. -/
theorem last_no {b : List UInt8} {L : List (UInt8 × List UInt8)} {R : List Rv} (h : TR b L (L.length - 3) 0 R) {r : List UInt8} (hs : Frm.Scans b L r) (hn : Frm.take r = none) {s0 t0 : Int} (hst : ∀ l s t, Is b l s t → s = s0 ∧ t = t0) (hno : build R s0 t0 ≠ (0, b)) (l : List Rv) (s t : Int) : ¬ Is b l s t := fun hi => by
  have e := h.all hs hn hi
  obtain ⟨rfl, rfl⟩ := hst l s t hi
  exact hno ((build_core e _ _).symm.trans hi)
end Tb
end Go.Proofs.YtgafionfojnieaaDoor

namespace Go.Proofs.YtgafionfojnieaaDoor
open Go.RowKit

def Ptc (g : Nat) : List Value := [.pointer (some ⟨g, 0, none⟩)]
theorem ptrT : RT Tryd.prog 75 83 Ptc 1 8 (.pointer none) :=
  ⟨Tryd.underlying75, by kernel_rfl, fun _ => rfl, fun _ u hu => by simp [Ptc] at hu; subst hu; rfl, by omega, rfl⟩
theorem rd_ptr_new (w : World) (g : Nat) : RdS Ptc 1 (w.alloc (.cells #[.pointer (some ⟨g, 0, none⟩)] 83)) (w.heap.size + 1) (some ⟨w.heap.size, 0, none⟩) [g] := by
  refine RdS.of (f := Ptc) (n := 1) (l := [g]) (fun _ => rfl) _ 0 (by omega) (fun k hk j u hj => ?_)
  obtain rfl : k = 0 := by simp at hk; exact hk
  have hj' : (Ptc g)[j]? = some u := hj
  rw [cell_of_row _ w.heap.size _ _ _ (0, 0) (heap_alloc_new w _)]
  simpa [Ptc] using hj'
theorem rd_ptr_new2 (w : World) (o : Obj) (g : Nat) : RdS Ptc 1 ((w.alloc o).alloc (.cells #[.pointer (some ⟨g, 0, none⟩)] 83)) (w.heap.size + 2) (some ⟨w.heap.size + 1, 0, none⟩) [g] := by
  have := rd_ptr_new (w.alloc o) g
  simpa using this
def tbObj (PA : Option Addr) (pn PC : Nat) (F m2 m3 m4 : Value) : Obj := .cells #[.slice PA pn PC, F, m2, m3, m4, .int .i64 0] 82
/-- Records read so far, the table's block, the row of its parts. -/
structure OpT (Y : World) (base gt : Nat) (F m2 m3 m4 : Value) (RA : Option Addr) (RC : Nat) (R : List Rv) (PA : Option Addr) (PC : Nat) (ps : List Nat) (wr : World) : Prop where
  recs : OpR Y base RA RC R wr
  box : wr.heap[gt]? = some (tbObj PA ps.length PC F m2 m3 m4)
  row : OwnS Ptc 1 wr base 83 PA PC ps
  ge : base ≤ gt
section
variable {Y wr w2 : World} {base gt RC RC' PC PC' : Nat} {F m2 m3 m4 : Value} {RA RA' PA PA' : Option Addr} {R : List Rv} {r : Rv} {ps : List Nat} {g : Nat}
theorem OpT.call (h : OpT Y base gt F m2 m3 m4 RA RC R PA PC ps wr) (hb : Below wr.heap.size wr w2) : OpT Y base gt F m2 m3 m4 RA RC R PA PC ps w2 :=
  ⟨h.recs.call hb, (hb.block _ (Array.getElem?_eq_some_iff.1 h.box).1).trans h.box, h.row.below hb, h.ge⟩
theorem OpT.app_rec (h : OpT Y base gt F m2 m3 m4 RA RC R PA PC ps wr) (hr : (HBs wr base r.kA r.k ∧ r.k.length ≤ r.kc ∧ HBs wr base r.vA r.v ∧ r.v.length ≤ r.vc) ∧ r.k.length ≤ 70000 ∧ r.v.length ≤ 70000)
    (ho : OwnS Rv.cells 4 w2 base 37 RA' RC' (R ++ [r])) (hg : wr.grownBy w2 (blk RA)) : OpT Y base gt F m2 m3 m4 RA' RC' (R ++ [r]) PA PC ps w2 := by
  refine ⟨h.recs.app hr ho hg, ?_, h.row.kept_ne (T := 37) hg (fun _ hgg => (ownS_tag h.recs.row hgg).2) (by decide), h.ge⟩
  refine (hg.block gt (Array.getElem?_eq_some_iff.1 h.box).1 (fun e => ?_)).trans h.box
  obtain ⟨_, cs, fr, h1⟩ := ownS_tag h.recs.row e.symm
  exact tag_ne2 h.box h1 (by decide) rfl
theorem OpR.kept_ptr (h : OpR Y base RA RC R wr) (hp : OwnS Ptc 1 wr base 83 PA PC ps) (hg : wr.grownBy w2 (blk PA)) : OpR Y base RA RC R w2 := by
  have hnb : NoB wr (blk PA) := hp.nob (by decide)
  have hge : ∀ g, blk PA = some g → base ≤ g := fun _ hgg => (ownS_tag hp hgg).1
  refine ⟨h.row.kept_ne (T := 83) hg (fun _ hgg => (ownS_tag hp hgg).2) (by decide), fun q hq => ?_, h.below.grown hg h.size hge, Nat.le_trans h.size hg.size⟩
  obtain ⟨⟨h1, h2, h3, h4⟩, h5⟩ := h.inn q hq
  exact ⟨⟨h1.grown hg hnb hge, h2, h3.grown hg hnb hge, h4⟩, h5⟩
theorem ownS_set {α : Type} {f : α → List Value} {n c : Nat} {e T : TypeId} {A : Option Addr} {l : List α} {cs : Array Value} {fr : Nat × Nat} {u : Value} {o : Nat} (h : OwnS f n wr base e A c l) (hb : wr.heap[gt]? = some (.cells cs T fr)) (hT : e ≠ T) : OwnS f n (wr.setCell ⟨gt, o, none⟩ u) base e A c l := h.keep (fun k hk => by
  obtain ⟨_, cs', fr', h1⟩ := ownS_tag h hk
  exact heap_setD _ (tag_ne2 h1 hb hT))
theorem OpR.set_tab (h : OpR Y base RA RC R wr) {cs : Array Value} {fr : Nat × Nat} (hb : wr.heap[gt]? = some (.cells cs 82 fr)) (hge : base ≤ gt) {u : Value} {o : Nat} : OpR Y base RA RC R (wr.setCell ⟨gt, o, none⟩ u) := by
  refine ⟨ownS_set h.row hb (by decide), fun q hq => ?_, h.below.setCell hge _, by simpa using h.size⟩
  obtain ⟨⟨h1, h2, h3, h4⟩, h5⟩ := h.inn q hq
  exact ⟨⟨h1.set_tag hb (by decide) hge, h2, h3.set_tag hb (by decide) hge, h4⟩, h5⟩
theorem heap_set6 {w : World} {x0 x1 x2 x3 x4 x5 v : Value} {T : TypeId} (h : w.heap[gt]? = some (.cells #[x0, x1, x2, x3, x4, x5] T)) : (w.setCell ⟨gt, 0, none⟩ v).heap[gt]? = some (.cells #[v, x1, x2, x3, x4, x5] T) := by
  have := heap_setCell_same w gt 0 _ T v h
  simpa using this
/-- A part put behind, and the table told of it. -/
theorem OpT.app_part (h : OpT Y base gt F m2 m3 m4 RA RC R PA PC ps wr) (ho : OwnS Ptc 1 w2 base 83 PA' PC' (ps ++ [g])) (hg : wr.grownBy w2 (blk PA)) : OpT Y base gt F m2 m3 m4 RA RC R PA' PC' (ps ++ [g]) (w2.setCell ⟨gt, 0, none⟩ (.slice PA' (ps ++ [g]).length PC')) := by
  have hbox : w2.heap[gt]? = some (tbObj PA ps.length PC F m2 m3 m4) := by
    refine (hg.block gt (Array.getElem?_eq_some_iff.1 h.box).1 (fun e => ?_)).trans h.box
    obtain ⟨_, cs, fr, h1⟩ := ownS_tag h.row e.symm
    exact tag_ne2 h.box h1 (by decide) rfl
  exact ⟨(h.recs.kept_ptr h.row hg).set_tab hbox h.ge, heap_set6 hbox, ownS_set ho hbox (by decide), h.ge⟩
end
end Go.Proofs.YtgafionfojnieaaDoor

namespace Go.Proofs.YtgafionfojnieaaDoor
open Go.RowKit

theorem bytesEq_any (A B : Option Addr) (ca cb : Nat) (a b : List UInt8) (w : World) (ha : RdB w w.heap.size A a) (hb : RdB w w.heap.size B b) :
    Calls Tryd.prog 37 #[.slice A a.length ca, .slice B b.length cb] w fun e w' => e = .returned (.bool (a == b)) ∧ w = w' := by
  have s1 := strB_of (c := ca) ha
  have s2 := strB_of (c := cb) hb
  unfold StrB at s1 s2
  obtain ⟨SA, hSA⟩ : ∃ SA : ByteArray, SA = ⟨a.toArray⟩ := ⟨_, rfl⟩
  obtain ⟨SB, hSB⟩ : ∃ SB : ByteArray, SB = ⟨b.toArray⟩ := ⟨_, rfl⟩
  rw [← hSA] at s1
  rw [← hSB] at s2
  by_cases hab : a = b
  · have hss : SB = SA := by rw [hSA, hSB, hab]
    have HE : Hid ((a == b) = true) := Lib.hid (by simpa using hab)
    subst hss
    clear hSA hSB hab ha hb
    go_enter Tryd.func37, Tryd.ntmps37
    go_wp2_with fail
    go_ret
    rw [HE.out]
    exact ⟨by simp, rfl⟩
  · have hne := str_ne hSA.symm hSB.symm hab
    have HE : Hid ((a == b) = false) := Lib.hid (by simpa using hab)
    clear hSA hSB hab ha hb
    go_enter Tryd.func37, Tryd.ntmps37
    go_wp2_with fail
    go_ret
    rw [HE.out]
    exact ⟨by simp, rfl⟩
end Go.Proofs.YtgafionfojnieaaDoor

namespace Go.Proofs.YtgafionfojnieaaDoor
open Go.RowKit

namespace Tb
theorem Is.first {b : List UInt8} {l : List Rv} {s t : Int} (h : Is b l s t) : b.head? = some 68 := by
  obtain ⟨gs, fs, hf⟩ := h.frames
  obtain ⟨f, ix, e⟩ := hf.form
  obtain ⟨g, gs', rfl⟩ := List.exists_cons_of_ne_nil hf.ne
  have hb := hf.scan.1
  rw [e] at hb
  rw [hb]; rfl
theorem Is.pos {b : List UInt8} {l : List Rv} {s t : Int} (h : Is b l s t) : 0 < b.length := by
  have := h.first
  cases b with
  | nil => cases this
  | cons a b => simp
theorem Is.long {b : List UInt8} {l : List Rv} {s t : Int} (h : Is b l s t) (hl : l.length ≤ 2000) : b.length ≤ 900000000 := by
  have u := h.unf
  have hb := run_bnd s l u.r u.l2 l.length (Nat.le_refl _)
  rw [List.take_length] at hb
  have h1 := (bnd_close hb (by omega)).1
  have h2 := hb.out
  rw [u.eq, List.length_append]
  unfold ends
  simp only [List.flatMap_cons, List.flatMap_nil, List.append_nil, List.length_append]
  have p1 := putL_len 70 (Blm.build t.toNat (l.map Rv.k))
  have p2 := putL_len 73 (blkB 16 (close (run s l)).index)
  have p3 := putL_len 90 (nums [s.toNat, t.toNat, l.length, (low l).toNat, (high l).toNat])
  omega
theorem build_err (l : List Rv) (s t : Int) : (build l s t).1 = 0 ∨ (build l s t).1 = 1 ∨ (build l s t).1 = 2 ∨ (build l s t).1 = 10 := by
  unfold build
  split
  · simp
  · split
    · simp
    · simp only
      split <;> simp
theorem is_of {l : List Rv} {s t : Int} (h : (build l s t).1 = 0) : Is (build l s t).2 l s t := by
  unfold Is
  rw [← h]
/-- A turned byte. -/
theorem turned_first {b : List UInt8} {x : UInt8} (hx : x ≠ 0) {l : List Rv} {s t : Int} (h : Is b l s t) {l' : List Rv} {s' t' : Int} {y : UInt8} (hy : b[0]? = some y) : ¬ Is (b.set 0 (y ^^^ x)) l' s' t' := fun h' => by
  have e1 := h.first
  have e2 := h'.first
  cases b with
  | nil => cases e1
  | cons a b =>
    simp only [List.head?_cons, Option.some.injEq, List.set_cons_zero, List.getElem?_cons_zero] at e1 e2 hy
    subst hy
    rw [e1] at e2
    apply hx
    have : (68 : UInt8) ^^^ (68 ^^^ x) = 68 ^^^ 68 := by rw [e2]
    rw [← UInt8.xor_assoc] at this
    simpa using this
def one : Rv := ⟨none, 0, [97], 2, false, none, 0, []⟩
theorem one_built : (build [one] 64 10).1 = 0 := by decide +kernel
end Tb
end Go.Proofs.YtgafionfojnieaaDoor

namespace Go.Proofs.YtgafionfojnieaaDoor
open Go.RowKit

set_option maxHeartbeats 8000000 in
set_option maxRecDepth 100000 in
theorem rtopen_any (A : Option Addr) (c : Nat) (b : List UInt8) (w : World) (h : RdB w w.heap.size A b) (hl : b.length ≤ 1000000000) (hc : b.length ≤ c) (hcc : c ≤ 9223372036854775807) :
    Calls Tryd.prog 9 #[.slice A b.length c] w (OpenP w b) := by
  have KS := Lib.hid (rscan_any A c b w h hl hc hcc)
  have HH := Lib.hid h
  clear h
  go_enter Tryd.func9, Tryd.ntmps9
  go_wp2_with fail
  refine KS.out.mono ?_
  rintro e w1 ⟨L, r, FA, FC, hsc, htn, rfl, hfr, hlc, hfc, hb1⟩
  have HSC := Lib.hid hsc
  have HTN := Lib.hid htn
  have HFR := Lib.hid hfr
  have HB1 := Lib.hid hb1
  have hlb := hsc.len
  rw [List.length_map] at hlb
  have HG0 : Hid (∀ w', Below w.heap.size w w' → (r ≠ [] ∨ L.length < 4) → OpenP w b (.returned (.tuple #[.slice none 0 0, .int .i64 3])) w') := Lib.hid (fun w' hb' hx => openP_no hb' (Tb.scan_no HSC.out HTN.out (by rw [List.length_map]; exact hx)))
  have HGN : Hid (∀ w', Below w1.heap.size w1 w' → (∀ l s t, ¬ Tb.Is b l s t) → OpenP w b (.returned (.tuple #[.slice none 0 0, .int .i64 3])) w') := Lib.hid (fun w' hb' hx => openP_no (HB1.out.trans (hb'.mono HB1.out.size)) hx)
  clear KS hsc htn hfr hb1
  by_cases hr : r = []
  case neg =>
    have h1 : 0 < r.length := List.length_pos_iff.2 hr
    have hne : ((b.length : Int) - (r.length : Int) != (b.length : Int)) = true := by simp; omega
    have hwr : IntKind.i64.wrap ((b.length : Int) - (r.length : Int)) = (b.length : Int) - (r.length : Int) := by rw [IntKind.wrap_i64]; omega
    have HR := Lib.hid hr
    clear hr
    go_wp2_with fail
    go_ret2
    exact HG0.out _ HB1.out (.inl HR.out)
  subst hr
  have hb0 : (b.length : Int) - (([] : List UInt8).length : Int) = (b.length : Int) := by simp
  rw [hb0]
  clear hb0
  by_cases h4 : (L.length : Int) < 4
  · have HR := Lib.hid h4
    go_wp2_with fail
    go_ret2
    exact HG0.out _ HB1.out (.inr (by have := HR.out; omega))
  have h4' : 4 ≤ L.length := by omega
  obtain ⟨n, hn⟩ : ∃ n, n = L.length - 3 := ⟨_, rfl⟩
  have hn3 : L.length = n + 3 := by omega
  obtain ⟨gF, oF, rfl, hgF, hrow⟩ := HFR.out.row2 (by omega)
  have HROW := Lib.hid hrow
  obtain ⟨f, hf⟩ : ∃ f, f = L[n + 2]'(by omega) := ⟨_, rfl⟩
  have hfm : f ∈ L := by rw [hf]; exact List.getElem_mem _
  have c1 := (hrow (n + 2) (by omega)).2
  rw [← hf] at c1
  have hok := HFR.out.ok f hfm
  have hft : f.b.length ≤ 65536 := HSC.out.fit f.pr (List.mem_map_of_mem hfm)
  have hNR : Tb.NR b [] f.b := Tb.NR.start HSC.out HTN.out (p := f.pr) (by
    rw [List.length_map, hn3, List.getElem?_map, List.getElem?_eq_getElem (by omega), ← (show f = L[n + 3 - 1]'(by omega) from hf)]; rfl)
  have HNR := Lib.hid hNR
  have KT := rtake_any f.A f.c f.b w1 hok.1 (by omega) hok.2.1 hok.2.2
  have HFB := Lib.hid hft
  have HN3 := Lib.hid hn3
  have ix : IntKind.i64.wrap (((n + 3 : Nat) : Int) - 1) = ((n + 2 : Nat) : Int) := by rw [IntKind.wrap_i64]; omega
  rw [hn3]
  rw [hn3] at hlc hlb
  obtain ⟨fk, fA, fc, fb⟩ := f
  simp only at c1 KT HNR HFB
  have h4n : ¬ (((n + 3 : Nat) : Int) < 4) := by omega
  have hn1 : 1 ≤ n := by omega
  clear hrow hf hfm hok hft hNR hn h4 h4' hn3
  cases ht : Cod.take fb with
  | none =>
    rw [ht] at KT
    have HK := Lib.hid KT
    have HNO := Lib.hid (HNR.out.no (by simp) ht)
    clear KT ht
    go_wp2_with fail
    refine HK.out.mono ?_
    rintro e w2 ⟨hb2, rfl⟩
    have KT2 : Hid (Calls Tryd.prog 30 #[.slice none 0 0] w2 (Taken w2 none)) := Lib.hid (rtake_any none 0 [] w2 RdB.nil (by simp) (by simp) (by simp))
    have HB2 := Lib.hid hb2
    clear hb2
    go_wp2_with fail
    refine KT2.out.mono ?_
    rintro e w3 ⟨hb3, rfl⟩
    have HB3 := Lib.hid (HB2.out.trans (hb3.mono HB2.out.size))
    clear hb3
    go_wp2_with fail
    go_ret2
    exact HGN.out _ HB3.out HNO.out
  | some v1 =>
    obtain ⟨n1, r1⟩ := v1
    rw [ht] at KT
    have HK := Lib.hid KT
    have HNR1 := Lib.hid (HNR.out.step (by simp) ht)
    have e1 := Cod.take_number ht
    have hr1 : r1.length ≤ fb.length := by rw [e1, List.length_append]; omega
    clear KT ht e1
    go_wp2_with fail
    refine HK.out.mono ?_
    rintro e w2 ⟨hb2, A1, d1, rfl, hd1, hdd1, hrd1⟩
    have HB2 := Lib.hid hb2
    have HRD1 := Lib.hid hrd1
    have KT := rtake_any A1 d1 r1 w2 hrd1 (by have := HFB.out; omega) hd1 hdd1
    clear hb2 hrd1
    cases ht : Cod.take r1 with
    | none =>
      rw [ht] at KT
      have HK := Lib.hid KT
      have HNO := Lib.hid (HNR1.out.no (by simp) ht)
      clear KT ht
      go_wp2_with fail
      refine HK.out.mono ?_
      rintro e w3 ⟨hb3, rfl⟩
      have HB3 := Lib.hid (HB2.out.trans (hb3.mono HB2.out.size))
      clear hb3
      go_wp2_with fail
      go_ret2
      exact HGN.out _ HB3.out HNO.out
    | some v2 =>
      obtain ⟨n2, r2⟩ := v2
      rw [ht] at KT
      have HK := Lib.hid KT
      have HNR2 := Lib.hid (HNR1.out.step (by simp) ht)
      have e1 := Cod.take_number ht
      have hr2 : r2.length ≤ fb.length := by
        have h1 := congrArg List.length e1
        rw [List.length_append] at h1; omega
      clear KT ht e1
      go_wp2_with fail
      refine HK.out.mono ?_
      rintro e w3 ⟨hb3, A2, d2, rfl, hd2, hdd2, hrd2⟩
      have HB3 := Lib.hid (HB2.out.trans (hb3.mono HB2.out.size))
      clear hb3 hrd2
      by_cases g1 : (32768 : Int) < (n1 : Int)
      · have HNO : Hid (∀ l s t, ¬ Tb.Is b l s t) := Lib.hid (fun l s t hi => by have := (HNR2.out.two hi).2.2.1; omega)
        go_wp2_with fail
        go_ret2
        exact HGN.out _ HB3.out HNO.out
      by_cases g2 : (32 : Int) < (n2 : Int)
      · have HNO : Hid (∀ l s t, ¬ Tb.Is b l s t) := Lib.hid (fun l s t hi => by have := (HNR2.out.two hi).2.2.2.1; omega)
        go_wp2_with fail
        go_ret2
        exact HGN.out _ HB3.out HNO.out
      by_cases g3 : (30 : Int) < (r2.length : Int)
      · have HNO : Hid (∀ l s t, ¬ Tb.Is b l s t) := Lib.hid (fun l s t hi => by have := (HNR2.out.two hi).2.2.2.2; omega)
        go_wp2_with fail
        go_ret2
        exact HGN.out _ HB3.out HNO.out
      have HNST : Hid (∀ l s t, Tb.Is b l s t → s = (n1 : Int) ∧ t = (n2 : Int)) := Lib.hid (fun l s t hi => ⟨(HNR2.out.two hi).1, (HNR2.out.two hi).2.1⟩)
      have hfr3 : RdFv w3 w3.heap.size (some ⟨gF, oF, none⟩) L := (HFR.out.below HB3.out (Nat.le_refl _)).more HB3.out.size
      have HFR3 := Lib.hid hfr3
      have hgF3 : gF < w3.heap.size := by have := HB3.out.size; omega
      have HROW3 : Hid (∀ k (hk : k < n) (hk2 : k < L.length), w3.cell? ⟨gF, oF + k * 2 + 1, none⟩ = some (.slice L[k].A L[k].b.length L[k].c)) := Lib.hid (fun k hk hk2 => (HB3.out.cell (p := ⟨gF, oF + k * 2 + 1, none⟩) hgF).trans (HROW.out k hk2).2)
      have ixn : IntKind.i64.wrap (((n + 3 : Nat) : Int) - 3) = (n : Int) := by rw [IntKind.wrap_i64]; omega
      have hw1 : IntKind.i64.wrap (n1 : Int) = (n1 : Int) := by rw [IntKind.wrap_i64]; omega
      have hw2 : IntKind.i64.wrap (n2 : Int) = (n2 : Int) := by rw [IntKind.wrap_i64]; omega
      have HW12 := Lib.hid (And.intro hw1 hw2)
      clear hfr3 hw1 hw2 HNR HNR1 HNR2 HFR HROW c1
      go_wp2_with fail
      go_loopw [12, 13] (fun al i wr => ∃ (k : Nat) (RA : Option Addr) (RC : Nat) (R : List Rv), k ≤ n ∧ i = .int .i64 (k : Int) ∧ al = .slice RA R.length RC ∧ R.length ≤ 20000 ∧ Hid (OpR w3 w3.heap.size RA RC R wr) ∧ Hid (Tb.TR b (L.map Fv.pr) k 0 R)) (fun _ i _ => n - (intOf i).toNat)
      case atStart => exact ⟨0, none, 0, [], by omega, rfl, rfl, by simp, Lib.hid (OpR.start w3), Lib.hid (Tb.TR.start _ _)⟩
      case round =>
        obtain ⟨k, RA, RC, R, hk, rfl, rfl, hR, HOP, HTR⟩ := hrel
        by_cases hlt : k < n
        · have hkL : k < L.length := by have := HN3.out; omega
          obtain ⟨f, hf⟩ : ∃ f, f = L[k] := ⟨_, rfl⟩
          have hfm : f ∈ L := by rw [hf]; exact List.getElem_mem _
          have c1 := HROW3.out k hlt hkL
          rw [← hf] at c1
          have r1 := (HOP.out.below.cell (p := ⟨gF, oF + k * 2 + 1, none⟩) hgF3).trans c1
          have hok := HFR3.out.ok f hfm
          have hft : f.b.length ≤ 65536 := HSC.out.fit f.pr (List.mem_map_of_mem hfm)
          have hLk : (L.map Fv.pr)[k]? = some f.pr := by rw [List.getElem?_map, List.getElem?_eq_getElem hkL, ← hf]; rfl
          have hkl : k < (L.map Fv.pr).length - 3 := by rw [List.length_map]; have := HN3.out; omega
          have KP := Lib.hid (rparse_any f.A f.c f.b wr ((hok.1.below HOP.out.below (Nat.le_refl _)).more HOP.out.size) hft hok.2.1 hok.2.2)
          have HLK := Lib.hid (And.intro hLk hkl)
          have HFT := Lib.hid hft
          obtain ⟨fk, fA, fc, fb⟩ := f
          simp only at r1 KP HLK HFT
          clear c1 hok hft hLk hfm hf
          go_wp2_with fail
          refine KP.out.mono ?_
          rintro e w4 ⟨hb4, ⟨x, hx, rfl, hno⟩ | ⟨P, PA, PC, rfl, hop, hpl, hpb, hwf⟩⟩
          · have HNO := Lib.hid (Tb.block_no HLK.out.1 HLK.out.2 hno HSC.out HTN.out)
            have HBD := Lib.hid (HB3.out.trans ((HOP.out.call hb4).below.mono HB3.out.size))
            have hx2 : (x == 0) = false := by simpa using hx
            have hx3 : (x != 0) = true := by simpa using hx
            clear hb4 hno hx
            go_wp2_with fail
            go_ret2
            exact HGN.out _ HBD.out HNO.out
          · have HBR := Lib.hid (Tb.BR.of (b := b) HLK.out.1 HLK.out.2 hwf)
            have HOP4 := Lib.hid (HOP.out.call hb4)
            have HPV := Lib.hid (hop.mono HOP.out.size)
            have HPB := Lib.hid hpb
            have hpl2 : P.length ≤ 65536 := Nat.le_trans hpl HFT.out
            clear hb4 hop hpl hpb hwf
            have hws : IntKind.i64.wrap ((R.length : Int) + (P.length : Int)) = (R.length : Int) + (P.length : Int) := by rw [IntKind.wrap_i64]; omega
            by_cases hmx : (20000 : Int) < (R.length : Int) + (P.length : Int)
            · have HNO : Hid (∀ l s t, ¬ Tb.Is b l s t) := Lib.hid (fun l s t hi => by
                have := HTR.out.fewP HBR.out HSC.out HTN.out hi
                rw [List.length_map] at this
                omega)
              have HBD := Lib.hid (HB3.out.trans (HOP4.out.below.mono HB3.out.size))
              go_wp2_with fail
              go_ret2
              exact HGN.out _ HBD.out HNO.out
            go_wp2_with fail
            go_loopw [12, 16] (fun al q wx => ∃ (j : Nat) (RA2 : Option Addr) (RC2 : Nat) (R2 : List Rv), j ≤ P.length ∧ q = .int .i64 (j : Int) ∧ al = .slice RA2 R2.length RC2 ∧ R2.length = R.length + j ∧ Hid (OpR w3 w3.heap.size RA2 RC2 R2 wx) ∧ Hid (OwnPv wx w3.heap.size PA PC P) ∧ Hid (Tb.TR b (L.map Fv.pr) k j R2)) (fun _ q _ => P.length - (intOf q).toNat)
            case atStart => exact ⟨0, RA, RC, R, by omega, rfl, rfl, rfl, HOP4, HPV, HTR⟩
            case round =>
              obtain ⟨j, RA2, RC2, R2, hj, rfl, rfl, hR2, HO, HP, HT⟩ := hrel
              by_cases hjl : j < P.length
              · obtain ⟨pb, po, hPA, hpbl, hpc⟩ := RdS.row (f := Pv.cells) (n := 2) (fun _ => rfl) (by omega) HP.out.row.rd (by omega)
                subst hPA
                obtain ⟨p, hp⟩ : ∃ p, p = P[j] := ⟨_, rfl⟩
                have hpm : p ∈ P := by rw [hp]; exact List.getElem_mem hjl
                have s0 := hpc j hjl 0 _ rfl
                have s1 := hpc j hjl 1 _ rfl
                rw [← hp] at s0 s1
                have ho := HP.out.own p hpm
                have hbd := HPB.out p hpm
                have KR := Lib.hid (rrecord_any p wr w3.heap.size HO.out.size ho.1.hbs ho.1.cap ho.1.cap_le ho.2.hbs ho.2.cap ho.2.cap_le (by have := HFT.out; omega) (by have := HFT.out; omega))
                have hPj : (P.map Pv.pr)[j]? = some p.pr := by rw [List.getElem?_map, List.getElem?_eq_getElem hjl, ← hp]; rfl
                have HPJ := Lib.hid hPj
                have HBD2 : Hid (p.k.length ≤ 70000 ∧ p.v.length ≤ 70000) := Lib.hid (by have := HFT.out; omega)
                obtain ⟨pkA, pkc, pk, pvA, pvc, pv⟩ := p
                simp only [Nat.add_zero] at s0 s1 KR HPJ HBD2
                clear hp hpm ho hbd hPj hpc
                go_wp2_with fail
                refine KR.out.mono ?_
                rintro e w5 ⟨hb5, ⟨rfl, hno⟩ | ⟨rc, rfl, hrec, hk1, hk2, hv1, hv2, hkl1, hvl1⟩⟩
                · have HNO := Lib.hid (HT.out.no HBR.out HPJ.out hno HSC.out HTN.out)
                  have HO5 := Lib.hid (HO.out.call hb5)
                  clear hb5 hno
                  go_wp2_with fail
                  go_ret2
                  exact HGN.out _ (HB3.out.trans ((HO5.out.call ((Below.refl _ _).alloc (Nat.le_refl _) _)).below.mono HB3.out.size)) HNO.out
                · have HO5 := Lib.hid (HO.out.call hb5)
                  have HP5 := Lib.hid (HP.out.call hb5)
                  have HT5 := Lib.hid (HT.out.step HBR.out HPJ.out hrec)
                  obtain ⟨kA, kc, kk, seq, del, vA, vc, vv⟩ := rc
                  simp only at hk1 hk2 hv1 hv2 hkl1 hvl1
                  have HRI : Hid ((HBs w5 w3.heap.size kA kk ∧ kk.length ≤ kc ∧ HBs w5 w3.heap.size vA vv ∧ vv.length ≤ vc) ∧ kk.length ≤ 70000 ∧ vv.length ≤ 70000) := Lib.hid ⟨⟨hk1, hk2, hv1, hv2⟩, Nat.le_trans hkl1 HBD2.out.1, Nat.le_trans hvl1 HBD2.out.2⟩
                  have hR2b : R2.length ≤ 100000 := by omega
                  have hz5 := HO5.out.size
                  clear hb5 hrec hk1 hk2 hv1 hv2 hkl1 hvl1
                  simp only [Rv.val]
                  go_wp2_with (at_builtin; refine wpList_append_s _ rfl _ _ recT rfl w3.heap.size RA2 RC2 R2 rfl ((HO5.out.row.alloc _).alloc _) (w5.heap.size + 2) (some ⟨w5.heap.size + 1, 0, none⟩) 1 1 [⟨kA, kc, kk, seq, del, vA, vc, vv⟩] rfl rfl (rd_rec_new2 w5 _ ⟨kA, kc, kk, seq, del, vA, vc, vv⟩) (by simp; omega) (by unfold maxLen; simp; omega) (by simp; omega) ?_)
                  intro RA3 RC3 R3 w6 hR3 hoS hgS hatS
                  have hba : ∀ o o2, Below w5.heap.size w5 ((w5.alloc o).alloc o2) := fun o o2 => below_al2 w5 o o2
                  rw [hR3] at hoS
                  have HO6 := Lib.hid ((HO5.out.call (hba _ _)).app (r := ⟨kA, kc, kk, seq, del, vA, vc, vv⟩) ⟨⟨HRI.out.1.1.below (hba _ _), HRI.out.1.2.1, HRI.out.1.2.2.1.below (hba _ _), HRI.out.1.2.2.2⟩, HRI.out.2⟩ hoS hgS)
                  have HP6 := Lib.hid ((HP5.out.call (hba _ _)).kept_rec (HO5.out.call (hba _ _)).row hgS)
                  obtain ⟨rr, hrr⟩ : ∃ rr : Rv, rr = ⟨kA, kc, kk, seq, del, vA, vc, vv⟩ := ⟨_, rfl⟩
                  rw [← hrr] at hR3 HO6 HT5
                  subst hR3
                  have hmes : P.length - (j + 1) < P.length - j := by omega
                  have hR3l : (R2 ++ [rr]).length = R.length + (j + 1) := by rw [List.length_append, hR2]; rfl
                  have HR3 := Lib.hid hR3l
                  clear hrr hoS hgS hatS hba HO5 HP5 HRI hR3l
                  go_wp2_with fail
                  go_roundw
                  case rel => exact ⟨j + 1, RA3, RC3, R2 ++ [rr], hjl, by simp, rfl, HR3.out, HO6, HP6, HT5⟩
                  case measure =>
                    show P.length - ((j : Int) + 1).toNat < P.length - ((j : Int)).toNat
                    omega
              · have hje : j = P.length := by omega
                have HT2 : Hid (Tb.TR b (L.map Fv.pr) (k + 1) 0 R2) := Lib.hid (by
                  have h1 := HT.out
                  rw [hje] at h1
                  exact Tb.TR.block (P := P.map Pv.pr) (by rw [List.length_map]; exact h1) HBR.out)
                have hmes : n - (k + 1) < n - k := by omega
                have hR2b : R2.length ≤ 20000 := by omega
                go_wp2_with fail
                go_roundw
                case rel => exact ⟨k + 1, RA2, RC2, R2, hlt, by simp, rfl, hR2b, HO, HT2⟩
                case measure =>
                  show n - ((k : Int) + 1).toNat < n - ((k : Int)).toNat
                  omega
        · have hke : k = n := by omega
          have HTE : Hid (Tb.TR b (L.map Fv.pr) ((L.map Fv.pr).length - 3) 0 R) := Lib.hid (by
            have h1 := HTR.out
            have e : (L.map Fv.pr).length - 3 = k := by rw [List.length_map]; have := HN3.out; omega
            rw [e]; exact h1)
          have KB := rtbuild_any RA RC R (n1 : Int) (n2 : Int) wr HOP.out.rd (by omega) (fun r hr => by have := (HOP.out.inn r hr).2; omega)
          obtain ⟨er, her⟩ : ∃ er, er = (Tb.build R (n1 : Int) (n2 : Int)).1 := ⟨_, rfl⟩
          obtain ⟨bb, hbb⟩ : ∃ bb, bb = (Tb.build R (n1 : Int) (n2 : Int)).2 := ⟨_, rfl⟩
          have HBE : Hid (Tb.build R (n1 : Int) (n2 : Int) = (er, bb)) := Lib.hid (by rw [her, hbb])
          rw [← her, ← hbb] at KB
          have hw1 := HW12.out.1
          have hw2 := HW12.out.2
          have HK := Lib.hid KB
          have HLAST : Hid ((er, bb) ≠ (0, b) → ∀ l s t, ¬ Tb.Is b l s t) := Lib.hid (fun hne => Tb.last_no HTE.out HSC.out HTN.out HNST.out (by rw [HBE.out]; exact hne))
          clear KB her hbb
          go_wp2_with fail
          refine HK.out.mono ?_
          rintro e w4 ⟨hb4, ⟨hne, rfl⟩ | ⟨rfl, AA, ac, rfl, hoa⟩⟩
          · have HNO := Lib.hid (HLAST.out (fun e => hne (by injection e)))
            have HBD := Lib.hid (HB3.out.trans ((HOP.out.call hb4).below.mono HB3.out.size))
            have hx2 : (er == 0) = false := by simpa using hne
            have hx3 : (er != 0) = true := by simpa using hne
            clear hb4 hne
            go_wp2_with fail
            go_ret2
            exact HGN.out _ HBD.out HNO.out
          · have HBD := Lib.hid (HB3.out.trans ((HOP.out.call hb4).below.mono HB3.out.size))
            have s1 := strB_of (c := ac) hoa.rd
            have s2 := strB_of (c := c) (HH.out.below (HB1.out.trans (HBD.out.mono HB1.out.size)) (Nat.le_refl _))
            unfold StrB at s1 s2
            obtain ⟨SF, hSF⟩ : ∃ SF : ByteArray, SF = ⟨bb.toArray⟩ := ⟨_, rfl⟩
            obtain ⟨SB, hSB⟩ : ∃ SB : ByteArray, SB = ⟨b.toArray⟩ := ⟨_, rfl⟩
            rw [← hSF] at s1
            rw [← hSB] at s2
            have HRD := Lib.hid (HOP.out.call hb4).rd
            clear hb4 hoa
            by_cases hfx : bb = b
            · have hss : SB = SF := by rw [hSB, hSF, hfx]
              have HIS : Hid (Tb.Is b R (n1 : Int) (n2 : Int)) := Lib.hid (by unfold Tb.Is; rw [HBE.out, hfx])
              have HALL : Hid (∀ l s t, Tb.Is b l s t → l.map Rv.core = R.map Rv.core) := Lib.hid (fun l s t hi => HTE.out.all HSC.out HTN.out hi)
              subst hss
              clear hSF hSB hfx
              go_wp2_with fail
              go_ret2
              exact ⟨HB1.out.trans (HBD.out.mono HB1.out.size), .inr ⟨R, RA, RC, (n1 : Int), (n2 : Int), rfl, HRD.out, HIS.out, HALL.out⟩⟩
            · have hne := str_ne hSF.symm hSB.symm hfx
              have HNO := Lib.hid (HLAST.out (fun e => hfx (by injection e)))
              clear hSF hSB hfx
              go_wp2_with fail
              go_ret2
              exact HGN.out _ HBD.out HNO.out
end Go.Proofs.YtgafionfojnieaaDoor
