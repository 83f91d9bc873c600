/- Parts of the proof, one behind the other: A store as it lies in memory; what an operation may turn. -/
import Derived.Test.YtekbdedpombgcaaGreatDoorMrg03
import Derived.Test.YtekbdedpombgcaaGreatDoorMrg02
import Derived.WalkKit
import Derived.Lib.Hide
namespace Go.Proofs.YtekbdedpombgcaaGreatDoor
open Go.RowKit Go.Maps

theorem own_keepS {w w' : World} {base c : Nat} {e : TypeId} {A : Option Addr} {l : List UInt8} (h : Own w base e A c l) (hb : ∀ g, blk A = some g → w'.heap[g]? = w.heap[g]?) : Own w' base e A c l := by
  unfold Own at h ⊢
  refine ⟨h.1, ?_⟩
  rcases h.2 with h2 | ⟨g, cap, cur, hv, hg, hh, r⟩
  · exact .inl h2
  · refine .inr ⟨g, cap, cur, hv, hg, ?_, r⟩
    injection hv with hv
    rw [hb g (by rw [hv]; rfl)]
    exact hh
theorem rdB_keepS {w w' : World} {A : Option Addr} {l : List UInt8} (h : RdB w w.heap.size A l) (hs : w.heap.size ≤ w'.heap.size) (hb : ∀ g, blk A = some g → g < w.heap.size → w'.heap[g]? = w.heap[g]?) : RdB w' w'.heap.size A l := by
  refine ⟨h.1, fun hn => ?_⟩
  obtain ⟨ad, e, hlt, hc⟩ := h.2 hn
  refine ⟨ad, e, Nat.lt_of_lt_of_le hlt hs, fun t u hu => ?_⟩
  rw [← hc t u hu]
  refine World.cell?_of_block (hb _ ?_ (by rwa [block_of_add]))
  rw [e, block_of_add]; rfl
theorem ownsMap_keepS {H : Type} {P : Program} {k : TypeId} {R : Value → Option (DataW H × List MemPlace)} {w w' : World} {b n : Nat} {D : DataW H} (h : w.ownsMap P k R b n D) (hb : w'.heap[b]? = w.heap[b]?) : w'.ownsMap P k R b n D := by
  obtain ⟨es, clock, h1, F, hs, hD⟩ := h
  exact ⟨es, clock, hb.trans h1, F, hs, hD⟩
theorem ownsMap_tight {H : Type} {P : Program} {k : TypeId} {R : Value → Option (DataW H × List MemPlace)} {w : World} {b n : Nat} {D : DataW H} (h : w.ownsMap P k R b n D) {m : Nat} (hm : Maps.size D ≤ m) : w.ownsMap P k R b m D := by
  obtain ⟨es, clock, h1, F, hs, hD⟩ := h
  refine ⟨es, clock, h1, F, ?_, hD⟩
  rw [hD, Maps.size_eq, length_sorted] at hm
  simpa using hm
namespace Sto
def str (n : Str) : Value := .string ⟨n.toArray⟩
/-- A function that captured some values. -/
structure Cl where
  f : FuncId
  cb : List Value
def Cl.val (c : Cl) : Value := .func (.func c.f) #[] c.cb.toArray
def V1 (c : Cl) : List Value := [c.val]
/-- A change that is kept, as a function in memory: what it captured lies in blocks of its own. -/
def KcOk (w : World) (bs : List Nat) : Chg → Cl → Prop
  | .put n i, v => ∃ a b, v = ⟨179, [.pointer (some ⟨a, 0, none⟩), .pointer (some ⟨b, 0, none⟩)]⟩ ∧ w.heap[a]? = some (.cells #[.pointer (some ⟨bs.getD i 0, 0, none⟩)] 103) ∧ w.heap[b]? = some (.cells #[str n] 9) ∧ n.length ≤ maxLen
  | .del n, v => ∃ b, v = ⟨150, [.pointer (some ⟨b, 0, none⟩)]⟩ ∧ w.heap[b]? = some (.cells #[str n] 9) ∧ n.length ≤ maxLen
  | .ren f t i, v => ∃ x a y, v = ⟨156, [.pointer (some ⟨x, 0, none⟩), .pointer (some ⟨a, 0, none⟩), .pointer (some ⟨y, 0, none⟩)]⟩ ∧ w.heap[x]? = some (.cells #[str f] 9) ∧ w.heap[a]? = some (.cells #[.pointer (some ⟨bs.getD i 0, 0, none⟩)] 103) ∧ w.heap[y]? = some (.cells #[str t] 9) ∧ f.length ≤ maxLen ∧ t.length ≤ maxLen
/-- Where what lies. -/
structure Mem where
  mn : Nat
  md : Nat
  KA : Option Addr
  kc : Nat
  vs : List Cl
  PA : Option Addr
  pc : Nat
  bs : List Nat
  rows : List (Option Addr × Nat)
def Mem.row (m : Mem) (i : Nat) : Option Addr × Nat := m.rows.getD i (none, 0)
def Tag (w : World) (k : Nat) (T : TypeId) : Prop := ∃ cs fr, w.heap[k]? = some (.cells cs T fr)
/-- A block that an operation may turn. -/
def Mut (g : Nat) (m : Mem) (k : Nat) : Prop := k = g ∨ k = m.mn ∨ k = m.md ∨ k ∈ m.bs ∨ blk m.KA = some k ∨ ∃ r ∈ m.rows, blk r.1 = some k
/-- A block that the store leans on. -/
def Foot (w : World) (g : Nat) (m : Mem) (k : Nat) : Prop := Mut g m k ∨ blk m.PA = some k ∨ Tag w k 9 ∨ Tag w k 103
structure FlAt (w : World) (base : Nat) (b : Nat) (r : Option Addr × Nat) (f : Fl) : Prop where
  box : w.heap[b]? = some (.cells #[.slice r.1 f.b.length r.2, .int .i64 (f.sure : Int)] 107)
  own : Own w base 5 r.1 r.2 f.b
def stObj (m : Mem) (s : St) : Obj := .cells #[.int .i64 s.room, .map (some m.mn), .map (some m.md), .slice m.KA m.vs.length m.kc, .slice m.PA s.plan.length m.pc, .bool s.off] 44
abbrev DirAt (w : World) (b : Nat) (bs : List Nat) (l : Dir) : Prop := w.ownsMap Tryz.prog 9 ptrR b l.length (dirD bs l)
/-- All but the store's own block. -/
structure StR (w : World) (base g : Nat) (s : St) (m : Mem) : Prop where
  gt : Tag w g 44
  gb : base ≤ g
  now : DirAt w m.mn m.bs s.now
  disk : DirAt w m.md m.bs s.disk
  nb : base ≤ m.mn
  db : base ≤ m.md
  ne : m.mn ≠ m.md
  bsl : m.bs.length = s.files.length
  rwl : m.rows.length = s.files.length
  fl : ∀ i (h : i < s.files.length), FlAt w base (m.bs.getD i 0) (m.row i) s.files[i]
  bb : ∀ b ∈ m.bs, base ≤ b
  bnd : m.bs.Nodup
  rnd : ∀ i j, i < s.files.length → j < s.files.length → i ≠ j → ∀ k, blk (m.row i).1 = some k → blk (m.row j).1 ≠ some k
  krow : OwnS V1 1 w base 262 m.KA m.kc m.vs
  kl : m.vs.length = s.kept.length
  kok : ∀ (i : Nat) (c : Chg) (v : Cl), s.kept[i]? = some c → m.vs[i]? = some v → KcOk w m.bs c v
  plan : RdB w w.heap.size m.PA s.plan
  pcap : s.plan.length ≤ m.pc
  pmax : m.pc ≤ 9223372036854775807
  poff : ∀ k, blk m.PA = some k → base ≤ k ∧ Tag w k 5 ∧ ∀ r ∈ m.rows, blk r.1 ≠ some k
  ok : Ok s
structure StAt (w : World) (base g : Nat) (s : St) (m : Mem) : Prop where
  box : w.heap[g]? = some (stObj m s)
  r : StR w base g s m
section
variable {w w' : World} {base g : Nat} {s : St} {m m' : Mem}
theorem KcOk.keep {bs : List Nat} {c : Chg} {v : Cl} (h : KcOk w bs c v) (hk : ∀ k, Tag w k 9 ∨ Tag w k 103 → w'.heap[k]? = w.heap[k]?) : KcOk w' bs c v := by
  cases c with
  | put n i =>
    obtain ⟨a, b, e, h1, h2, h3⟩ := h
    exact ⟨a, b, e, (hk a (.inr ⟨_, _, h1⟩)).trans h1, (hk b (.inl ⟨_, _, h2⟩)).trans h2, h3⟩
  | del n =>
    obtain ⟨b, e, h2, h3⟩ := h
    exact ⟨b, e, (hk b (.inl ⟨_, _, h2⟩)).trans h2, h3⟩
  | ren f t i =>
    obtain ⟨x, a, y, e, h1, h2, h3, h4⟩ := h
    exact ⟨x, a, y, e, (hk x (.inl ⟨_, _, h1⟩)).trans h1, (hk a (.inr ⟨_, _, h2⟩)).trans h2, (hk y (.inl ⟨_, _, h3⟩)).trans h3, h4⟩
theorem FlAt.keep {b : Nat} {r : Option Addr × Nat} {f : Fl} (h : FlAt w base b r f) (hb : w'.heap[b]? = w.heap[b]?) (hr : ∀ k, blk r.1 = some k → w'.heap[k]? = w.heap[k]?) : FlAt w' base b r f :=
  ⟨hb.trans h.box, own_keepS h.own hr⟩
theorem row_mem {i : Nat} (h : i < m.rows.length) : m.row i ∈ m.rows := by
  unfold Mem.row
  rw [List.getD_eq_getElem?_getD, List.getElem?_eq_getElem h]
  exact List.getElem_mem _
theorem bs_mem {i : Nat} (h : i < m.bs.length) : m.bs.getD i 0 ∈ m.bs := by
  rw [List.getD_eq_getElem?_getD, List.getElem?_eq_getElem h]
  exact List.getElem_mem _
theorem StR.row_own (h : StR w base g s m) {r : Option Addr × Nat} (hr : r ∈ m.rows) : ∃ i, ∃ (hi : i < s.files.length), m.row i = r ∧ Own w base 5 r.1 r.2 s.files[i].b := by
  obtain ⟨i, hi, e⟩ := List.getElem_of_mem hr
  have hi' : i < s.files.length := by have := h.rwl; omega
  have e2 : m.row i = r := by
    unfold Mem.row
    rw [List.getD_eq_getElem?_getD, List.getElem?_eq_getElem hi, e]; rfl
  have := (h.fl i hi').own
  rw [e2] at this
  exact ⟨i, hi', e2, this⟩
theorem ownTag {e : TypeId} {A : Option Addr} {c k : Nat} {l : List UInt8} (h : Own w base e A c l) (hk : blk A = some k) : Tag w k e := by
  rcases h.2 with ⟨hv, _⟩ | ⟨g', cap, cur, hv, _, hh, _⟩
  · injection hv with hv; subst hv; cases hk
  · injection hv with hv
    subst hv
    have : g' = k := by simpa [blk] using hk
    subst this
    exact ⟨_, _, hh⟩
theorem ownTagS {α : Type} {f : α → List Value} {n : Nat} {e : TypeId} {A : Option Addr} {c k : Nat} {l : List α} (h : OwnS f n w base e A c l) (hk : blk A = some k) : Tag w k e := by
  rcases h.2 with ⟨hv, _⟩ | ⟨g', cap, cur, hv, _, hh, _⟩
  · injection hv with hv; subst hv; cases hk
  · injection hv with hv
    subst hv
    have : g' = k := by simpa [blk] using hk
    subst this
    exact ⟨_, _, hh⟩
theorem Tag.ne {k j : Nat} {T U : TypeId} (h : Tag w k T) (h2 : Tag w j U) (hn : T ≠ U) : k ≠ j := fun e => by
  subst e
  obtain ⟨cs, fr, h⟩ := h
  obtain ⟨cs', fr', h2⟩ := h2
  rw [h] at h2
  injection h2 with h2
  injection h2 with _ h2
  exact hn h2
theorem Tag.lt {k : Nat} {T : TypeId} (h : Tag w k T) : k < w.heap.size := by
  obtain ⟨_, _, h⟩ := h; exact (Array.getElem?_eq_some_iff.1 h).1
theorem Tag.map_ne {H : Type} {P : Program} {t : TypeId} {R : Value → Option (DataW H × List MemPlace)} {b n k : Nat} {D : DataW H} {T : TypeId} (h : Tag w k T) (h2 : w.ownsMap P t R b n D) : b ≠ k := fun e => by
  subst e
  obtain ⟨cs, fr, h⟩ := h
  obtain ⟨es, clock, h2, _⟩ := h2
  rw [h] at h2
  injection h2 with h2
  cases h2
theorem StR.bs_tag (h : StR w base g s m) {b : Nat} (hb : b ∈ m.bs) : Tag w b 107 := by
  obtain ⟨i, hi, e⟩ := List.getElem_of_mem hb
  have := (h.fl i (by have := h.bsl; omega)).box
  rw [List.getD_eq_getElem?_getD, List.getElem?_eq_getElem hi, e] at this
  exact ⟨_, _, this⟩
theorem StR.row_tag (h : StR w base g s m) {r : Option Addr × Nat} (hr : r ∈ m.rows) {k : Nat} (hk : blk r.1 = some k) : Tag w k 5 := by
  obtain ⟨_, _, _, ho⟩ := h.row_own hr
  exact ownTag ho hk
/-- What an operation may turn lies at base or behind it, and is there. -/
theorem StR.mut_ge (h : StR w base g s m) {k : Nat} (hk : Mut g m k) : base ≤ k ∧ k < w.heap.size := by
  rcases hk with e | e | e | e | e | ⟨r, hr, e⟩
  · rw [e]; exact ⟨h.gb, h.gt.lt⟩
  · rw [e]; exact ⟨h.nb, h.now.lt⟩
  · rw [e]; exact ⟨h.db, h.disk.lt⟩
  · exact ⟨h.bb k e, (h.bs_tag e).lt⟩
  · exact h.krow.blk_ge k e
  · obtain ⟨_, _, _, ho⟩ := h.row_own hr
    exact ho.blk_ge k e
/-- What the rest leans on is another block than the store's own. -/
theorem StR.foot_ne (h : StR w base g s m) {k : Nat} (hk : k = m.mn ∨ k = m.md ∨ k ∈ m.bs ∨ blk m.KA = some k ∨ (∃ r ∈ m.rows, blk r.1 = some k) ∨ blk m.PA = some k ∨ Tag w k 9 ∨ Tag w k 103) : k ≠ g := by
  rcases hk with e | e | e | e | ⟨r, hr, e⟩ | e | e | e
  · rw [e]; exact h.gt.map_ne h.now
  · rw [e]; exact h.gt.map_ne h.disk
  · exact (h.bs_tag e).ne h.gt (by decide)
  · exact (ownTagS h.krow e).ne h.gt (by decide)
  · exact (h.row_tag hr e).ne h.gt (by decide)
  · exact (h.poff k e).2.1.ne h.gt (by decide)
  · exact e.ne h.gt (by decide)
  · exact e.ne h.gt (by decide)
theorem StR.keep (h : StR w base g s m) (hs : w.heap.size ≤ w'.heap.size) (ht : Tag w' g 44) (hk : ∀ k, k < w.heap.size → k ≠ g → Foot w g m k → w'.heap[k]? = w.heap[k]?) : StR w' base g s m := by
  have hm : ∀ k, (k = m.mn ∨ k = m.md ∨ k ∈ m.bs ∨ blk m.KA = some k ∨ ∃ r ∈ m.rows, blk r.1 = some k) → w'.heap[k]? = w.heap[k]? := fun k h1 => by
    have h2 : Mut g m k := .inr h1
    refine hk k (h.mut_ge h2).2 (h.foot_ne ?_) (.inl h2)
    rcases h1 with e | e | e | e | e
    · exact .inl e
    · exact .inr (.inl e)
    · exact .inr (.inr (.inl e))
    · exact .inr (.inr (.inr (.inl e)))
    · exact .inr (.inr (.inr (.inr (.inl e))))
  refine ⟨ht, h.gb, ownsMap_keepS h.now (hm _ (.inl rfl)), ownsMap_keepS h.disk (hm _ (.inr (.inl rfl))), h.nb, h.db, h.ne, h.bsl, h.rwl, fun i hi => ?_, h.bb, h.bnd, h.rnd, ?_, h.kl, fun i c v hc hv => ?_, ?_, h.pcap, h.pmax, fun k e => ?_, h.ok⟩
  · exact (h.fl i hi).keep (hm _ (.inr (.inr (.inl (bs_mem (by have := h.bsl; omega)))))) (fun k e => hm k (.inr (.inr (.inr (.inr ⟨_, row_mem (by have := h.rwl; omega), e⟩)))))
  · exact h.krow.keep (fun k e => hm k (.inr (.inr (.inr (.inl e)))))
  · refine (h.kok i c v hc hv).keep (fun k e => ?_)
    have hlt : k < w.heap.size := by rcases e with e | e <;> exact e.lt
    exact hk k hlt (h.foot_ne (.inr (.inr (.inr (.inr (.inr (.inr e))))))) (.inr (.inr e))
  · exact rdB_keepS h.plan hs (fun k e hlt => hk k hlt (h.foot_ne (.inr (.inr (.inr (.inr (.inr (.inl e))))))) (.inr (.inl e)))
  · obtain ⟨h1, ⟨cs, fr, h2⟩, h3⟩ := h.poff k e
    have hlt := (Array.getElem?_eq_some_iff.1 h2).1
    exact ⟨h1, ⟨cs, fr, (hk k hlt (h.foot_ne (.inr (.inr (.inr (.inr (.inr (.inl e))))))) (.inr (.inl e))).trans h2⟩, h3⟩
theorem StAt.keep (h : StAt w base g s m) (hs : w.heap.size ≤ w'.heap.size) (hk : ∀ k, k < w.heap.size → Foot w g m k → w'.heap[k]? = w.heap[k]?) : StAt w' base g s m := by
  have hb := (hk g h.r.gt.lt (.inl (.inl rfl))).trans h.box
  exact ⟨hb, h.r.keep hs ⟨_, _, hb⟩ (fun k h1 _ h3 => hk k h1 h3)⟩
theorem StAt.below (h : StAt w base g s m) (hb : Below w.heap.size w w') : StAt w' base g s m := h.keep hb.size (fun k hk _ => hb.block k hk)
/-- A block of the caller's own is turned, or new ones are made. -/
theorem StAt.other (h : StAt w base g s m) {row : Option Nat} (hg : w.grownBy w' row) (hr : ∀ k, row = some k → k < w.heap.size → ¬ Foot w g m k) : StAt w' base g s m :=
  h.keep hg.size (fun k hk hf => hg.block k hk (fun e => hr k e.symm hk hf))
/-- What is not the store's: by its type. -/
theorem StAt.not_foot (h : StAt w base g s m) {k : Nat} {T : TypeId} (ht : Tag w k T) (h1 : T ≠ 44) (h2 : T ≠ 107) (h3 : T ≠ 262) (h4 : T ≠ 9) (h5 : T ≠ 103) (h6 : T = 5 → (∀ r ∈ m.rows, blk r.1 ≠ some k) ∧ blk m.PA ≠ some k) : ¬ Foot w g m k := by
  have hT : ∀ {U : TypeId}, Tag w k U → T = U := fun {U} hu => by
    rcases Nat.decEq T U with hn | he
    · exact absurd rfl (ht.ne hu hn)
    · exact he
  rintro ((e | e | e | e | e | ⟨r, hr, e⟩) | e | e | e)
  · exact h1 (hT (e ▸ h.r.gt))
  · exact ht.map_ne h.r.now e.symm
  · exact ht.map_ne h.r.disk e.symm
  · exact h2 (hT (h.r.bs_tag e))
  · exact h3 (hT (ownTagS h.r.krow e))
  · exact (h6 (hT (h.r.row_tag hr e))).1 r hr e
  · exact (h6 (hT (h.r.poff k e).2.1)).2 e
  · exact h4 (hT e)
  · exact h5 (hT e)
/-- What an operation does to memory: what it may turn alone, and what is new. -/
structure Aft (w w' : World) (g : Nat) (m m' : Mem) : Prop where
  os : w'.os = w.os
  tape : w'.tape = w.tape
  output : w'.output = w.output
  size : w.heap.size ≤ w'.heap.size
  block : ∀ k, k < w.heap.size → ¬ Mut g m k → w'.heap[k]? = w.heap[k]?
  turn : ∀ k, k < w.heap.size → Mut g m' k → Mut g m k
  pa : ∀ k, k < w.heap.size → blk m'.PA = some k → blk m.PA = some k
theorem Aft.trans {w1 : World} {m1 : Mem} (h1 : Aft w w1 g m m1) (h2 : Aft w1 w' g m1 m') : Aft w w' g m m' :=
  ⟨h2.os.trans h1.os, h2.tape.trans h1.tape, h2.output.trans h1.output, Nat.le_trans h1.size h2.size, fun k hk hn => (h2.block k (Nat.lt_of_lt_of_le hk h1.size) (fun hm => hn (h1.turn k hk hm))).trans (h1.block k hk hn),
    fun k hk hm => h1.turn k hk (h2.turn k (Nat.lt_of_lt_of_le hk h1.size) hm), fun k hk hm => h1.pa k hk (h2.pa k (Nat.lt_of_lt_of_le hk h1.size) hm)⟩
theorem Aft.grown {row : Option Nat} (hg : w.grownBy w' row) (hr : ∀ k, row = some k → k < w.heap.size → Mut g m k) : Aft w w' g m m :=
  ⟨hg.os, hg.tape, hg.output, hg.size, fun k hk hn => hg.block k hk (fun e => hn (hr k e.symm hk)), fun _ _ h => h, fun _ _ h => h⟩
theorem Aft.of_below (hb : Below w.heap.size w w') : Aft w w' g m m := ⟨hb.os, hb.tape, hb.output, hb.size, fun k hk _ => hb.block k hk, fun _ _ h => h, fun _ _ h => h⟩
theorem Aft.refl (w : World) (g : Nat) (m : Mem) : Aft w w g m m := Aft.of_below (Below.refl _ _)
theorem Aft.below (h : Aft w w' g m m') (hs : StR w base g s m) : Below base w w' :=
  ⟨h.os, h.tape, h.output, h.size, fun k hk => by
    rcases Nat.lt_or_ge k w.heap.size with h1 | h1
    · exact h.block k h1 (fun hm => by have := (hs.mut_ge hm).1; omega)
    · have := hs.gb; have := hs.gt.lt; omega⟩
/-- Bytes that lie apart from the store. -/
def Apart (w : World) (g : Nat) (m : Mem) (A : Option Addr) : Prop := ∀ k, blk A = some k → k < w.heap.size ∧ ¬ Mut g m k
theorem Apart.aft {A : Option Addr} (h : Apart w g m A) (ha : Aft w w' g m m') : Apart w' g m' A := fun k hk => ⟨Nat.lt_of_lt_of_le (h k hk).1 ha.size, fun hm => (h k hk).2 (ha.turn k (h k hk).1 hm)⟩
theorem rdB_aft {A : Option Addr} {l : List UInt8} (h : RdB w w.heap.size A l) (hp : Apart w g m A) (ha : Aft w w' g m m') : RdB w' w'.heap.size A l :=
  rdB_keepS h ha.size (fun k hk _ => ha.block k (hp k hk).1 (hp k hk).2)
/-- New bytes lie apart. -/
theorem Apart.new (h : StR w base g s m) {w1 : World} {A : Option Addr} {c : Nat} {e : TypeId} {l : List UInt8} (ho : Own w1 w.heap.size e A c l) : Apart w1 g m A := fun k hk => ⟨(ho.blk_ge k hk).2, fun hm => by have := (h.mut_ge hm).2; have := (ho.blk_ge k hk).1; omega⟩
end
end Sto
end Go.Proofs.YtekbdedpombgcaaGreatDoor
