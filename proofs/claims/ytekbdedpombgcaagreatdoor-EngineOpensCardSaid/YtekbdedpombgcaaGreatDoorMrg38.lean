/- Parts of the proof, one behind the other: The contract of the closure that frames hands back.; The contract of frame.Scan: a range over the frames. -/
import Derived.Test.YtekbdedpombgcaaGreatDoorMrg37
import Derived.Test.YtekbdedpombgcaaGreatDoorMrg08
import Derived.Test.YtekbdedpombgcaaGreatDoorMrg28
namespace Go.Proofs.YtekbdedpombgcaaGreatDoor
open Go.RowKit Go.Shelf

attribute [local go_sem] Oper.semAt_some

/-- One that is yielded: a frame, and how many bytes are left behind it. -/
structure Fx where
  f : Fv
  n : Nat
def Fx.encs (x : Fx) : Array Value := #[.agg #[.int .u8 (x.f.k.toNat : Int), .slice x.f.A x.f.b.length x.f.c], .int .i64 (x.n : Int)]
/-- What a body keeps: what lies below base, and rows of bytes, boxes of slices of bytes. -/
structure KpF (base : Nat) (W W' : World) : Prop where
  size : W.heap.size ≤ W'.heap.size
  low : ∀ k, k < base → k < W.heap.size → W'.heap[k]? = W.heap[k]?
  tag : ∀ (k : Nat) (cs : Array Value) (T : TypeId) (fr : Nat × Nat), T = 5 ∨ T = 34 → W.heap[k]? = some (.cells cs T fr) → W'.heap[k]? = some (.cells cs T fr)
theorem KpF.trans {base : Nat} {A B C : World} (h : KpF base A B) (h2 : KpF base B C) : KpF base A C :=
  ⟨Nat.le_trans h.size h2.size, fun k hk hz => (h2.low k hk (Nat.lt_of_lt_of_le hz h.size)).trans (h.low k hk hz), fun k cs T fr ht hk => h2.tag k cs T fr ht (h.tag k cs T fr ht hk)⟩
/-- Bytes that are read: below base, or in a row of bytes. -/
structure HBs (w : World) (base : Nat) (B : Option Addr) (r : List UInt8) : Prop where
  rd : RdB w w.heap.size B r
  at_ : r ≠ [] → ∀ g, blk B = some g → g < base ∨ ∃ cs fr, w.heap[g]? = some (.cells cs 5 fr)
theorem HBs.keep {w w' : World} {base : Nat} {B : Option Addr} {r : List UInt8} (h : HBs w base B r) (hz : w.heap.size ≤ w'.heap.size) (hk : r ≠ [] → ∀ g, blk B = some g → g < w.heap.size → w'.heap[g]? = w.heap[g]?) : HBs w' base B r := by
  by_cases hr : r = []
  · subst hr; exact ⟨RdB.nil, fun h => absurd rfl h⟩
  · obtain ⟨ad, e, hlt, hc⟩ := h.rd.2 (List.length_pos_iff.2 hr)
    have hb := hk hr ad.block (by rw [e]; rfl) hlt
    refine ⟨⟨h.rd.1, fun _ => ⟨ad, e, Nat.lt_of_lt_of_le hlt hz, fun j u hu => ?_⟩⟩, fun _ g hg => ?_⟩
    · have h1 : w'.cell? (ad.add j) = w.cell? (ad.add j) := World.cell?_of_block (by rw [block_of_add]; exact hb)
      rw [h1]; exact hc j u hu
    · have hg' : ad.block = g := by rw [e] at hg; simpa [blk] using hg
      subst hg'
      rcases h.at_ hr ad.block (by rw [e]; rfl) with h1 | ⟨cs, fr, h1⟩
      · exact .inl h1
      · exact .inr ⟨cs, fr, hb.trans h1⟩
theorem HBs.below {w w' : World} {base : Nat} {B : Option Addr} {r : List UInt8} (h : HBs w base B r) (hb : Below w.heap.size w w') : HBs w' base B r := h.keep hb.size (fun _ g _ hlt => hb.block g hlt)
theorem HBs.kp {w w' : World} {base : Nat} {B : Option Addr} {r : List UInt8} (h : HBs w base B r) (hk : KpF base w w') : HBs w' base B r := h.keep hk.size (fun hr g hg hz => by
  rcases h.at_ hr g hg with h1 | ⟨cs, fr, h1⟩
  · exact hk.low g h1 hz
  · rw [h1]; exact hk.tag g cs _ fr (.inl rfl) h1)
theorem HBs.set {w : World} {base b0 : Nat} {B : Option Addr} {r : List UInt8} {v u : Value} (h : HBs w base B r) (hb : base ≤ b0) (hbox : w.heap[b0]? = some (.cells #[v] 34)) : HBs (w.setCell ⟨b0, 0, none⟩ u) base B r := h.keep (by simp) (fun hr g hg _ => by
  refine Below.heap_setCell _ _ _ _ (fun e => ?_)
  simp only at e
  subst e
  rcases h.at_ hr _ hg with h1 | ⟨cs, fr, h1⟩
  · omega
  · rw [hbox] at h1; injection h1 with h1; injection h1 with _ h2; exact absurd h2 (by decide))
theorem HBs.frs {w w' : World} {base n : Nat} {A B : Option Addr} {r r' : List UInt8} (h : HBs w base A r) (hr : r ≠ []) (hb : Below w.heap.size w w') (hf : Frs w' n A B) (hr' : RdB w' w'.heap.size B r') : HBs w' base B r' :=
  ⟨hr', fun _ g hg => by
    rcases hf g hg with h1 | ⟨_, h1⟩
    · exact (h.below hb).at_ hr g h1
    · exact .inr h1⟩
/-- How many bytes are left. -/
def lastN (b : List UInt8) (ys : List Fx) : Nat := (ys.getLast?.map Fx.n).getD b.length
theorem lastN_snoc (b : List UInt8) (ys : List Fx) (x : Fx) : lastN b (ys ++ [x]) = x.n := by simp [lastN]
def Fx.pr (x : Fx) : UInt8 × List UInt8 := x.f.pr
def ScanS (b : List UInt8) (ys : List Fx) : Prop := ∃ r, Frm.Scans b (ys.map Fx.pr) r ∧ Frm.take r = none ∧ lastN b ys = r.length
def boxLen (b0 : Nat) (w : World) : Nat := match w.cell? ⟨b0, 0, none⟩ with | some (.slice _ n _) => n | _ => 0
set_option maxHeartbeats 2000000 in
set_option maxRecDepth 100000 in
theorem frames1_in (l b0 base : Nat) (b : List UInt8) (hbl : b.length ≤ 1000000000) (A : Option Addr) (c : Nat) (hbase : base ≤ b0) (J Jx : List Fx → World → Prop) (hJ : AbO (fun r => r = b0) J)
    (hY : ∀ pre x W1, J pre W1 → (Own W1 base 5 x.f.A x.f.c x.f.b ∧ blk x.f.A ≠ some b0) → pre.length < b.length + 1 → YieldAt Fence.wide 3 Tryz.prog l x.encs W1 fun e W' => (e = .returned (.bool true) ∧ J (pre ++ [x]) W' ∧ KpF base W1 W') ∨ (e = .returned (.bool false) ∧ Jx (pre ++ [x]) W'))
    (W : World) (hbox : W.heap[b0]? = some (.cells #[.slice A b.length c] 34)) (hh : HBs W base A b) (hc : b.length ≤ c) (hcc : c ≤ 9223372036854775807) (h0 : J [] W) :
    CallsIn Fence.wide 4 Tryz.prog 166 #[.func (.yield l) #[] #[], .pointer (some ⟨b0, 0, none⟩)] W fun e W' => (∃ v, e = .returned v) ∧
      ((∃ ys, ScanS b ys ∧ J ys W') ∨ (∃ pre, True ∧ Jx pre W')) := by
  have HX := Lib.hid hbox
  have HH := Lib.hid hh
  have HY := Lib.hid hY
  have HJ0 := Lib.hid h0
  clear hbox hh hY h0
  refine callsIn_of_wp Tryz.func166 rfl trivial ?_ rfl
  simp only [Tryz.ntmps166, List.size_toArray, List.length_cons, List.length_nil, Nat.reduceAdd, Nat.reduceSub, Array.replicate_succ, Array.replicate_zero, List.push_toArray, List.append_toArray, List.nil_append, List.cons_append]
  gi_wp2
  gi_loopw [4] (fun _ wr => ∃ (pre : List Fx) (B : Option Addr) (d : Nat) (r : List UInt8), r.length ≤ d ∧ d ≤ 9223372036854775807 ∧ Hid (wr.heap[b0]? = some (.cells #[.slice B r.length d] 34)) ∧ Hid (Frm.Scans b (pre.map Fx.pr) r ∧ lastN b pre = r.length) ∧ Hid (J pre wr) ∧ Hid (HBs wr base B r)) (fun _ wr => boxLen b0 wr)
  case atStart => exact ⟨[], A, c, b, hc, hcc, HX, Lib.hid ⟨Frm.Scans.nil b, rfl⟩, HJ0, HH⟩
  case round =>
    obtain ⟨pre, B, d, r, hrd, hdd, HBX, HS, HJ, HB⟩ := hrel
    have q0 := box_cell HBX.out
    have hlen := HS.out.1.len
    rw [List.length_map] at hlen
    have KT := ftake_any B d r wr HB.out.rd (by omega) hrd hdd
    have hbz : b0 < wr.heap.size := (Array.getElem?_eq_some_iff.1 HBX.out).1
    cases ht : Frm.take r with
    | none =>
      rw [ht] at KT
      have HK := Lib.hid KT
      have HT := Lib.hid ht
      clear KT ht
      gi_wp2_with fail
      refine ⟨trivial, ?_⟩
      refine (callsIn_wide.2 HK.out).mono ?_
      rintro e w1 ⟨hb1, rfl⟩
      have HJ1 := Lib.hid (hJ _ _ _ none HJ.out (grown_of_below hb1) (fun r e => by cases e))
      clear hb1
      gi_wp2_with fail
      refine ⟨fun f hf => (by cases hf), ?_⟩
      have HJ2 := Lib.hid (hJ.alloc HJ1.out (.cells #[.int .u8 0, .slice none 0 0] 113))
      gi_wp2_with fail
      refine bodyPost_ret (results_none rfl _ _ _) rfl ?_
      exact ⟨⟨_, rfl⟩, .inl ⟨pre, ⟨r, HS.out.1, HT.out, HS.out.2⟩, HJ2.out⟩⟩
    | some v =>
      obtain ⟨k, t, r'⟩ := v
      rw [ht] at KT
      have HK := Lib.hid KT
      have HT := Lib.hid ht
      clear KT ht
      gi_wp2_with fail
      refine ⟨trivial, ?_⟩
      refine (callsIn_wide.2 HK.out).mono ?_
      have ht2 := HT.out
      rintro e w1 ⟨hb1, A1, c1, B1, d1, rfl, ho1, hr1, hd1, hdd1, hf1⟩
      obtain ⟨W1, hW1⟩ : ∃ W1, W1 = w1.alloc (.cells #[.int .u8 (k.toNat : Int), .slice A1 t.length c1] 113) := ⟨_, rfl⟩
      have hba : Below w1.heap.size w1 W1 := by rw [hW1]; exact (Below.refl _ _).alloc (Nat.le_refl _) _
      have hbW : Below wr.heap.size wr W1 := hb1.trans (hba.mono hb1.size)
      have HJ1 := Lib.hid (hJ _ _ _ none HJ.out (grown_of_below hbW) (fun r e => by cases e))
      have HB1 := Lib.hid ((HB.out.frs (fun e => by rw [e] at ht2; cases ht2) hb1 hf1 hr1).below hba)
      have HBX1 : Hid (W1.heap[b0]? = some (.cells #[.slice B r.length d] 34)) := Lib.hid ((hbW.block _ hbz).trans HBX.out)
      have HS1 := Lib.hid (HS.out.1.step HT.out)
      obtain ⟨x, hx⟩ : ∃ x : Fx, x = ⟨⟨k, A1, c1, t⟩, r'.length⟩ := ⟨_, rfl⟩
      obtain ⟨fn, tmps, assign, body, hy, hR⟩ := HY.out pre x W1 HJ1.out (by rw [hx]; exact ⟨(ho1.mono (by omega)).below hba, fun e => by have := (ho1.blk_ge _ e).1; omega⟩) (by omega)
      have HXE := Lib.hid hx
      have hen : x.encs = #[.agg #[.int .u8 (k.toNat : Int), .slice A1 t.length c1], .int .i64 (r'.length : Int)] := by rw [hx]; rfl
      rw [hen] at hy
      have HR := Lib.hid hR
      clear hR hx hen hb1 ho1 hr1 hf1 hba hbW ht2
      subst hW1
      gi_wp2_with fail
      refine HR.out.mono ?_
      rintro e W3 (⟨rfl, hJ3, hk3⟩ | ⟨rfl, hJx3⟩)
      · have HB3 := Lib.hid (HB1.out.kp hk3)
        have hbx3 := hk3.tag b0 _ _ _ (.inr rfl) HBX1.out
        have HBX3 := Lib.hid hbx3
        have t1 := box_cell hbx3
        have tf := box_frozen hbx3
        have HJ3 := Lib.hid hJ3
        clear hk3 hJ3 hbx3 q0 hy
        gi_wp2_with fail
        have HBX4 : Hid ((W3.setCell ⟨b0, 0, none⟩ (.slice B1 r'.length d1)).heap[b0]? = some (.cells #[.slice B1 r'.length d1] 34)) := Lib.hid (box_set HBX3.out _)
        refine ⟨⟨pre ++ [x], B1, d1, r', hd1, hdd1, HBX4, Lib.hid ⟨?_, ?_⟩, Lib.hid (hJ.setCell HJ3.out _ _ rfl), Lib.hid (HB3.out.set hbase HBX3.out)⟩, ?_⟩
        · rw [List.map_append]
          have e1 : [x].map Fx.pr = [(k, t)] := by rw [HXE.out]; rfl
          rw [e1]; exact HS1.out
        · rw [lastN_snoc, HXE.out]
        · have e1 : boxLen b0 (W3.setCell ⟨b0, 0, none⟩ (.slice B1 r'.length d1)) = r'.length := by unfold boxLen; rw [box_cell HBX4.out]
          have e2 : boxLen b0 wr = r.length := by unfold boxLen; rw [box_cell HBX.out]
          rw [e1, e2]
          have h1 := (Frm.of_take HT.out).1
          have h2 := Frm.put_pos k t
          rw [h1, List.length_append]; omega
      · have HJX : Hid (Jx (pre ++ [x]) W3) := Lib.hid hJx3
        clear hJx3 hy q0
        gi_wp2_with fail
        refine bodyPost_ret (results_none rfl _ _ _) rfl ?_
        exact ⟨⟨_, rfl⟩, .inr ⟨_, trivial, HJX.out⟩⟩
end Go.Proofs.YtekbdedpombgcaaGreatDoor

namespace Go.Proofs.YtekbdedpombgcaaGreatDoor
open Go.RowKit Go.Shelf

attribute [local go_sem] Oper.semAt_some

/-- append of a row of structs, inside a fence. -/
theorem wpListIn_append_s {F : Fence} {fn : Nat} {P : Program} {t e : TypeId} {α : Type} {f : α → List Value} {n bytes : Nat} {z : Value} (w : World) {ops : Array Oper} {rest : List Oper} {o : Oper} {a : Act} {Q : Exit → Act → World → Prop} (hgd : o.guard = none) (s x : Operand) (T : RT P t e f n bytes z)
    (ho : o.op = .call { callee := .builtin .append, args := #[s, x], argTypes := #[t, t] })
    (base : Nat) (A : Option Addr) (c : Nat) (l : List α) (hs : a.eval s = .slice A l.length c) (hown : OwnS f n w base e A c l)
    (B : Nat) (A2 : Option Addr) (m c2 : Nat) (l2 : List α) (hx : a.eval x = .slice A2 m c2) (hm : m = l2.length) (hr : RdS f n w B A2 l2) (hlen : (l.length + l2.length) * bytes ≤ 140737488355328) (hl2 : l.length + l2.length ≤ maxLen) (hbase : base ≤ w.heap.size)
    (h : ∀ A' c' L w', L = l ++ l2 → OwnS f n w' base e A' c' L → w.grownBy w' (blk A) → (blk A' = blk A ∨ blk A' = some w.heap.size) → wpListIn F fn P ops Q rest (a.put o.dst (.slice A' L.length c')) w') : wpListIn F fn P ops Q (o :: rest) a w := by
  refine wpListIn_plain hgd fun K hK' => ?_
  obtain ⟨A', c', w', hrun, h2, h3, h4⟩ := run_append_s (P := P) w T o.type base A c l hown B A2 m c2 l2 hm hr hlen hl2 hbase
  unfold Oper.wpIn
  refine ⟨?_, ?_⟩
  · simp [Oper.about, ho, resolve, Target.leads, Sem.run_pure]
  · rw [Oper.semAt_plain F _ _ (by rw [ho]; intro c hc'; cases hc')]
    simp [execOp, ho, resolve, invoke, builtin, hs, hx, hrun, Result.andThen]
    have h9 := h A' c' _ w' rfl h2 h3 h4
    rw [List.length_append] at h9
    exact hK' _ _ h9
theorem frames_any (A : Option Addr) (n c : Nat) (w : World) :
    Calls Tryz.prog 84 #[.slice A n c] w fun e w' => e = .returned (.func (.func 166) #[] #[.pointer (some ⟨w.heap.size, 0, none⟩)]) ∧ w' = w.alloc (.cells #[.slice A n c] 34) := by
  go_enter Tryz.func84, Tryz.ntmps84
  go_wp2_with fail
  go_ret
  exact ⟨rfl, rfl⟩
/-- What lies in a round of the range. -/
structure SI (w : World) (b : List UInt8) (pre : List Fx) (W : World) : Prop where
  ex : ∃ OA OC, W.heap[w.heap.size]? = some (.cells #[.slice OA pre.length OC] 109) ∧ OwnFv 113 W w.heap.size OA OC (pre.map Fx.f) ∧ blk OA ≠ some (w.heap.size + 2)
  bx : W.heap[w.heap.size + 1]? = some (.cells #[.int .i64 (lastN b pre : Int)] 3)
  off : ∀ x ∈ pre, blk x.f.A ≠ some (w.heap.size + 2)
  below : Below w.heap.size w W
  lt : w.heap.size + 2 < W.heap.size
theorem tag_ne {W : World} {k r : Nat} {cs : Array Value} {T : TypeId} {fr : Nat × Nat} {o : Obj} (h : W.heap[k]? = some (.cells cs T fr)) (hr : W.heap[r]? = some o) (ho : o.isCells = false) : k ≠ r := fun e => by
  subst e; rw [h] at hr; injection hr with hr; subst hr; cases ho
theorem SI.grown {w W W' : World} {b : List UInt8} {pre : List Fx} {row : Option Nat} (h : SI w b pre W) (hg : W.grownBy W' row) (hr : ∀ r, row = some r → r = w.heap.size + 2 ∨ (w.heap.size ≤ r ∧ ∃ o : Obj, W.heap[r]? = some o ∧ o.isCells = false)) : SI w b pre W' := by
  obtain ⟨OA, OC, e1, e2, e3⟩ := h.ex
  have keep : ∀ k cs T fr, k ≠ w.heap.size + 2 → W.heap[k]? = some (.cells cs T fr) → some k ≠ row := fun k cs T fr hk hc e => by
    rcases hr k e.symm with h1 | ⟨_, o, h1, h2⟩
    · exact hk h1
    · exact tag_ne hc h1 h2 rfl
  have blks : ∀ {T : TypeId} {A : Option Addr} {c : Nat} {l : List UInt8}, Own W w.heap.size T A c l → blk A ≠ some (w.heap.size + 2) → blk A = none ∨ blk A ≠ row := fun {T A c l} ho hn => by
    rcases hA : blk A with _ | g
    · exact .inl rfl
    · obtain ⟨_, cs, fr, hc⟩ := own_tag ho hA
      exact .inr (keep g cs _ fr (fun e => hn (by rw [hA, e])) hc)
  have hlt1 : w.heap.size < W.heap.size := by have := h.lt; omega
  refine ⟨⟨OA, OC, (hg.block _ hlt1 (keep _ _ _ _ (by omega) e1)).trans e1, ⟨?_, fun f hf => ?_⟩, e3⟩, (hg.block _ (by have := h.lt; omega) (keep _ _ _ _ (by omega) h.bx)).trans h.bx, h.off, h.below.grown hg (by omega) (fun r e => by
    rcases hr r e with h1 | ⟨h1, _⟩ <;> omega), Nat.lt_of_lt_of_le h.lt hg.size⟩
  · refine e2.row.kept hg ?_
    rcases hA : blk OA with _ | g
    · exact .inl rfl
    · refine .inr ?_
      rcases e2.row.2 with ⟨hv, _⟩ | ⟨g', cap, cur, hv, _, hh, _⟩
      · injection hv with hv; subst hv; cases hA
      · injection hv with hv
        subst hv
        injection hA with hA
        subst hA
        exact keep _ _ _ _ (fun e => e3 (by rw [← e]; rfl)) hh
  · obtain ⟨x, hx, rfl⟩ := List.mem_map.1 hf
    obtain ⟨h1, h2⟩ := e2.own _ hf
    exact ⟨h1.kept hg (blks h1 (h.off x hx)), h2⟩
theorem ownS_tag {α : Type} {f : α → List Value} {n base c g : Nat} {w : World} {e : TypeId} {A : Option Addr} {l : List α} (h : OwnS f n w base e A c l) (hg : blk A = some g) : base ≤ g ∧ ∃ cs fr, w.heap[g]? = some (.cells cs e fr) := by
  refine ⟨(h.blk_ge g hg).1, ?_⟩
  rcases h.2 with ⟨hv, _⟩ | ⟨g', cap, cur, hv, _, hh, _⟩
  · injection hv with hv; subst hv; cases hg
  · injection hv with hv
    subst hv
    injection hg with hg
    subst hg
    exact ⟨_, _, hh⟩
theorem tag_ne2 {W : World} {k r : Nat} {cs cs' : Array Value} {T T' : TypeId} {fr fr' : Nat × Nat} (h : W.heap[k]? = some (.cells cs T fr)) (hr : W.heap[r]? = some (.cells cs' T' fr')) (hT : T ≠ T') : k ≠ r := fun e => by
  subst e; rw [h] at hr; injection hr with hr; injection hr with _ h2; exact hT h2
def SG (w : World) (x : Fx) (W : World) : Prop := Own W w.heap.size 5 x.f.A x.f.c x.f.b ∧ blk x.f.A ≠ some (w.heap.size + 2)
theorem SI.x01 {w W w9 : World} {b : List UInt8} {pre : List Fx} {OA : Option Addr} {OC : Nat} {o : Obj} (h : SI w b pre W)
    (e1 : W.heap[w.heap.size]? = some (.cells #[.slice OA pre.length OC] 109)) (e2 : OwnFv 113 W w.heap.size OA OC (pre.map Fx.f))
    (hg : (W.alloc o).grownBy w9 (blk OA)) : w9.heap[w.heap.size]? = some (.cells #[.slice OA pre.length OC] 109) ∧ w9.heap[w.heap.size + 1]? = some (.cells #[.int .i64 (lastN b pre : Int)] 3) := by
  have hlt := h.lt
  have k9 : ∀ k, k < W.heap.size → blk OA ≠ some k → w9.heap[k]? = W.heap[k]? := fun k hk hn => (hg.block k (by simp; omega) (fun e => hn e.symm)).trans (heap_alloc_old W o hk)
  have nA0 : blk OA ≠ some w.heap.size := fun e => by
    obtain ⟨_, cs, fr, h1⟩ := ownS_tag e2.row e
    exact tag_ne2 h1 e1 (by decide) rfl
  have nA1 : blk OA ≠ some (w.heap.size + 1) := fun e => by
    obtain ⟨_, cs, fr, h1⟩ := ownS_tag e2.row e
    exact tag_ne2 h1 h.bx (by decide) rfl
  exact ⟨(k9 _ (by omega) nA0).trans e1, (k9 _ (by omega) nA1).trans h.bx⟩
theorem SI.step {w W w9 : World} {b : List UInt8} {pre : List Fx} {x : Fx} {OA OA' : Option Addr} {OC OC' : Nat} {o : Obj} (B : Nat) (h : SI w b pre W) (hx : SG w x W)
    (e1 : W.heap[w.heap.size]? = some (.cells #[.slice OA pre.length OC] 109)) (e2 : OwnFv 113 W w.heap.size OA OC (pre.map Fx.f)) (e3 : blk OA ≠ some (w.heap.size + 2))
    (hg : (W.alloc o).grownBy w9 (blk OA)) (hat : blk OA' = blk OA ∨ blk OA' = some (W.heap.size + 1)) (ho : OwnS Fv.cells 2 w9 w.heap.size 113 OA' OC' (pre.map Fx.f ++ [x.f])) :
    KeepsFrom B W ((w9.setCell ⟨w.heap.size, 0, none⟩ (.slice OA' (pre.length + 1) OC')).setCell ⟨w.heap.size + 1, 0, none⟩ (.int .i64 (x.n : Int))) ∧ KpF w.heap.size W ((w9.setCell ⟨w.heap.size, 0, none⟩ (.slice OA' (pre.length + 1) OC')).setCell ⟨w.heap.size + 1, 0, none⟩ (.int .i64 (x.n : Int))) ∧
    SI w b (pre ++ [x]) ((w9.setCell ⟨w.heap.size, 0, none⟩ (.slice OA' (pre.length + 1) OC')).setCell ⟨w.heap.size + 1, 0, none⟩ (.int .i64 (x.n : Int))) := by
  have hz : W.heap.size + 1 ≤ w9.heap.size := by have := hg.size; simpa using this
  have hlt := h.lt
  have k9 : ∀ k, k < W.heap.size → blk OA ≠ some k → w9.heap[k]? = W.heap[k]? := fun k hk hn => (hg.block k (by simp; omega) (fun e => hn e.symm)).trans (heap_alloc_old W o hk)
  have kS : ∀ k, k ≠ w.heap.size → k ≠ w.heap.size + 1 → ((w9.setCell ⟨w.heap.size, 0, none⟩ (.slice OA' (pre.length + 1) OC')).setCell ⟨w.heap.size + 1, 0, none⟩ (.int .i64 (x.n : Int))).heap[k]? = w9.heap[k]? := fun k h1 h2 => by
    rw [Below.heap_setCell _ _ _ _ h2, Below.heap_setCell _ _ _ _ h1]
  have hA : ∀ g, blk OA = some g → w.heap.size ≤ g ∧ ∃ cs fr, W.heap[g]? = some (.cells cs 113 fr) := fun g hg => ownS_tag e2.row hg
  have nA0 : blk OA ≠ some w.heap.size := fun e => by
    obtain ⟨_, cs, fr, h1⟩ := hA _ e
    exact tag_ne2 h1 e1 (by decide) rfl
  have nA1 : blk OA ≠ some (w.heap.size + 1) := fun e => by
    obtain ⟨_, cs, fr, h1⟩ := hA _ e
    exact tag_ne2 h1 h.bx (by decide) rfl
  have x0 := (k9 _ (by omega) nA0).trans e1
  have x1 := (k9 _ (by omega) nA1).trans h.bx
  have hAl : OwnFv 113 (W.alloc o) w.heap.size OA OC (pre.map Fx.f) := e2.call ((Below.refl _ _).alloc (Nat.le_refl _) _)
  have hxo : Own (W.alloc o) w.heap.size 5 x.f.A x.f.c x.f.b := hx.1.alloc o
  have hxf : Off [blk OA] (blk x.f.A) := fun g h1 h2 => by
    have h3 : some g = blk OA := by simpa using h2
    obtain ⟨_, cs, fr, h4⟩ := own_tag hx.1 h1
    obtain ⟨_, cs', fr', h5⟩ := hA g h3.symm
    exact tag_ne2 h4 h5 (by decide) rfl
  have h9 := hAl.app (f := x.f) hxo hxf ho hg (by simpa using hat)
  refine ⟨⟨by simp; omega, fun k ob hk hkk hob => ?_⟩, ⟨by simp; omega, fun k hk hkz => ?_, fun k cs T fr hT hk => ?_⟩, ⟨⟨OA', OC', ?_, ⟨?_, fun f hf => ?_⟩, ?_⟩, ?_, fun y hy => ?_, ?_, ?_⟩⟩
  · have hkl := (Array.getElem?_eq_some_iff.1 hkk).1
    have n0 := (tag_ne e1 hkk hob).symm
    have n1 := (tag_ne h.bx hkk hob).symm
    have n2 : blk OA ≠ some k := fun e => by
      obtain ⟨_, cs, fr, h1⟩ := hA _ e
      exact tag_ne h1 hkk hob rfl
    rw [kS k n0 n1, k9 k hkl n2]; exact hkk
  · have n2 : blk OA ≠ some k := fun e => by have := (hA _ e).1; omega
    rw [kS k (by omega) (by omega), k9 k hkz n2]
  · have hkl := (Array.getElem?_eq_some_iff.1 hk).1
    have d0 : T ≠ 109 := by rcases hT with e | e <;> (rw [e]; decide)
    have d1 : T ≠ 3 := by rcases hT with e | e <;> (rw [e]; decide)
    have d2 : T ≠ 113 := by rcases hT with e | e <;> (rw [e]; decide)
    have n2 : blk OA ≠ some k := fun e => by
      obtain ⟨_, cs, fr, h1⟩ := hA _ e
      exact tag_ne2 hk h1 d2 rfl
    rw [kS k (tag_ne2 hk e1 d0) (tag_ne2 hk h.bx d1), k9 k hkl n2]; exact hk
  · rw [box_set_other (by omega), List.length_append]; exact box_set x0 _
  · rw [List.map_append]
    refine h9.row.keep (fun g hg => ?_)
    obtain ⟨_, cs, fr, h1⟩ := ownS_tag h9.row hg
    exact kS g (tag_ne2 h1 x0 (by decide)) (tag_ne2 h1 x1 (by decide))
  · rw [List.map_append] at hf
    obtain ⟨h1, h2⟩ := h9.own f hf
    refine ⟨own_keep2 h1 (fun g hg => ?_), h2⟩
    obtain ⟨_, cs, fr, h3⟩ := own_tag h1 hg
    exact kS g (tag_ne2 h3 x0 (by decide)) (tag_ne2 h3 x1 (by decide))
  · rcases hat with h1 | h1
    · rw [h1]; exact e3
    · rw [h1]; intro e; injection e with e; omega
  · rw [lastN_snoc]
    refine box_set (v := .int .i64 (lastN b pre : Int)) ?_ _
    rw [box_set_other (by omega)]; exact x1
  · simp only [List.mem_append, List.mem_singleton] at hy
    rcases hy with hy | hy
    · exact h.off y hy
    · rw [hy]; exact hx.2
  · exact (((h.below.alloc (by omega) o).grown hg (by simp; omega) (fun g hg => (hA g hg).1)).setCell (by simp) _).setCell (by simp) _
  · simp; omega
/-- What Scan gives: frames of its own. -/
def ScannedO (w : World) (b : List UInt8) (e : Ending) (w' : World) : Prop := ∃ l r OA OC, Frm.Scans b (l.map Fv.pr) r ∧ Frm.take r = none ∧ e = .returned (.tuple #[.slice OA l.length OC, .int .i64 ((b.length : Int) - (r.length : Int))]) ∧ OwnFv 113 w' w.heap.size OA OC l ∧ Below w.heap.size w w'
set_option maxHeartbeats 2000000 in
set_option maxRecDepth 100000 in
theorem scan_own (A : Option Addr) (c : Nat) (b : List UInt8) (w : World) (h : RdB w w.heap.size A b) (hl : b.length ≤ 1000000000) (hc : b.length ≤ c) (hcc : c ≤ 9223372036854775807) :
    Calls Tryz.prog 38 #[.slice A b.length c] w (ScannedO w b) := by
  have HH := Lib.hid h
  clear h
  refine (callsIn_wide (n := 5)).1 ?_
  refine callsIn_of_wp_marks Tryz.func38 rfl trivial ?_ rfl
  simp only [Tryz.ntmps38, List.size_toArray, List.length_cons, List.length_nil, Nat.reduceAdd, Nat.reduceSub, Array.replicate_succ, Array.replicate_zero, List.push_toArray, List.append_toArray, List.nil_append, List.cons_append]
  gi_wp2_with fail
  refine ⟨trivial, ?_⟩
  refine (callsIn_wide.2 (frames_any A b.length c _)).mono ?_
  rintro e wL ⟨rfl, hwL⟩
  have z1 : ((w.alloc (.cells #[.slice none 0 0] 109)).alloc (.cells #[.int .i64 (b.length : Int)] 3)).heap.size = w.heap.size + 2 := by simp
  have y0 : wL.heap[w.heap.size]? = some (.cells #[.slice none 0 0] 109) := by
    rw [hwL, heap_alloc_old _ _ (by simp; omega), heap_alloc_old _ _ (by simp)]; exact heap_alloc_new w _
  have y1 : wL.heap[w.heap.size + 1]? = some (.cells #[.int .i64 (b.length : Int)] 3) := by
    rw [hwL, heap_alloc_old _ _ (by simp)]
    have := heap_alloc_new (w.alloc (.cells #[.slice none 0 0] 109)) (.cells #[.int .i64 (b.length : Int)] 3)
    simpa using this
  have y2 : wL.heap[w.heap.size + 2]? = some (.cells #[.slice A b.length c] 34) := by
    rw [hwL]
    have := heap_alloc_new ((w.alloc (.cells #[.slice none 0 0] 109)).alloc (.cells #[.int .i64 (b.length : Int)] 3)) (.cells #[.slice A b.length c] 34)
    rwa [z1] at this
  have hbl : Below w.heap.size w wL := by rw [hwL]; exact (((Below.refl _ _).alloc (Nat.le_refl _) _).alloc (by simp) _).alloc (by simp; omega) _
  have hzl : wL.heap.size = w.heap.size + 3 := by rw [hwL]; simp
  have HSI : Hid (SI w b [] wL) := Lib.hid ⟨⟨none, 0, y0, OwnFv.nil, by simp [blk]⟩, y1, fun x hx => (by cases hx), hbl, by omega⟩
  have HHB : Hid (∀ W, Below wL.heap.size wL W → HBs W w.heap.size A b) := Lib.hid (fun W hW => by
    have h0 : HBs wL w.heap.size A b := ⟨(HH.out.below hbl (Nat.le_refl _)).more hbl.size, fun hb g hg => by
      obtain ⟨ad, e, h1, _⟩ := HH.out.2 (List.length_pos_iff.2 hb)
      rw [e] at hg
      have : ad.block = g := by simpa [blk] using hg
      exact .inl (by omega)⟩
    exact h0.below hW)
  have HY2 := Lib.hid y2
  have HZL := Lib.hid hzl
  rw [z1]
  clear y0 y1 y2 hbl hzl z1 hwL
  have HSEQ : Hid (SeqG (fun r => r = w.heap.size + 2) Fence.wide 4 Tryz.prog 166 #[.pointer (some ⟨w.heap.size + 2, 0, none⟩)] Fx.encs (SG w) (KpF w.heap.size) (ScanS b) (fun _ => True) (b.length + 1) wL) := Lib.hid (fun L J Jx W hW hJ hJx hY h0 =>
    frames1_in L (w.heap.size + 2) w.heap.size b hl A c (by omega) J Jx hJ hY W ((hW.block _ (by have := HZL.out; omega)).trans HY2.out) (HHB.out W hW) hc hcc h0)
  have HI1 : Hid (OwnFrom wL.heap.size (SI w b)) := Lib.hid (fun s A B row hs hg hr => SI.grown hs hg (fun r e => .inr ⟨by have := (hr r e).1; have := HZL.out; omega, (hr r e).2⟩))
  have HI2 : Hid (AbO (fun r => r = w.heap.size + 2) (SI w b)) := Lib.hid (fun s A B row hs hg hr => SI.grown hs hg (fun r e => .inl (hr r e)))
  have HG1 : Hid (OwnFrom wL.heap.size (SG w)) := Lib.hid (fun x A B row hs hg hr => by
    refine ⟨hs.1.kept hg ?_, hs.2⟩
    rcases hA : blk x.f.A with _ | g
    · exact .inl rfl
    · obtain ⟨_, cs, fr, hc⟩ := own_tag hs.1 hA
      refine .inr (fun e => ?_)
      obtain ⟨_, o, h1, h2⟩ := hr g e.symm
      exact tag_ne hc h1 h2 rfl)
  have HKA : Hid (∀ (x : Fx) (W : World), KpF w.heap.size W (W.alloc (.cells #[.int .u8 (x.f.k.toNat : Int), .slice x.f.A x.f.b.length x.f.c] 113))) := Lib.hid (fun x W => ⟨by simp, fun k hk hz => heap_alloc_old W _ hz, fun k cs T fr _ h => (heap_alloc_old W _ (Array.getElem?_eq_some_iff.1 h).1).trans h⟩)
  have HKB : Hid (∀ (W : World) (l : Nat) (o o' : Obj), wL.heap.size ≤ l → W.heap[l]? = some o → o.isCells = false → KpF w.heap.size W (W.putObj l o')) := Lib.hid (fun W l o o' h1 h2 h3 => ⟨by simp [World.putObj], fun k hk _ => World.putObj_heap_other (by have := HZL.out; omega), fun k cs T fr _ h => (World.putObj_heap_other (tag_ne h h2 h3)).trans h⟩)
  gi_wp2_with fail
  refine rangeFunc_g (own := fun r => r = w.heap.size + 2) rfl (by decide) (gf := 166) (lb := #[.pointer (some ⟨w.heap.size + 2, 0, none⟩)]) rfl trivial (enters_of Tryz.func166 (by kernel_rfl) rfl)
    HSEQ.out (fun r e => by rw [e]; have := HZL.out; omega) KpF.trans HG1.out HKB.out (fun _ => rfl) (SI w b) (fun _ _ _ => False) HI1.out (fun _ _ _ _ _ hs _ _ => hs) HI2.out (fun _ _ _ _ _ hs _ _ => hs) HSI.out
    (fun x W0 => { tmps := #[.slice A b.length c, undef, .slice none 0 0, .int .i64 0, .pointer (some ⟨w.heap.size, 0, none⟩), .pointer (some ⟨w.heap.size + 1, 0, none⟩), .pointer (some ⟨W0.heap.size, 0, none⟩), .int .i64 (x.n : Int), .slice A b.length c, .int .i64 (b.length : Int), .slice A b.length c, .func (.func 166) #[] #[.pointer (some ⟨w.heap.size + 2, 0, none⟩)], .agg #[.int .u8 (x.f.k.toNat : Int), .slice x.f.A x.f.b.length x.f.c], .int .i64 (x.n : Int), undef, undef, undef, undef, undef, undef, undef, undef, undef, undef], defers := [] })
    (fun x W => W.alloc (.cells #[.int .u8 (x.f.k.toNat : Int), .slice x.f.A x.f.b.length x.f.c] 113)) (fun x W => World.grownBy_alloc W _ none) HKA.out
    (fun x W0 W => W.heap[W0.heap.size]? = some (.cells #[.int .u8 (x.f.k.toNat : Int), .slice x.f.A x.f.b.length x.f.c] 113)) (fun x W => heap_alloc_new W _)
    (fun W0 x A B row hs hg hr => (hg.block _ (Array.getElem?_eq_some_iff.1 hs).1 (fun e => by obtain ⟨_, o, h1, h2⟩ := hr _ e.symm; exact tag_ne hs h1 h2 rfl)).trans hs) ?assign ?body ?done ?stop
  case assign =>
    intro L x W K hK
    simp only [Fx.encs]
    gi_wp2_with fail
    exact hK
  case stop =>
    rintro D c pre W _ _ h _
    exact h.elim
  case body =>
    rintro L pre x W0 W hi hgx hfa hW0 hlen
    obtain ⟨OA, OC, e1, e2, e3⟩ := hi.ex
    have t0 := box_cell e1
    have u0 := box_frozen e1
    have t1 := box_cell hi.bx
    have u1 := box_frozen hi.bx
    have c0 := cell_of_row W W0.heap.size 0 _ _ (0, 0) hfa
    have c1 := cell_of_row W W0.heap.size 1 _ _ (0, 0) hfa
    simp only [List.getElem?_toArray, List.getElem?_cons_zero, List.getElem?_cons_succ] at c0 c1
    have HE1 := Lib.hid e1
    have HE2 := Lib.hid e2
    have HE3 := Lib.hid e3
    have HIW := Lib.hid hi
    have HGX := Lib.hid hgx
    have hml : (pre.map Fx.f).length = pre.length := List.length_map _
    have HML := Lib.hid hml
    have hsz : w.heap.size + 2 < W.heap.size := hi.lt
    obtain ⟨⟨k, fA, fc, fb⟩, n⟩ := x
    simp only at c0 c1 hfa
    clear e1 e2 e3 hi hgx hfa hml
    simp only
    gi_wp2_with (gi_at_builtin; refine wpListIn_append_s _ rfl _ _ frT rfl w.heap.size OA OC (pre.map Fx.f) (by rw [HML.out]; rfl) (HE2.out.row.alloc _) (W.heap.size + 1) (some ⟨W.heap.size, 0, none⟩) 1 1 [⟨k, fA, fc, fb⟩] rfl rfl (rd_frame_new _ W ⟨k, fA, fc, fb⟩) (by rw [HML.out]; simp; omega) (by rw [HML.out]; unfold maxLen; simp; omega) (by simp; omega) ?_)
    intro OA' OC' LL w9 hLL hoL hgL hatL
    have hln : LL.length = pre.length + 1 := by rw [hLL, List.length_append, HML.out]; rfl
    rw [hLL] at hoL
    have HST := Lib.hid (SI.step wL.heap.size HIW.out HGX.out HE1.out HE2.out HE3.out hgL hatL hoL)
    obtain ⟨v0, v1⟩ := HIW.out.x01 HE1.out HE2.out hgL
    have t0 := box_cell v0
    have u0 := box_frozen v0
    have t1 := box_cell v1
    have u1 := box_frozen v1
    rw [hln]
    clear hLL hoL hgL hatL v0 v1 hln c0 c1
    gi_wp2_with fail
    exact HST.out
  case done =>
    rintro D ys W hD hys hi hK
    obtain ⟨OA, OC, e1, e2, e3⟩ := hi.ex
    have t0 := box_cell e1
    have t1 := box_cell hi.bx
    have HE2 := Lib.hid e2
    have HB := Lib.hid hi.below
    have HKD := Lib.hid hK
    have hz := hi.lt
    obtain ⟨r, hS, hT, hN⟩ := hys
    have HSC := Lib.hid hS
    have HTK := Lib.hid hT
    have HLN := Lib.hid hN
    rw [hN] at t1
    have hrl := hS.len.2
    clear e1 e2 e3 hi hK hS hT hN
    gi_wp2_with fail
    gi_region
    gi_wp2_with fail
    refine leaves_marks _ (fun W => results_tmp2 rfl _ _ W) (B := wL.heap.size) (A := W.drew) (fun W' hW => ?_) _ _ ⟨D, rfl, hD, HKD.out, (fun _ h => by cases h), trivial⟩ .refl
    have ho : OwnFv 113 W' w.heap.size OA OC (ys.map Fx.f) := ⟨hW.row HE2.out.row, fun f hf => ⟨hW.row (HE2.out.own f hf).1, (HE2.out.own f hf).2⟩⟩
    refine ⟨ys.map Fx.f, r, OA, OC, ?_, HTK.out, ?_, ho, hW.blw HB.out.drew (by have := HZL.out; omega)⟩
    · rw [List.map_map]; exact HSC.out
    · rw [List.length_map]; rfl
end Go.Proofs.YtekbdedpombgcaaGreatDoor
