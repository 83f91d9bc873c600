/- Parts of the proof, one behind the other: What the skip list's texts need of the tables'.; The skip list in memory: its nodes, their rows of pointers; who comes next on a level.; The skip list's own helpers: copied, right, levels, order.; behind: on each level, the last one that stands ahead.; The skip list: New, Len.; The skip list: Get.; The skip list: a store into a row.; The skip list while one more is put behind all.; The skip list: Put, behind all. -/
import Derived.Test.YtekbdedpombgcaaGreatDoorMrg38
import Derived.Test.YtekbdedpombgcaaGreatDoorMrg15
import Derived.Test.YtekbdedpombgcaaGreatDoorMrg07
import Derived.Test.YtekbdedpombgcaaGreatDoorMrg46
import Derived.Test.YtekbdedpombgcaaGreatDoorMrg05
import Derived.Laws.Rows
import Derived.RegionCalls
import Derived.StillTailTactics
namespace Go.Proofs.YtekbdedpombgcaaGreatDoor
open Go.RowKit Go.Maps

-- Tbl
/-- A record as it lies in memory. -/
structure Rv where
  kA : Option Addr
  kc : Nat
  k : List UInt8
  seq : Int
  del : Bool
  vA : Option Addr
  vc : Nat
  v : List UInt8
def Rv.cells (r : Rv) : List Value := [.slice r.kA r.k.length r.kc, .int .i64 r.seq, .bool r.del, .slice r.vA r.v.length r.vc]
def Rv.val (r : Rv) : Value := .agg #[.slice r.kA r.k.length r.kc, .int .i64 r.seq, .bool r.del, .slice r.vA r.v.length r.vc]
structure Rv.Ok (w : World) (B : Nat) (r : Rv) : Prop where
  key : RdB w B r.kA r.k
  val : RdB w B r.vA r.v
  kc : r.k.length ≤ r.kc
  vc : r.v.length ≤ r.vc
theorem Rv.Ok.below {w w' : World} {B D : Nat} {r : Rv} (h : Rv.Ok w B r) (hb : Below D w w') (hD : B ≤ D) : Rv.Ok w' B r := ⟨h.key.below hb hD, h.val.below hb hD, h.kc, h.vc⟩
theorem Rv.Ok.more {w : World} {B B' : Nat} {r : Rv} (h : Rv.Ok w B r) (hB : B ≤ B') : Rv.Ok w B' r := ⟨h.key.more hB, h.val.more hB, h.kc, h.vc⟩
structure RdRv (w : World) (B : Nat) (A : Option Addr) (l : List Rv) : Prop where
  row : RdS Rv.cells 4 w B A l
  ok : ∀ r ∈ l, Rv.Ok w B r
theorem RdRv.below {w w' : World} {B D : Nat} {A : Option Addr} {l : List Rv} (h : RdRv w B A l) (hb : Below D w w') (hD : B ≤ D) : RdRv w' B A l := ⟨h.row.below hb hD, fun p hp => (h.ok p hp).below hb hD⟩
theorem RdRv.more {w : World} {B B' : Nat} {A : Option Addr} {l : List Rv} (h : RdRv w B A l) (hB : B ≤ B') : RdRv w B' A l := ⟨h.row.more hB, fun p hp => (h.ok p hp).more hB⟩
namespace Tb
/-- May a record be? -/
def right (r : Rv) : Bool := decide (1 ≤ r.k.length ∧ r.k.length ≤ 512 ∧ 1 ≤ r.seq ∧ r.seq ≤ 1099511627776 ∧ r.v.length ≤ 4096 ∧ (r.del = true → r.v.length = 0))
/-- Does one stand ahead of another? -/
def ahead (a b : Rv) : Bool := Op.bytesLess a.k b.k || (a.k == b.k) && decide (b.seq < a.seq)
def cmpI (x y : Int) : Int := if x < y then -1 else if y < x then 1 else 0
def orI : List Int → Int
  | [] => 0
  | x :: l => if x = 0 then orI l else x
end Tb
theorem ret_bb {a b : Bool} (h : a = b) : Ending.returned (.bool a) = .returned (.bool b) := by rw [h]
theorem cmpT_any (x y : Int) (w : World) : Calls Tryz.prog 176 #[.int .i64 x, .int .i64 y] w fun e w' => e = .returned (.int .i64 (Tb.cmpI x y)) ∧ w = w' := by
  have hx : (x != x) = false := by simp
  have hy : (y != y) = false := by simp
  by_cases h1 : x < y
  · have E : Hid (Tb.cmpI x y = -1) := Lib.hid (by unfold Tb.cmpI; rw [if_pos h1])
    go_enter Tryz.func176, Tryz.ntmps176
    go_wp2
    go_ret
    exact ⟨by rw [E.out]; rfl, rfl⟩
  · by_cases h2 : y < x
    · have E : Hid (Tb.cmpI x y = 1) := Lib.hid (by unfold Tb.cmpI; rw [if_neg h1, if_pos h2])
      go_enter Tryz.func176, Tryz.ntmps176
      go_wp2
      go_ret
      exact ⟨by rw [E.out]; rfl, rfl⟩
    · have E : Hid (Tb.cmpI x y = 0) := Lib.hid (by unfold Tb.cmpI; rw [if_neg h1, if_neg h2])
      go_enter Tryz.func176, Tryz.ntmps176
      go_wp2
      go_ret
      exact ⟨by rw [E.out]; rfl, rfl⟩
theorem orT_any (g c : Nat) (l : List Int) (hl : l.length ≤ 1000) (w : World) (h : ∀ k (hk : k < l.length), w.cell? ⟨g, k, none⟩ = some (.int .i64 l[k])) :
    Calls Tryz.prog 175 #[.slice (some ⟨g, 0, none⟩) l.length c] w fun e w' => e = .returned (.int .i64 (Tb.orI l)) ∧ w = w' := by
  have HH := Lib.hid h; clear h
  go_enter Tryz.func175, Tryz.ntmps175
  go_wp2
  go_loop [8] (fun i => ∃ k : Nat, k ≤ l.length ∧ i = .int .i64 (k : Int) ∧ Hid (Tb.orI (l.drop k) = Tb.orI l)) (fun i => l.length - (intOf i).toNat)
  case atStart => exact ⟨0, by omega, rfl, Lib.hid rfl⟩
  case round =>
    obtain ⟨k, hk, rfl, HI⟩ := hrel
    by_cases hlt : k < l.length
    · have hc := HH.out k hlt
      have hd : l.drop k = l[k] :: l.drop (k + 1) := List.drop_eq_getElem_cons hlt
      obtain ⟨x, hx⟩ : ∃ x, x = l[k] := ⟨_, rfl⟩
      rw [← hx] at hc hd
      clear hx
      by_cases hx0 : x = 0
      · have HJ : Hid (Tb.orI (l.drop (k + 1)) = Tb.orI l) := Lib.hid (by rw [← HI.out, hd]; show _ = if x = 0 then _ else _; rw [if_pos hx0])
        clear hd
        subst hx0
        go_wp2
        go_round
        case rel => exact ⟨k + 1, by omega, by go_num, HJ⟩
        case measure => simp [intOf]; omega
      · have HJ : Hid (Tb.orI l = x) := Lib.hid (by rw [← HI.out, hd]; show (if x = 0 then _ else _) = _; rw [if_neg hx0])
        clear hd
        have d1 : (x == 0) = false := by simpa using hx0
        have d2 : (x != 0) = true := by simpa using hx0
        clear hx0
        go_wp2
        go_ret
        exact ⟨by rw [HJ.out]; rfl, rfl⟩
    · have HJ : Hid (Tb.orI l = 0) := Lib.hid (by rw [← HI.out, List.drop_eq_nil_of_le (by omega)]; rfl)
      go_wp2
      go_ret
      exact ⟨by rw [HJ.out]; rfl, rfl⟩

-- Cln
theorem cloneU_any (A : Option Addr) (c : Nat) (l : List UInt8) (w : World) (h : RdB w w.heap.size A l) (hl : l.length ≤ 70368744177664) :
    Calls Tryz.prog 35 #[.slice A l.length c] w (GivesB w l) := by
  have HR := Lib.hid h; clear h
  rcases A with _ | ad
  · have hl0 : l = [] := by
      rcases l with _ | ⟨x, l⟩
      · rfl
      · obtain ⟨ad, h, _⟩ := HR.out.cell (k := 0) (by simp)
        cases h
    subst hl0
    have hq : (binOp .eql 34 (.slice none 0 c) (.slice none 0 0)).run Tryz.prog w = .ok (.bool true) w := Lib.run_eql_slice_nil w _ _ none 0 c 0 0 bt.sl
    show Calls Tryz.prog 35 #[.slice none 0 c] w (GivesB w [])
    go_enter Tryz.func35, Tryz.ntmps35
    go_wp2_with fail
    go_ret
    exact ⟨none, 0, rfl, Own.nil _ _ _, Below.refl _ _⟩
  · have hq : (binOp .eql 34 (.slice (some ad) l.length c) (.slice none 0 0)).run Tryz.prog w = .ok (.bool false) w := Lib.run_eql_slice_nil w _ _ (some ad) l.length c 0 0 bt.sl
    have HN : Hid (Own (w.alloc (.cells #[] 5)) w.heap.size 5 (some ⟨w.heap.size, 0, none⟩) 0 []) := Lib.hid (World.ownsRow_lit (e := 5) (size := 1) w #[] 0 (Nat.le_refl _) (by unfold maxLen; omega) rfl)
    go_enter Tryz.func35, Tryz.ntmps35
    go_wp2_with (at_builtin; refine wpList_append_b _ rfl _ _ bt rfl w.heap.size (some ⟨w.heap.size, 0, none⟩) 0 [] rfl HN.out w.heap.size (some ad) l.length c l rfl rfl (HR.out.alloc (Nat.le_refl _) _) (by simp only [List.length_nil]; omega) (by simp) ?_)
    intro A2 c2 L w2 hL ho hg _
    have HL : Hid (L = l) := Lib.hid hL
    have HO := Lib.hid ho
    have HB : Hid (Below w.heap.size w w2) := Lib.hid (below_grow ((Below.refl _ _).alloc (Nat.le_refl _) _) hg (fun g hg => (HN.out.blk_ge g hg).1) (by simp))
    clear hL ho hg
    go_wp2_with fail
    go_ret
    exact ⟨A2, c2, by rw [HL.out]; rfl, by rw [← HL.out]; exact HO.out, HB.out⟩

/-- A call of one argument by its contract, at a step of a region that draws its order. -/
theorem step_call1_d {P : Program} {w : World} {ops : Array Oper} {o : Oper} {a : Act} {K : Act → World → Prop} {Q : Exit → Act → World → Prop} {E : Prop} (hgd : o.guard = none) (d : Option Tmp) (hd : o.dst = d) {f : Nat} (x : Operand) {ats : Array TypeId}
    (ho : o.op = .call { callee := .value (.func f), args := #[x], argTypes := ats }) (vx : Value) (hx : a.eval x = vx) (hen : ∀ args w, (callFunc f args).run P w = .ok (.enter f args) w) (R : Ending → World → Prop) (hc : Calls P f #[vx] w R)
    (h : ∀ e w', R e w' → ∃ v, e = .returned v ∧ K (a.put d v) w') : if Region.wanted o (yielded ops a.tmps) = true then Oper.wp P o a w K Q else E := by
  subst hd hx
  have hw : Region.wanted o (yielded ops a.tmps) = true := by simp [Region.wanted, hgd]
  rw [if_pos hw]
  unfold Oper.wp execOp
  have e1 : a.eval (.func f) = .func (.func f) #[] #[] := rfl
  simp [ho, resolve, invoke, Deferred.ofValue, e1, hen]
  rw [Oper.upon_enter]
  refine hc.mono ?_
  intro e w' hr
  obtain ⟨v, rfl, hk⟩ := h e w' hr
  exact hk

-- Opq
theorem bytesEq_any (A B : Option Addr) (ca cb : Nat) (a b : List UInt8) (w : World) (ha : RdB w w.heap.size A a) (hb : RdB w w.heap.size B b) :
    Calls Tryz.prog 43 #[.slice A a.length ca, .slice B b.length cb] w fun e w' => e = .returned (.bool (a == b)) ∧ w = w' := by
  have s1 := strB_of (c := ca) ha
  have s2 := strB_of (c := cb) hb
  unfold StrB at s1 s2
  obtain ⟨SA, hSA⟩ : ∃ SA : ByteArray, SA = ⟨a.toArray⟩ := ⟨_, rfl⟩
  obtain ⟨SB, hSB⟩ : ∃ SB : ByteArray, SB = ⟨b.toArray⟩ := ⟨_, rfl⟩
  rw [← hSA] at s1
  rw [← hSB] at s2
  by_cases hab : a = b
  · have hss : SB = SA := by rw [hSA, hSB, hab]
    have HE : Hid ((a == b) = true) := Lib.hid (by simpa using hab)
    subst hss
    clear hSA hSB hab ha hb
    go_enter Tryz.func43, Tryz.ntmps43
    go_wp2_with fail
    go_ret
    rw [HE.out]
    exact ⟨by simp, rfl⟩
  · have hne := str_ne hSA.symm hSB.symm hab
    have HE : Hid ((a == b) = false) := Lib.hid (by simpa using hab)
    clear hSA hSB hab ha hb
    go_enter Tryz.func43, Tryz.ntmps43
    go_wp2_with fail
    go_ret
    rw [HE.out]
    exact ⟨by simp, rfl⟩

-- Typ
/-- What of a record is in a table. -/
def Rv.core (r : Rv) : List UInt8 × Int × Bool × List UInt8 := (r.k, r.seq, r.del, r.v)

-- Rcp


-- Cpd
/-- What 'copied' gives. -/
def CpdQ (w : World) (r : Rv) (e : Ending) (w' : World) : Prop := Below w.heap.size w w' ∧ ∃ r' : Rv, e = .returned r'.val ∧ r'.core = r.core ∧ Own w' w.heap.size 5 r'.kA r'.kc r'.k ∧ Own w' w.heap.size 5 r'.vA r'.vc r'.v

-- Bpm
/-- A row that holds no bytes. -/
def NoB (w : World) (row : Option Nat) : Prop := ∀ g, row = some g → ∃ cs T fr, w.heap[g]? = some (.cells cs T fr) ∧ T ≠ 5
theorem NoB.below {w w' : World} {row : Option Nat} (h : NoB w row) (hb : Below w.heap.size w w') : NoB w' row := fun g hg => by
  obtain ⟨cs, T, fr, h1, h2⟩ := h g hg
  exact ⟨cs, T, fr, (hb.block g (Array.getElem?_eq_some_iff.1 h1).1).trans h1, h2⟩
theorem HBs.grown {w w' : World} {base : Nat} {B : Option Addr} {r : List UInt8} {row : Option Nat} (h : HBs w base B r) (hg : w.grownBy w' row) (hr : NoB w row) (hb : ∀ g, row = some g → base ≤ g) : HBs w' base B r := h.keep hg.size (fun hne g hgg hlt => hg.block g hlt (fun e => by
  rcases h.at_ hne g hgg with h1 | ⟨cs, fr, h1⟩
  · have := hb g e.symm; omega
  · obtain ⟨cs', T, fr', h2, h3⟩ := hr g e.symm
    exact tag_ne2 h1 h2 (fun e => h3 e.symm) rfl))

-- Bsp
theorem heap_setD {w : World} {p : Addr} {k : Nat} (v : Value) (h : k ≠ p.block) : (w.setCell p v).heap[k]? = w.heap[k]? := Below.heap_setCell w p v k h

-- TblC
theorem Own.cellput {w : World} {base : Nat} {e : TypeId} {A : Option Addr} {c : Nat} {l : List UInt8} (h : Own w base e A c l) (p : Addr) (v : Value) (hp : blk A ≠ some p.block) : Own (w.setCell p v) base e A c l :=
  World.ownsRow.kept h (grownBy_set w p v) (.inr (by rw [ownBlock_slice]; exact hp))

-- Bpc
theorem HBs.set_tag {w : World} {base g o : Nat} {cs : Array Value} {T : TypeId} {fr : Nat × Nat} {B : Option Addr} {r : List UInt8} {u : Value} (h : HBs w base B r) (hb : w.heap[g]? = some (.cells cs T fr)) (hT : T ≠ 5) (hg : base ≤ g) : HBs (w.setCell ⟨g, o, none⟩ u) base B r := h.keep (by simp) (fun hne x hx _ => by
  refine heap_setD _ (fun e => ?_)
  have e' : x = g := e
  subst e'
  rcases h.at_ hne x hx with h1 | ⟨cs', fr', h1⟩
  · omega
  · exact tag_ne2 h1 hb (fun e => hT e.symm) rfl)

-- Rcp
theorem heap_set4 {w : World} {g : Nat} {x y z u a b c d : Value} {T : TypeId} (h : w.heap[g]? = some (.cells #[x, y, z, u] T)) : ((((w.setCell ⟨g, 0, none⟩ a).setCell ⟨g, 1, none⟩ b).setCell ⟨g, 2, none⟩ c).setCell ⟨g, 3, none⟩ d).heap[g]? = some (.cells #[a, b, c, d] T) := by
  have h1 := heap_setCell_same w g 0 _ T a h
  have h2 := heap_setCell_same _ g 1 _ T b h1
  have h3 := heap_setCell_same _ g 2 _ T c h2
  have h4 := heap_setCell_same _ g 3 _ T d h3
  simpa using h4
theorem HBs.drew {w : World} {base : Nat} {B : Option Addr} {r : List UInt8} (h : HBs w base B r) : HBs w.drew base B r := ⟨h.rd, h.at_⟩

-- Rge
def zeroRec : Value := .agg #[.slice none 0 0, .int .i64 0, .bool false, .slice none 0 0]

-- Tge
/-- The result's block, its zero record. -/
def zObj : Obj := .cells #[.slice none 0 0, .int .i64 0, .bool false, .slice none 0 0] 83
theorem zfacts {W : World} {b : Nat} (h : W.heap[b]? = some zObj) : (W.cell? ⟨b, 0, none⟩ = some (.slice none 0 0) ∧ W.cell? ⟨b, 1, none⟩ = some (.int .i64 0) ∧ W.cell? ⟨b, 2, none⟩ = some (.bool false) ∧ W.cell? ⟨b, 3, none⟩ = some (.slice none 0 0)) ∧
    (W.frozen? ⟨b, 0, none⟩ = false ∧ W.frozen? ⟨b, 1, none⟩ = false ∧ W.frozen? ⟨b, 2, none⟩ = false ∧ W.frozen? ⟨b, 3, none⟩ = false) := by
  refine ⟨⟨?_, ?_, ?_, ?_⟩, frozen_of_row W b 0 _ _ h, frozen_of_row W b 1 _ _ h, frozen_of_row W b 2 _ _ h, frozen_of_row W b 3 _ _ h⟩
  · rw [cell_of_row W b 0 _ _ (0, 0) h]; rfl
  · rw [cell_of_row W b 1 _ _ (0, 0) h]; rfl
  · rw [cell_of_row W b 2 _ _ (0, 0) h]; rfl
  · rw [cell_of_row W b 3 _ _ (0, 0) h]; rfl
theorem rfacts {W : World} {b : Nat} {x y z u : Value} {T : TypeId} (h : W.heap[b]? = some (.cells #[x, y, z, u] T)) : W.cell? ⟨b, 0, none⟩ = some x ∧ W.cell? ⟨b, 1, none⟩ = some y ∧ W.cell? ⟨b, 2, none⟩ = some z ∧ W.cell? ⟨b, 3, none⟩ = some u := by
  refine ⟨?_, ?_, ?_, ?_⟩
  · rw [cell_of_row W b 0 _ _ (0, 0) h]; rfl
  · rw [cell_of_row W b 1 _ _ (0, 0) h]; rfl
  · rw [cell_of_row W b 2 _ _ (0, 0) h]; rfl
  · rw [cell_of_row W b 3 _ _ (0, 0) h]; rfl

theorem Own.hbs {wr : World} {base c : Nat} {A : Option Addr} {l : List UInt8} (h : Own wr base 5 A c l) {b0 : Nat} : HBs wr b0 A l := ⟨h.rd, fun _ _ hg => .inr (own_tag h hg).2⟩
end Go.Proofs.YtekbdedpombgcaaGreatDoor

namespace Go.Proofs.YtekbdedpombgcaaGreatDoor
open Go.RowKit

/-- A node: its block, its row's, how many levels, its record. -/
structure Nd where
  g : Nat
  nb : Nat
  h : Nat
  r : Rv
/-- A pointer to a node, or nil. -/
def ptrV : Option Nat → Value
  | none => .pointer none
  | some g => .pointer (some ⟨g, 0, none⟩)
namespace Sk
/-- The next one on a level. -/
def nx (l : List Nd) (lv : Nat) : Option Nat := (l.find? (fun d => decide (lv < d.h))).map Nd.g
/-- What stands in the row of the p-th (0: the head). -/
def F (l : List Nd) (p lv : Nat) : Option Nat := nx (l.drop p) lv
theorem nx_snoc (l : List Nd) (d : Nd) (lv : Nat) : nx (l ++ [d]) lv = match nx l lv with | some g => some g | none => if lv < d.h then some d.g else none := by
  unfold nx
  rw [List.find?_append]
  cases h : l.find? (fun d => decide (lv < d.h)) with
  | some x => rfl
  | none =>
    by_cases hd : lv < d.h
    · simp [hd]
    · simp [hd]
theorem nx_none {l : List Nd} {lv : Nat} (h : nx l lv = none) : ∀ d ∈ l, d.h ≤ lv := fun d hd => by
  unfold nx at h
  rw [Option.map_eq_none_iff, List.find?_eq_none] at h
  have := h d hd
  simp at this
  omega
/-- Where the next one stands. -/
theorem F_some {l : List Nd} {p lv g : Nat} (h : F l p lv = some g) : ∃ q, p ≤ q ∧ ∃ hq : q < l.length, l[q].g = g ∧ lv < l[q].h ∧ ∀ m (hm : m < l.length), p ≤ m → m < q → l[m].h ≤ lv := by
  unfold F nx at h
  rw [Option.map_eq_some_iff] at h
  obtain ⟨d, hd, e⟩ := h
  rw [List.find?_eq_some_iff_getElem] at hd
  obtain ⟨h1, i, hi, e2, h3⟩ := hd
  have hi2 : p + i < l.length := by rw [List.length_drop] at hi; omega
  rw [List.getElem_drop] at e2
  refine ⟨p + i, by omega, hi2, by rw [e2]; exact e, by rw [e2]; simpa using h1, fun m hm hpm hmq => ?_⟩
  obtain ⟨j, rfl⟩ : ∃ j, m = p + j := ⟨m - p, by omega⟩
  have := h3 j (by omega)
  rw [List.getElem_drop] at this
  simp at this
  omega
theorem F_none {l : List Nd} {p lv : Nat} (h : F l p lv = none) : ∀ m (hm : m < l.length), p ≤ m → l[m].h ≤ lv := fun m hm hpm => by
  refine nx_none h _ ?_
  rw [List.mem_iff_getElem]
  exact ⟨m - p, by rw [List.length_drop]; omega, by rw [List.getElem_drop]; congr 1; omega⟩
end Sk
/-- A list in memory: its head, its nodes, what their rows say. -/
structure SkAt (base : Nat) (hd : Nd) (l : List Nd) (f : Nat → Nat → Option Nat) (w : World) : Prop where
  size : base ≤ w.heap.size
  list : ∃ hgt sz : Int, w.heap[hd.g]? = some (.cells #[.slice none 0 0, .int .i64 0, .bool false, .slice none 0 0, .slice (some ⟨hd.nb, 0, none⟩) 12 12, .int .i64 hgt, .int .i64 (l.length : Int), .int .i64 sz] 91)
  h12 : hd.h = 12
  ge : base ≤ hd.g
  node : ∀ d ∈ l, base ≤ d.g ∧ w.heap[d.g]? = some (.cells #[.slice d.r.kA d.r.k.length d.r.kc, .int .i64 d.r.seq, .bool d.r.del, .slice d.r.vA d.r.v.length d.r.vc, .slice (some ⟨d.nb, 0, none⟩) d.h d.h] 89) ∧
    HBs w base d.r.kA d.r.k ∧ HBs w base d.r.vA d.r.v ∧ d.r.k.length ≤ d.r.kc ∧ d.r.v.length ≤ d.r.vc ∧ 1 ≤ d.h ∧ d.h ≤ 12 ∧ d.r.k.length ≤ 70000 ∧ d.r.v.length ≤ 70000
  rows : ∀ p (hp : p < (hd :: l).length), base ≤ ((hd :: l)[p]).nb ∧ ∃ cs : Array Value, w.heap[((hd :: l)[p]).nb]? = some (.cells cs 161) ∧ cs.size = ((hd :: l)[p]).h ∧ ∀ lv, lv < ((hd :: l)[p]).h → cs[lv]? = some (ptrV (f p lv))
  nd : ((hd :: l).map Nd.nb).Nodup
section
variable {base : Nat} {hd : Nd} {l : List Nd} {f : Nat → Nat → Option Nat} {w w' : World}
theorem SkAt.call (h : SkAt base hd l f w) (hb : Below w.heap.size w w') : SkAt base hd l f w' := by
  have key : ∀ k o, w.heap[k]? = some o → w'.heap[k]? = some o := fun k o e => (hb.block k (Array.getElem?_eq_some_iff.1 e).1).trans e
  refine ⟨Nat.le_trans h.size hb.size, ?_, h.h12, h.ge, fun d hd2 => ?_, fun p hp => ?_, h.nd⟩
  · obtain ⟨a, b, e⟩ := h.list
    exact ⟨a, b, key _ _ e⟩
  · obtain ⟨h1, h2, h3, h4, h5⟩ := h.node d hd2
    exact ⟨h1, key _ _ h2, h3.below hb, h4.below hb, h5⟩
  · obtain ⟨h1, cs, h2, h3⟩ := h.rows p hp
    exact ⟨h1, cs, key _ _ h2, h3⟩
end
end Go.Proofs.YtekbdedpombgcaaGreatDoor

namespace Go.Proofs.YtekbdedpombgcaaGreatDoor
open Go.RowKit

set_option maxHeartbeats 2000000 in
set_option maxRecDepth 100000 in
theorem scopied_any (r : Rv) (w : World) (hk : RdB w w.heap.size r.kA r.k) (hv : RdB w w.heap.size r.vA r.v) (hkl : r.k.length ≤ 1000000) (hvl : r.v.length ≤ 1000000) :
    Calls Tryz.prog 56 #[r.val] w (CpdQ w r) := by
  obtain ⟨kA, kc, k, seq, del, vA, vc, v⟩ := r
  simp only at hk hv hkl hvl
  have HKR : Hid (∀ X, Below w.heap.size w X → Calls Tryz.prog 35 #[.slice kA k.length kc] X (GivesB X k)) := Lib.hid (fun X hX => cloneU_any kA kc k X ((hk.below hX (Nat.le_refl _)).more hX.size) (by omega))
  have HVR : Hid (∀ X, Below w.heap.size w X → Calls Tryz.prog 35 #[.slice vA v.length vc] X (GivesB X v)) := Lib.hid (fun X hX => cloneU_any vA vc v X ((hv.below hX (Nat.le_refl _)).more hX.size) (by omega))
  clear hk hv
  simp only [Rv.val]
  go_enter Tryz.func56, Tryz.ntmps56
  go_wp2_with fail
  obtain ⟨V, hV⟩ : ∃ V, ((w.alloc (.cells #[.slice kA k.length kc, .int .i64 seq, .bool del, .slice vA v.length vc] 83)).alloc (.cells #[.slice none 0 0, .int .i64 0, .bool false, .slice none 0 0] 83)).drew = V := ⟨_, rfl⟩
  have hbV : Below w.heap.size w V := by rw [← hV]; exact (below_al2 w _ _).drew
  have hz : V.heap.size = w.heap.size + 2 := by rw [← hV]; simp
  have hx0 : V.heap[w.heap.size]? = some (.cells #[.slice kA k.length kc, .int .i64 seq, .bool del, .slice vA v.length vc] 83) := by
    rw [← hV]
    exact (((Below.refl _ _).alloc (Nat.le_refl _) _).block _ (by simp)).trans (heap_alloc_new w _)
  have hx1 : V.heap[w.heap.size + 1]? = some (.cells #[.slice none 0 0, .int .i64 0, .bool false, .slice none 0 0] 83) := by
    rw [← hV]
    have h1 := heap_alloc_new (w.alloc (.cells #[.slice kA k.length kc, .int .i64 seq, .bool del, .slice vA v.length vc] 83)) (.cells #[.slice none 0 0, .int .i64 0, .bool false, .slice none 0 0] 83)
    rw [show (w.alloc (.cells #[.slice kA k.length kc, .int .i64 seq, .bool del, .slice vA v.length vc] 83)).heap.size = w.heap.size + 1 by simp] at h1
    exact h1
  have HSV : V.cell? ⟨w.heap.size, 3, none⟩ = some (.slice vA v.length vc) := by rw [cell_of_row V w.heap.size 3 _ _ (0, 0) hx0]; rfl
  have c0 : V.cell? ⟨w.heap.size, 0, none⟩ = some (.slice kA k.length kc) := by rw [cell_of_row V w.heap.size 0 _ _ (0, 0) hx0]; rfl
  have HBV := Lib.hid hbV
  have HX0 := Lib.hid hx0
  have HX1 := Lib.hid hx1
  have HZ := Lib.hid hz
  clear hbV hx0 hx1 hz
  refine wp_region_E 9 (fun w' => w'.cell? ⟨w.heap.size, 3, none⟩ = some (.slice vA v.length vc)) (by kernel_rfl) ?_
  rw [hV]
  clear hV
  refine wpAnyE_take (i := 0) (v := ?_) rfl (by kernel_rfl) (by kernel_rfl) (by kernel_rfl) (by kernel_rfl) (fun _ _ _ h => h) (Or.inl ⟨by rfl, ?_⟩) HSV ?_
  rotate_left
  · (intro wy hSw; go_simp; try with_reducible rfl)
  try simp only [Act.put, List.setIfInBounds_toArray]
  refine wpAnyE_take (i := 3) (v := ?_) rfl (by kernel_rfl) (by kernel_rfl) (by kernel_rfl) (by kernel_rfl) (fun _ _ _ h => h) (Or.inl ⟨by rfl, ?_⟩) HSV ?_
  rotate_left
  · (intro wy hSw; go_simp; try with_reducible rfl)
  try simp only [Act.put]
  refine wpAnyE_take (i := 4) (v := ?_) rfl (by kernel_rfl) (by kernel_rfl) (by kernel_rfl) (by kernel_rfl) (fun _ _ _ h => h) (Or.inl ⟨by rfl, ?_⟩) HSV ?_
  rotate_left
  · (intro wy hSw; go_simp; try with_reducible rfl)
  try simp only [Act.put]
  refine wpAnyE_one (i := 1) (by kernel_rfl) rfl (fun K hK => ?_)
  go_simp
  refine hK _ _ HSV ?_
  try simp only [Act.put, List.setIfInBounds_toArray]
  refine wpAnyE_one (i := 2) (by kernel_rfl) rfl (fun K hK => ?_)
  refine step_call1_d (by rfl) (some 5) (by rfl) (.tmp 4) (by rfl) (.slice kA k.length kc) rfl (enters_of Tryz.func35 (by kernel_rfl) rfl) _ (HKR.out V HBV.out) ?_
  rintro e w1 ⟨A1, c1, rfl, ho1, hb1⟩
  refine ⟨_, rfl, ?_⟩
  have hS1 : w1.cell? ⟨w.heap.size, 3, none⟩ = some (.slice vA v.length vc) := (hb1.cell (p := ⟨w.heap.size, 3, none⟩) (by have := HZ.out; simp; omega)).trans HSV
  refine hK _ _ hS1 ?_
  try simp only [Act.put, List.setIfInBounds_toArray]
  refine wpAnyE_take (i := 6) (v := ?_) rfl (by kernel_rfl) (by kernel_rfl) (by kernel_rfl) (by kernel_rfl) (fun _ _ _ h => h) (Or.inl ⟨by rfl, ?_⟩) hS1 ?_
  rotate_left
  · (intro wy hSw; go_simp; try with_reducible rfl)
  try simp only [Act.put, List.setIfInBounds_toArray]
  refine wpAnyE_one (i := 5) (by kernel_rfl) rfl (fun K hK => ?_)
  refine step_call1_d (by rfl) (some 8) (by rfl) (.tmp 7) (by rfl) (.slice vA v.length vc) rfl (enters_of Tryz.func35 (by kernel_rfl) rfl) _ (HVR.out w1 (HBV.out.trans (hb1.mono HBV.out.size))) ?_
  rintro e w2 ⟨A2, c2, rfl, ho2, hb2⟩
  refine ⟨_, rfl, ?_⟩
  have hS2 : w2.cell? ⟨w.heap.size, 3, none⟩ = some (.slice vA v.length vc) := (hb2.cell (p := ⟨w.heap.size, 3, none⟩) (by have := HZ.out; have := hb1.size; simp; omega)).trans hS1
  refine hK _ _ hS2 ?_
  try simp only [Act.put]
  have hz1 := hb1.size
  have hz2 := hb2.size
  have hzV := HZ.out
  have HX02 : Hid (w2.heap[w.heap.size]? = some (.cells #[.slice kA k.length kc, .int .i64 seq, .bool del, .slice vA v.length vc] 83)) := Lib.hid ((hb2.block _ (by omega)).trans ((hb1.block _ (by omega)).trans HX0.out))
  have HX12 : Hid (w2.heap[w.heap.size + 1]? = some (.cells #[.slice none 0 0, .int .i64 0, .bool false, .slice none 0 0] 83)) := Lib.hid ((hb2.block _ (by omega)).trans ((hb1.block _ (by omega)).trans HX1.out))
  have HO1 : Hid (Own w2 w.heap.size 5 A1 c1 k) := Lib.hid ((ho1.below hb2).mono (by omega))
  have HO2 : Hid (Own w2 w.heap.size 5 A2 c2 v) := Lib.hid (ho2.mono (by omega))
  have HB2 : Hid (Below w.heap.size w w2) := Lib.hid ((HBV.out.trans (hb1.mono HBV.out.size)).trans (hb2.mono (by omega)))
  clear ho1 ho2 hb1 hb2 HSV c0 hzV
  have f0 := frozen_of_row w2 w.heap.size 0 _ _ HX02.out
  have d0 : w2.cell? ⟨w.heap.size, 0, none⟩ = some (.slice kA k.length kc) := by rw [cell_of_row w2 w.heap.size 0 _ _ (0, 0) HX02.out]; rfl
  refine wpAnyE_one (i := 7) (by kernel_rfl) rfl (fun K hK => ?_)
  go_simp
  have hx3 : (w2.setCell ⟨w.heap.size, 0, none⟩ (.slice A1 k.length c1)).heap[w.heap.size]? = some (.cells #[.slice A1 k.length c1, .int .i64 seq, .bool del, .slice vA v.length vc] 83) := by
    have := heap_setCell_same w2 w.heap.size 0 _ _ (.slice A1 k.length c1) HX02.out
    simpa using this
  have hS3 : (w2.setCell ⟨w.heap.size, 0, none⟩ (.slice A1 k.length c1)).cell? ⟨w.heap.size, 3, none⟩ = some (.slice vA v.length vc) := by rw [cell_of_row _ w.heap.size 3 _ _ (0, 0) hx3]; rfl
  refine hK _ _ hS3 ?_
  try simp only [Act.put, List.setIfInBounds_toArray]
  refine wpAnyE_one (i := 8) (by kernel_rfl) rfl (fun K hK => ?_)
  go_simp
  refine hK _ _ hS3 ?_
  try simp only [Act.put, List.setIfInBounds_toArray]
  have f3 := frozen_of_row _ w.heap.size 3 _ _ hx3
  refine wpAnyE_last (by kernel_rfl) (by kernel_rfl) rfl (fun K hK => ?_)
  go_simp
  refine hK _ _ ?_
  have hx4 : ((w2.setCell ⟨w.heap.size, 0, none⟩ (.slice A1 k.length c1)).setCell ⟨w.heap.size, 3, none⟩ (.slice A2 v.length c2)).heap[w.heap.size]? = some (.cells #[.slice A1 k.length c1, .int .i64 seq, .bool del, .slice A2 v.length c2] 83) := by
    have := heap_setCell_same _ w.heap.size 3 _ _ (.slice A2 v.length c2) hx3
    simpa using this
  have hx5 : ((w2.setCell ⟨w.heap.size, 0, none⟩ (.slice A1 k.length c1)).setCell ⟨w.heap.size, 3, none⟩ (.slice A2 v.length c2)).heap[w.heap.size + 1]? = some (.cells #[.slice none 0 0, .int .i64 0, .bool false, .slice none 0 0] 83) := by
    rw [heap_setD _ (by simp), heap_setD _ (by simp)]; exact HX12.out
  have HB4 : Hid (Below w.heap.size w ((w2.setCell ⟨w.heap.size, 0, none⟩ (.slice A1 k.length c1)).setCell ⟨w.heap.size, 3, none⟩ (.slice A2 v.length c2))) := Lib.hid ((HB2.out.setCell (Nat.le_refl _) _).setCell (Nat.le_refl _) _)
  have hnb : ∀ {A : Option Addr} {c : Nat} {l : List UInt8}, Own w2 w.heap.size 5 A c l → Own ((w2.setCell ⟨w.heap.size, 0, none⟩ (.slice A1 k.length c1)).setCell ⟨w.heap.size, 3, none⟩ (.slice A2 v.length c2)) w.heap.size 5 A c l := fun {A c l} ho => by
    have hne : blk A ≠ some w.heap.size := fun e => by
      obtain ⟨_, cs, fr, h1⟩ := own_tag ho e
      exact tag_ne2 h1 HX02.out (by decide) rfl
    exact (ho.cellput ⟨w.heap.size, 0, none⟩ _ hne).cellput ⟨w.heap.size, 3, none⟩ _ hne
  have HO1' := Lib.hid (hnb HO1.out)
  have HO2' := Lib.hid (hnb HO2.out)
  obtain ⟨W4, hW4⟩ : ∃ W4, (w2.setCell ⟨w.heap.size, 0, none⟩ (.slice A1 k.length c1)).setCell ⟨w.heap.size, 3, none⟩ (.slice A2 v.length c2) = W4 := ⟨_, rfl⟩
  rw [hW4] at hx4 hx5 HB4 HO1' HO2' ⊢
  have g0 := cell_of_row W4 w.heap.size 0 _ _ (0, 0) hx4
  have g1 := cell_of_row W4 w.heap.size 1 _ _ (0, 0) hx4
  have g2 := cell_of_row W4 w.heap.size 2 _ _ (0, 0) hx4
  have g3 := cell_of_row W4 w.heap.size 3 _ _ (0, 0) hx4
  have i0 := cell_of_row W4 (w.heap.size + 1) 0 _ _ (0, 0) hx5
  have i1 := cell_of_row W4 (w.heap.size + 1) 1 _ _ (0, 0) hx5
  have i2 := cell_of_row W4 (w.heap.size + 1) 2 _ _ (0, 0) hx5
  have i3 := cell_of_row W4 (w.heap.size + 1) 3 _ _ (0, 0) hx5
  have j0 := frozen_of_row W4 (w.heap.size + 1) 0 _ _ hx5
  have j1 := frozen_of_row W4 (w.heap.size + 1) 1 _ _ hx5
  have j2 := frozen_of_row W4 (w.heap.size + 1) 2 _ _ hx5
  have j3 := frozen_of_row W4 (w.heap.size + 1) 3 _ _ hx5
  simp only [List.getElem?_toArray, List.getElem?_cons_zero, List.getElem?_cons_succ] at g0 g1 g2 g3 i0 i1 i2 i3
  have HX5 := Lib.hid hx5
  clear hW4 hx3 hx4 hS3 hS2 hS1 f0 f3 d0 hnb hx5
  go_wp2_with fail
  obtain ⟨W5, hW5, hx6, HB5, HO15, HO25⟩ : ∃ W5, (((W4.setCell ⟨w.heap.size + 1, 0, none⟩ (.slice A1 k.length c1)).setCell ⟨w.heap.size + 1, 1, none⟩ (.int .i64 seq)).setCell ⟨w.heap.size + 1, 2, none⟩ (.bool del)).setCell ⟨w.heap.size + 1, 3, none⟩ (.slice A2 v.length c2) = W5 ∧
      W5.heap[w.heap.size + 1]? = some (.cells #[.slice A1 k.length c1, .int .i64 seq, .bool del, .slice A2 v.length c2] 83) ∧ Hid (Below w.heap.size w W5) ∧ Hid (Own W5 w.heap.size 5 A1 c1 k) ∧ Hid (Own W5 w.heap.size 5 A2 c2 v) := by
    have hnb : ∀ {A : Option Addr} {c : Nat} {l : List UInt8}, Own W4 w.heap.size 5 A c l → blk A ≠ some (w.heap.size + 1) := fun {A c l} ho e => by
      obtain ⟨_, cs, fr, h1⟩ := own_tag ho e
      exact tag_ne2 h1 HX5.out (by decide) rfl
    refine ⟨_, rfl, heap_set4 HX5.out, Lib.hid ((((HB4.out.setCell (by simp) _).setCell (by simp) _).setCell (by simp) _).setCell (by simp) _), Lib.hid ?_, Lib.hid ?_⟩
    · have h1 := hnb HO1'.out
      exact (((HO1'.out.cellput ⟨w.heap.size + 1, 0, none⟩ _ h1).cellput ⟨w.heap.size + 1, 1, none⟩ _ h1).cellput ⟨w.heap.size + 1, 2, none⟩ _ h1).cellput ⟨w.heap.size + 1, 3, none⟩ _ h1
    · have h1 := hnb HO2'.out
      exact (((HO2'.out.cellput ⟨w.heap.size + 1, 0, none⟩ _ h1).cellput ⟨w.heap.size + 1, 1, none⟩ _ h1).cellput ⟨w.heap.size + 1, 2, none⟩ _ h1).cellput ⟨w.heap.size + 1, 3, none⟩ _ h1
  rw [hW5]
  have e0 := cell_of_row W5 (w.heap.size + 1) 0 _ _ (0, 0) hx6
  have e1 := cell_of_row W5 (w.heap.size + 1) 1 _ _ (0, 0) hx6
  have e2 := cell_of_row W5 (w.heap.size + 1) 2 _ _ (0, 0) hx6
  have e3 := cell_of_row W5 (w.heap.size + 1) 3 _ _ (0, 0) hx6
  simp only [List.getElem?_toArray, List.getElem?_cons_zero, List.getElem?_cons_succ] at e0 e1 e2 e3
  exact bodyPost_ret (v := .agg #[.slice A1 k.length c1, .int .i64 seq, .bool del, .slice A2 v.length c2]) (by simp [results, Tryz.results56, go_sem, e0, e1, e2, e3]) rfl
    ⟨HB5.out, ⟨A1, c1, k, seq, del, A2, c2, v⟩, rfl, rfl, HO15.out, HO25.out⟩
set_option maxRecDepth 100000 in
theorem srightT_all (r : Rv) (w : World) : Calls Tryz.prog 109 #[r.val] w fun e w' => e = .returned (.bool (Tb.right r)) ∧ Below w.heap.size w w' := by
  obtain ⟨kA, kc, k, seq, del, vA, vc, v⟩ := r
  unfold Rv.val
  simp only
  obtain ⟨K, hK⟩ : ∃ K, K = k.length := ⟨_, rfl⟩
  obtain ⟨V, hV⟩ : ∃ V, V = v.length := ⟨_, rfl⟩
  have E : Hid (Tb.right ⟨kA, kc, k, seq, del, vA, vc, v⟩ = decide (1 ≤ K ∧ K ≤ 512 ∧ 1 ≤ seq ∧ seq ≤ 1099511627776 ∧ V ≤ 4096 ∧ (del = true → V = 0))) := Lib.hid (by rw [hK, hV]; rfl)
  rw [← hK]
  rw [← hV]
  clear hK hV
  cases del with
  | true =>
    go_enter Tryz.func109, Tryz.ntmps109
    go_wp2_with fail
    all_goals (go_ret; refine ⟨?_, (Below.refl _ _).alloc (Nat.le_refl _) _⟩; rw [E.out]; refine ret_bb ?_; rw [Bool.eq_iff_iff]; simp; omega)
  | false =>
    go_enter Tryz.func109, Tryz.ntmps109
    go_wp2_with fail
    all_goals (go_ret; refine ⟨?_, (Below.refl _ _).alloc (Nat.le_refl _) _⟩; rw [E.out]; refine ret_bb ?_; rw [Bool.eq_iff_iff]; simp; omega)
/-- How many levels a draw gives: some. -/
def LevQ (e : Ending) : Prop := ∃ n : Nat, e = .returned (.int .i64 (n : Int)) ∧ 1 ≤ n ∧ n ≤ 12
set_option maxRecDepth 100000 in
theorem levels_any (x : Int) (hx0 : 0 ≤ x) (hx1 : x ≤ 100000) (w : World) : Calls Tryz.prog 111 #[.int .i64 x] w fun e w' => LevQ e ∧ w = w' := by
  go_enter Tryz.func111, Tryz.ntmps111
  go_wp2_with fail
  go_loop [0, 3] (fun d n => ∃ (y : Int) (k : Nat), 0 ≤ y ∧ y ≤ 100000 ∧ d = .int .i64 y ∧ n = .int .i64 (k : Int) ∧ 1 ≤ k ∧ k ≤ 12) (fun _ n => 12 - (intOf n).toNat)
  case atStart => exact ⟨x, 1, hx0, hx1, rfl, rfl, by omega, by omega⟩
  case round =>
    obtain ⟨y, k, hy0, hy1, rfl, rfl, hk1, hk2⟩ := hrel
    obtain ⟨b, hb⟩ : ∃ b, bits .and .i64 y 3 = b := ⟨_, rfl⟩
    by_cases hb0 : b = 0
    · have d1 : (b == 0) = true := by simpa using hb0
      by_cases hk : (k : Int) < 12
      · go_wp2_with fail
        exact ⟨⟨y / 4, k + 1, by omega, by omega, rfl, by simp, by omega, by omega⟩, by simp [intOf]; omega⟩
      · go_wp2_with fail
        go_ret
        exact ⟨⟨k, rfl, hk1, hk2⟩, rfl⟩
    · have d1 : (b == 0) = false := by simpa using hb0
      go_wp2_with fail
      go_ret
      exact ⟨⟨k, rfl, hk1, hk2⟩, rfl⟩
set_option maxHeartbeats 1000000 in
set_option maxRecDepth 100000 in
theorem sorder_any (g : Nat) (kA : Option Addr) (kc : Nat) (k : List UInt8) (s : Int) (qA : Option Addr) (qc : Nat) (q : List UInt8) (seq : Int) (w : World) (h0 : w.cell? ⟨g, 0, none⟩ = some (.slice kA k.length kc)) (h1 : w.cell? ⟨g, 1, none⟩ = some (.int .i64 s)) (_ : g < w.heap.size)
    (hk : RdB w w.heap.size kA k) (hq : RdB w w.heap.size qA q) :
    Calls Tryz.prog 110 #[.pointer (some ⟨g, 0, none⟩), .slice qA q.length qc, .int .i64 seq] w fun e w' => e = .returned (.int .i64 (Tb.orI [Lib.compareBytes k q, Tb.cmpI seq s])) ∧ Below w.heap.size w w' := by
  have C1 : Hid (∀ wx, Below w.heap.size w wx → Calls Tryz.prog 87 #[.slice kA k.length kc, .slice qA q.length qc] wx fun e w' => e = .returned (.int .i64 (Lib.compareBytes k q)) ∧ w' = wx) := Lib.hid (fun wx hbx => (bcmp_any w.heap.size kA kc k w.heap.size qA qc q wx (hk.below hbx (Nat.le_refl _)) (hq.below hbx (Nat.le_refl _))).mono (fun _ _ h => ⟨h.1, h.2.symm⟩))
  have C2 : Hid (∀ w, Calls Tryz.prog 176 #[.int .i64 seq, .int .i64 s] w fun e w' => e = .returned (.int .i64 (Tb.cmpI seq s)) ∧ w' = w) := Lib.hid (fun w => (cmpT_any seq s w).mono (fun _ _ h => ⟨h.1, h.2.symm⟩))
  obtain ⟨x, hx⟩ : ∃ x, x = Lib.compareBytes k q := ⟨_, rfl⟩
  obtain ⟨y, hy⟩ : ∃ y, y = Tb.cmpI seq s := ⟨_, rfl⟩
  rw [← hx] at C1 ⊢; rw [← hy] at C2 ⊢
  clear hx hy hk hq
  go_enter Tryz.func110, Tryz.ntmps110
  go_wp2_with fail
  obtain ⟨W, hW, f0, f1, HBW⟩ : ∃ W : World, w.drew = W ∧ W.cell? ⟨g, 0, none⟩ = some (.slice kA k.length kc) ∧ W.cell? ⟨g, 1, none⟩ = some (.int .i64 s) ∧ Hid (Below w.heap.size w W) := ⟨_, rfl, h0, h1, Lib.hid (Below.refl _ _).drew⟩
  clear h0 h1
  refine region_still_tail 14 (by kernel_rfl) (by kernel_rfl) hW ?_
  simp only [List.take_succ_cons, List.take_zero, List.drop_succ_cons, List.drop_zero]
  have HW := Lib.hid hW
  clear hW
  repeat still_step
  still_call (C1.out _ HBW.out)
  repeat still_step
  still_call (C2.out _)
  repeat still_step
  refine wpStill_nil ?_
  go_wp2_with fail
  have HO := Lib.hid (orT_any W.heap.size 2 [x, y] (by simp) (W.alloc (.cells #[.int .i64 x, .int .i64 y] 3)) (fun k hk => by
    match k, hk with
    | 0, _ => simp
    | 1, _ => simp))
  refine HO.out.mono ?_
  rintro e w' ⟨rfl, rfl⟩
  go_wp2_with fail
  go_ret
  exact ⟨rfl, HBW.out.alloc HBW.out.size _⟩
end Go.Proofs.YtekbdedpombgcaaGreatDoor

namespace Go.Proofs.YtekbdedpombgcaaGreatDoor
open Go.RowKit

/-- No two nodes share a block. -/
theorem SkAt.gne {base : Nat} {hd : Nd} {l : List Nd} {f : Nat → Nat → Option Nat} {w : World} (h : SkAt base hd l f w) : ∀ i j (hi : i < (hd :: l).length) (hj : j < (hd :: l).length), ((hd :: l)[i]).g = ((hd :: l)[j]).g → i = j := by
  obtain ⟨hg, hs, e⟩ := h.list
  have hh : ∀ i (hi : i < l.length), (l[i]).g ≠ hd.g := fun i hi e2 => by
    have := (h.node _ (List.getElem_mem hi)).2.1
    rw [e2, e] at this
    have := Option.some.inj this
    injection this with _ t
    exact absurd t (by decide)
  intro i j hi hj e2
  cases i with
  | zero =>
    cases j with
    | zero => rfl
    | succ j => exact absurd e2.symm (hh j (by simpa using hj))
  | succ i =>
    cases j with
    | zero => exact absurd e2 (hh i (by simpa using hi))
    | succ j =>
      have hi2 : i < l.length := by simpa using hi
      have hj2 : j < l.length := by simpa using hj
      have e3 : (l[i]).g = (l[j]).g := e2
      have h1 := (h.node _ (List.getElem_mem hi2)).2.1
      have h2 := (h.node _ (List.getElem_mem hj2)).2.1
      rw [e3, h2] at h1
      have h1 := Option.some.inj h1
      injection h1 with h1 _
      have h3 := congrArg (fun a => a[4]?) h1
      simp at h3
      have h4 : ((hd :: l).map Nd.nb)[i + 1]'(by simpa using hi) = ((hd :: l).map Nd.nb)[j + 1]'(by simpa using hj) := by
        simp [h3.1]
      exact (List.getElem_inj h.nd).1 h4
/-- What a walk reads at a node: its row, and who is next. -/
theorem SkAt.look {base : Nat} {hd : Nd} {l : List Nd} {f : Nat → Nat → Option Nat} {w : World} (h : SkAt base hd l f w) (p : Nat) (hp : p < (hd :: l).length) : w.cell? ⟨((hd :: l)[p]).g, 4, none⟩ = some (.slice (some ⟨((hd :: l)[p]).nb, 0, none⟩) ((hd :: l)[p]).h ((hd :: l)[p]).h) ∧
    (∀ lv, lv < ((hd :: l)[p]).h → w.cell? ⟨((hd :: l)[p]).nb, lv, none⟩ = some (ptrV (f p lv))) ∧ ((hd :: l)[p]).g < w.heap.size ∧ ((hd :: l)[p]).nb < w.heap.size := by
  obtain ⟨_, cs, h1, h2, h3⟩ := h.rows p hp
  have h4 : ∀ lv, lv < ((hd :: l)[p]).h → w.cell? ⟨((hd :: l)[p]).nb, lv, none⟩ = some (ptrV (f p lv)) := fun lv hlv => by
    have e := cell_of_row w ((hd :: l)[p]).nb lv cs _ (0, 0) h1
    rw [e, h3 lv hlv]
  cases p with
  | zero =>
    obtain ⟨hg, hs, e⟩ := h.list
    refine ⟨?_, h4, (Array.getElem?_eq_some_iff.1 e).1, (Array.getElem?_eq_some_iff.1 h1).1⟩
    have := cell_of_row w hd.g 4 _ _ (0, 0) e
    simp only [List.getElem?_toArray, List.getElem?_cons_zero, List.getElem?_cons_succ] at this
    simpa [h.h12] using this
  | succ p =>
    have hp2 : p < l.length := by simpa using hp
    have e := (h.node _ (List.getElem_mem hp2)).2.1
    refine ⟨?_, h4, (Array.getElem?_eq_some_iff.1 e).1, (Array.getElem?_eq_some_iff.1 h1).1⟩
    have := cell_of_row w (l[p]).g 4 _ _ (0, 0) e
    simp only [List.getElem?_toArray, List.getElem?_cons_zero, List.getElem?_cons_succ] at this
    exact this
/-- Where a node stands. -/
def Sk.at_ (hd : Nd) (l : List Nd) : Value → Nat
  | .pointer (some a) => (hd :: l).findIdx (fun d => d.g == a.block)
  | _ => 0
theorem SkAt.at_ {base : Nat} {hd : Nd} {l : List Nd} {f : Nat → Nat → Option Nat} {w : World} (h : SkAt base hd l f w) (i : Nat) (hi : i < (hd :: l).length) : Sk.at_ hd l (.pointer (some ⟨((hd :: l)[i]).g, 0, none⟩)) = i := by
  unfold Sk.at_
  simp only
  rw [List.findIdx_eq hi]
  refine ⟨by simp, fun j hj => ?_⟩
  simp only [beq_eq_false_iff_ne, ne_eq]
  intro e
  have := h.gne j i (by omega) hi e
  omega
/-- What lies in the row of the last ones. -/
structure OutQ (hd : Nd) (l : List Nd) (P : Nat) (from_ : Nat) (o : Nat → Nat) (cs : Array Value) : Prop where
  size : cs.size = 12
  cell : ∀ lv, from_ ≤ lv → lv < 12 → ∃ h : o lv < (hd :: l).length, cs[lv]? = some (.pointer (some ⟨((hd :: l)[o lv]).g, 0, none⟩)) ∧ o lv ≤ P ∧ lv < ((hd :: l)[o lv]).h ∧ ∀ m (hm : m < l.length), o lv ≤ m → m < P → l[m].h ≤ lv
theorem arr12 (a : Array Value) (h : a.size = 12) : ∃ x0 x1 x2 x3 x4 x5 x6 x7 x8 x9 x10 x11, a = #[x0, x1, x2, x3, x4, x5, x6, x7, x8, x9, x10, x11] := by
  obtain ⟨a⟩ := a
  have h : a.length = 12 := h
  match a, h with
  | [x0, x1, x2, x3, x4, x5, x6, x7, x8, x9, x10, x11], _ => exact ⟨x0, x1, x2, x3, x4, x5, x6, x7, x8, x9, x10, x11, rfl⟩
set_option maxRecDepth 100000 in
theorem heap_set12 {w : World} {g : Nat} {x0 x1 x2 x3 x4 x5 x6 x7 x8 x9 x10 x11 y0 y1 y2 y3 y4 y5 y6 y7 y8 y9 y10 y11 : Value} {T : TypeId} (h : w.heap[g]? = some (.cells #[y0, y1, y2, y3, y4, y5, y6, y7, y8, y9, y10, y11] T)) : ((((((((((((w.setCell ⟨g, 0, none⟩ x0).setCell ⟨g, 1, none⟩ x1).setCell ⟨g, 2, none⟩ x2).setCell ⟨g, 3, none⟩ x3).setCell ⟨g, 4, none⟩ x4).setCell ⟨g, 5, none⟩ x5).setCell ⟨g, 6, none⟩ x6).setCell ⟨g, 7, none⟩ x7).setCell ⟨g, 8, none⟩ x8).setCell ⟨g, 9, none⟩ x9).setCell ⟨g, 10, none⟩ x10).setCell ⟨g, 11, none⟩ x11).heap[g]? = some (.cells #[x0, x1, x2, x3, x4, x5, x6, x7, x8, x9, x10, x11] T) := by
  have h0 := heap_setCell_same w g 0 _ T x0 h
  have h1 := heap_setCell_same _ g 1 _ T x1 h0
  have h2 := heap_setCell_same _ g 2 _ T x2 h1
  have h3 := heap_setCell_same _ g 3 _ T x3 h2
  have h4 := heap_setCell_same _ g 4 _ T x4 h3
  have h5 := heap_setCell_same _ g 5 _ T x5 h4
  have h6 := heap_setCell_same _ g 6 _ T x6 h5
  have h7 := heap_setCell_same _ g 7 _ T x7 h6
  have h8 := heap_setCell_same _ g 8 _ T x8 h7
  have h9 := heap_setCell_same _ g 9 _ T x9 h8
  have h10 := heap_setCell_same _ g 10 _ T x10 h9
  have h11 := heap_setCell_same _ g 11 _ T x11 h10
  simpa using h11
set_option maxHeartbeats 2000000 in
set_option maxRecDepth 100000 in
theorem behind_any (base : Nat) (hd : Nd) (l : List Nd) (qA : Option Addr) (qc : Nat) (q : List UInt8) (seq : Int) (P : Nat) (w : World) (h : SkAt base hd l (Sk.F l) w) (hq : RdB w w.heap.size qA q)
    (hs : ∀ i (hi : i < l.length), (Tb.orI [Lib.compareBytes l[i].r.k q, Tb.cmpI seq l[i].r.seq] < 0) ↔ i < P) :
    Calls Tryz.prog 55 #[.pointer (some ⟨hd.g, 0, none⟩), .slice qA q.length qc, .int .i64 seq] w fun e w' => ∃ o cs, e = .returned (.agg cs) ∧ OutQ hd l P 0 o cs ∧ Below w.heap.size w w' := by
  have hgz : hd.g < w.heap.size := by
    obtain ⟨a, b, e⟩ := h.list
    exact (Array.getElem?_eq_some_iff.1 e).1
  have H := Lib.hid h
  have HQ := Lib.hid hq
  have HS := Lib.hid hs
  clear hs h hq
  go_enter Tryz.func55, Tryz.ntmps55
  go_wp2_with fail
  go_loopw [8, 9] (fun a lv wr => ∃ (n p : Nat) (hp : p < (hd :: l).length) (o : Nat → Nat) (cs : Array Value), n ≤ 12 ∧ lv = .int .i64 ((n : Int) - 1) ∧ a = .pointer (some ⟨((hd :: l)[p]).g, 0, none⟩) ∧ Hid (p ≤ P) ∧ Hid (n ≤ ((hd :: l)[p]).h) ∧ Hid (OutQ hd l P n o cs) ∧ Hid (Below w.heap.size w wr) ∧ Hid (wr.heap[w.heap.size + 1]? = some (.cells cs 162)) ∧ Hid (∃ c0 : Array Value, c0.size = 12 ∧ wr.heap[w.heap.size]? = some (.cells c0 162))) (fun _ lv _ => (intOf lv + 1).toNat)
  case atStart =>
    refine ⟨12, 0, by simp, fun _ => 0, #[.pointer none, .pointer none, .pointer none, .pointer none, .pointer none, .pointer none, .pointer none, .pointer none, .pointer none, .pointer none, .pointer none, .pointer none], by omega, rfl, rfl, Lib.hid (Nat.zero_le _), Lib.hid (by simp [H.out.h12]), Lib.hid ⟨by rfl, fun lv h1 h2 => absurd h1 (by omega)⟩, Lib.hid (below_al2 w _ _), Lib.hid ?_, Lib.hid ⟨_, rfl, (((Below.refl _ _).alloc (Nat.le_refl _) _).block _ (by simp)).trans (heap_alloc_new w _)⟩⟩
    have h1 := heap_alloc_new (w.alloc (.cells #[.pointer none, .pointer none, .pointer none, .pointer none, .pointer none, .pointer none, .pointer none, .pointer none, .pointer none, .pointer none, .pointer none, .pointer none] 162)) (.cells #[.pointer none, .pointer none, .pointer none, .pointer none, .pointer none, .pointer none, .pointer none, .pointer none, .pointer none, .pointer none, .pointer none, .pointer none] 162)
    rw [show (w.alloc (.cells #[.pointer none, .pointer none, .pointer none, .pointer none, .pointer none, .pointer none, .pointer none, .pointer none, .pointer none, .pointer none, .pointer none, .pointer none] 162)).heap.size = w.heap.size + 1 by simp] at h1
    exact h1
  case round =>
    obtain ⟨n, p, hp, o, cs, hn, rfl, rfl, HP, HH, HO, HB, HC, HC0⟩ := hrel
    by_cases hn0 : n = 0
    · subst hn0
      have e1 : ((0 : Nat) : Int) - 1 = -1 := by omega
      rw [e1]
      obtain ⟨x0, x1, x2, x3, x4, x5, x6, x7, x8, x9, x10, x11, rfl⟩ := arr12 cs HO.out.size
      obtain ⟨p0, rfl⟩ : ∃ p, x0 = .pointer p := by
        obtain ⟨_, e, _⟩ := HO.out.cell 0 (by omega) (by omega)
        exact ⟨_, Option.some.inj e⟩
      obtain ⟨p1, rfl⟩ : ∃ p, x1 = .pointer p := by
        obtain ⟨_, e, _⟩ := HO.out.cell 1 (by omega) (by omega)
        exact ⟨_, Option.some.inj e⟩
      obtain ⟨p2, rfl⟩ : ∃ p, x2 = .pointer p := by
        obtain ⟨_, e, _⟩ := HO.out.cell 2 (by omega) (by omega)
        exact ⟨_, Option.some.inj e⟩
      obtain ⟨p3, rfl⟩ : ∃ p, x3 = .pointer p := by
        obtain ⟨_, e, _⟩ := HO.out.cell 3 (by omega) (by omega)
        exact ⟨_, Option.some.inj e⟩
      obtain ⟨p4, rfl⟩ : ∃ p, x4 = .pointer p := by
        obtain ⟨_, e, _⟩ := HO.out.cell 4 (by omega) (by omega)
        exact ⟨_, Option.some.inj e⟩
      obtain ⟨p5, rfl⟩ : ∃ p, x5 = .pointer p := by
        obtain ⟨_, e, _⟩ := HO.out.cell 5 (by omega) (by omega)
        exact ⟨_, Option.some.inj e⟩
      obtain ⟨p6, rfl⟩ : ∃ p, x6 = .pointer p := by
        obtain ⟨_, e, _⟩ := HO.out.cell 6 (by omega) (by omega)
        exact ⟨_, Option.some.inj e⟩
      obtain ⟨p7, rfl⟩ : ∃ p, x7 = .pointer p := by
        obtain ⟨_, e, _⟩ := HO.out.cell 7 (by omega) (by omega)
        exact ⟨_, Option.some.inj e⟩
      obtain ⟨p8, rfl⟩ : ∃ p, x8 = .pointer p := by
        obtain ⟨_, e, _⟩ := HO.out.cell 8 (by omega) (by omega)
        exact ⟨_, Option.some.inj e⟩
      obtain ⟨p9, rfl⟩ : ∃ p, x9 = .pointer p := by
        obtain ⟨_, e, _⟩ := HO.out.cell 9 (by omega) (by omega)
        exact ⟨_, Option.some.inj e⟩
      obtain ⟨p10, rfl⟩ : ∃ p, x10 = .pointer p := by
        obtain ⟨_, e, _⟩ := HO.out.cell 10 (by omega) (by omega)
        exact ⟨_, Option.some.inj e⟩
      obtain ⟨p11, rfl⟩ : ∃ p, x11 = .pointer p := by
        obtain ⟨_, e, _⟩ := HO.out.cell 11 (by omega) (by omega)
        exact ⟨_, Option.some.inj e⟩
      obtain ⟨c0, hc0, hC0⟩ := HC0.out
      obtain ⟨y0, y1, y2, y3, y4, y5, y6, y7, y8, y9, y10, y11, rfl⟩ := arr12 c0 hc0
      have k0 := cell_of_row wr (w.heap.size + 1) 0 _ _ (0, 0) HC.out
      have k1 := cell_of_row wr (w.heap.size + 1) 1 _ _ (0, 0) HC.out
      have k2 := cell_of_row wr (w.heap.size + 1) 2 _ _ (0, 0) HC.out
      have k3 := cell_of_row wr (w.heap.size + 1) 3 _ _ (0, 0) HC.out
      have k4 := cell_of_row wr (w.heap.size + 1) 4 _ _ (0, 0) HC.out
      have k5 := cell_of_row wr (w.heap.size + 1) 5 _ _ (0, 0) HC.out
      have k6 := cell_of_row wr (w.heap.size + 1) 6 _ _ (0, 0) HC.out
      have k7 := cell_of_row wr (w.heap.size + 1) 7 _ _ (0, 0) HC.out
      have k8 := cell_of_row wr (w.heap.size + 1) 8 _ _ (0, 0) HC.out
      have k9 := cell_of_row wr (w.heap.size + 1) 9 _ _ (0, 0) HC.out
      have k10 := cell_of_row wr (w.heap.size + 1) 10 _ _ (0, 0) HC.out
      have k11 := cell_of_row wr (w.heap.size + 1) 11 _ _ (0, 0) HC.out
      have j0 := frozen_of_row wr w.heap.size 0 _ _ hC0
      have j1 := frozen_of_row wr w.heap.size 1 _ _ hC0
      have j2 := frozen_of_row wr w.heap.size 2 _ _ hC0
      have j3 := frozen_of_row wr w.heap.size 3 _ _ hC0
      have j4 := frozen_of_row wr w.heap.size 4 _ _ hC0
      have j5 := frozen_of_row wr w.heap.size 5 _ _ hC0
      have j6 := frozen_of_row wr w.heap.size 6 _ _ hC0
      have j7 := frozen_of_row wr w.heap.size 7 _ _ hC0
      have j8 := frozen_of_row wr w.heap.size 8 _ _ hC0
      have j9 := frozen_of_row wr w.heap.size 9 _ _ hC0
      have j10 := frozen_of_row wr w.heap.size 10 _ _ hC0
      have j11 := frozen_of_row wr w.heap.size 11 _ _ hC0
      have i0 := cell_of_row wr w.heap.size 0 _ _ (0, 0) hC0
      have i1 := cell_of_row wr w.heap.size 1 _ _ (0, 0) hC0
      have i2 := cell_of_row wr w.heap.size 2 _ _ (0, 0) hC0
      have i3 := cell_of_row wr w.heap.size 3 _ _ (0, 0) hC0
      have i4 := cell_of_row wr w.heap.size 4 _ _ (0, 0) hC0
      have i5 := cell_of_row wr w.heap.size 5 _ _ (0, 0) hC0
      have i6 := cell_of_row wr w.heap.size 6 _ _ (0, 0) hC0
      have i7 := cell_of_row wr w.heap.size 7 _ _ (0, 0) hC0
      have i8 := cell_of_row wr w.heap.size 8 _ _ (0, 0) hC0
      have i9 := cell_of_row wr w.heap.size 9 _ _ (0, 0) hC0
      have i10 := cell_of_row wr w.heap.size 10 _ _ (0, 0) hC0
      have i11 := cell_of_row wr w.heap.size 11 _ _ (0, 0) hC0
      simp only [List.getElem?_toArray, List.getElem?_cons_zero, List.getElem?_cons_succ] at i0 i1 i2 i3 i4 i5 i6 i7 i8 i9 i10 i11 k0 k1 k2 k3 k4 k5 k6 k7 k8 k9 k10 k11
      have HCC := Lib.hid hC0
      clear hC0 HC0
      go_wp2_with fail
      obtain ⟨V, hV, hx, HBV⟩ : ∃ V, ((((((((((((wr.setCell ⟨w.heap.size, 0, none⟩ (.pointer p0)).setCell ⟨w.heap.size, 1, none⟩ (.pointer p1)).setCell ⟨w.heap.size, 2, none⟩ (.pointer p2)).setCell ⟨w.heap.size, 3, none⟩ (.pointer p3)).setCell ⟨w.heap.size, 4, none⟩ (.pointer p4)).setCell ⟨w.heap.size, 5, none⟩ (.pointer p5)).setCell ⟨w.heap.size, 6, none⟩ (.pointer p6)).setCell ⟨w.heap.size, 7, none⟩ (.pointer p7)).setCell ⟨w.heap.size, 8, none⟩ (.pointer p8)).setCell ⟨w.heap.size, 9, none⟩ (.pointer p9)).setCell ⟨w.heap.size, 10, none⟩ (.pointer p10)).setCell ⟨w.heap.size, 11, none⟩ (.pointer p11)) = V ∧ V.heap[w.heap.size]? = some (.cells #[(.pointer p0), (.pointer p1), (.pointer p2), (.pointer p3), (.pointer p4), (.pointer p5), (.pointer p6), (.pointer p7), (.pointer p8), (.pointer p9), (.pointer p10), (.pointer p11)] 162) ∧ Hid (Below w.heap.size w V) := ⟨_, rfl, heap_set12 HCC.out, Lib.hid (((((((((((((HB.out.setCell (Nat.le_refl _) _).setCell (Nat.le_refl _) _).setCell (Nat.le_refl _) _).setCell (Nat.le_refl _) _).setCell (Nat.le_refl _) _).setCell (Nat.le_refl _) _).setCell (Nat.le_refl _) _).setCell (Nat.le_refl _) _).setCell (Nat.le_refl _) _).setCell (Nat.le_refl _) _).setCell (Nat.le_refl _) _).setCell (Nat.le_refl _) _))⟩
      rw [hV]
      have m0 := cell_of_row V w.heap.size 0 _ _ (0, 0) hx
      have m1 := cell_of_row V w.heap.size 1 _ _ (0, 0) hx
      have m2 := cell_of_row V w.heap.size 2 _ _ (0, 0) hx
      have m3 := cell_of_row V w.heap.size 3 _ _ (0, 0) hx
      have m4 := cell_of_row V w.heap.size 4 _ _ (0, 0) hx
      have m5 := cell_of_row V w.heap.size 5 _ _ (0, 0) hx
      have m6 := cell_of_row V w.heap.size 6 _ _ (0, 0) hx
      have m7 := cell_of_row V w.heap.size 7 _ _ (0, 0) hx
      have m8 := cell_of_row V w.heap.size 8 _ _ (0, 0) hx
      have m9 := cell_of_row V w.heap.size 9 _ _ (0, 0) hx
      have m10 := cell_of_row V w.heap.size 10 _ _ (0, 0) hx
      have m11 := cell_of_row V w.heap.size 11 _ _ (0, 0) hx
      simp only [List.getElem?_toArray, List.getElem?_cons_zero, List.getElem?_cons_succ] at m0 m1 m2 m3 m4 m5 m6 m7 m8 m9 m10 m11
      exact bodyPost_ret (v := .agg #[(.pointer p0), (.pointer p1), (.pointer p2), (.pointer p3), (.pointer p4), (.pointer p5), (.pointer p6), (.pointer p7), (.pointer p8), (.pointer p9), (.pointer p10), (.pointer p11)]) (by simp [results, Tryz.results55, go_sem, m0, m1, m2, m3, m4, m5, m6, m7, m8, m9, m10, m11]) rfl ⟨o, _, rfl, HO.out, HBV.out⟩
    · obtain ⟨v, rfl⟩ : ∃ v, n = v + 1 := ⟨n - 1, by omega⟩
      obtain ⟨x4, xr, hgz2, hnz2⟩ := (H.out.call HB.out).look p hp
      have xv := xr v (by have := HH.out; omega)
      obtain ⟨g, hg⟩ : ∃ g, g = ((hd :: l)[p]).g := ⟨_, rfl⟩
      obtain ⟨nb, hnb⟩ : ∃ nb, nb = ((hd :: l)[p]).nb := ⟨_, rfl⟩
      obtain ⟨hh, hhh⟩ : ∃ hh, hh = ((hd :: l)[p]).h := ⟨_, rfl⟩
      have hvh : v < hh := by rw [hhh]; have := HH.out; omega
      rw [← hg] at x4 ⊢
      rw [← hnb] at x4 xv
      rw [← hhh] at x4
      have HG := Lib.hid hg
      have HNB := Lib.hid hnb
      have HHH := Lib.hid hhh
      obtain ⟨v0, hv0⟩ : ∃ v0, v0 = ptrV (Sk.F l p v) := ⟨_, rfl⟩
      rw [← hv0] at xv
      have HV0 := Lib.hid hv0
      clear hg hnb hhh xr hv0
      have e1 : ((v + 1 : Nat) : Int) - 1 = (v : Int) := by omega
      rw [e1]
      go_wp2_with fail
      go_loopw [8, 10] (fun a nx wx => ∃ (p2 : Nat) (hp2 : p2 < (hd :: l).length), a = .pointer (some ⟨((hd :: l)[p2]).g, 0, none⟩) ∧ nx = ptrV (Sk.F l p2 v) ∧ Hid (p2 ≤ P) ∧ Hid (v < ((hd :: l)[p2]).h) ∧ Hid (Below w.heap.size w wx) ∧ Hid (wx.heap[w.heap.size + 1]? = some (.cells cs 162)) ∧ Hid (∃ c0 : Array Value, c0.size = 12 ∧ wx.heap[w.heap.size]? = some (.cells c0 162))) (fun a _ _ => P - Sk.at_ hd l a)
      case atStart =>
        exact ⟨p, hp, by rw [HG.out], HV0.out, HP, Lib.hid (by have := HH.out; omega), HB, HC, HC0⟩
      case round =>
        clear x4 xv HG HNB HHH hgz2 hnz2 HV0
        obtain ⟨p2, hp2, rfl, rfl, HP2, HV2, HB2, HC2, HC02⟩ := hrel
        have hvs : v < cs.size := by rw [HO.out.size]; omega
        have ST : Hid (∀ wy, Below w.heap.size w wy → Hid (wy.heap[w.heap.size + 1]? = some (.cells cs 162)) → Hid (∃ c0 : Array Value, c0.size = 12 ∧ wy.heap[w.heap.size]? = some (.cells c0 162)) →
            (wy.cell? ⟨w.heap.size + 1, v, none⟩ = some cs[v] ∧ wy.frozen? ⟨w.heap.size + 1, v, none⟩ = false) ∧
            Hid ((wy.setCell ⟨w.heap.size + 1, v, none⟩ (.pointer (some ⟨((hd :: l)[p2]).g, 0, none⟩))).heap[w.heap.size + 1]? = some (.cells (cs.setIfInBounds v (.pointer (some ⟨((hd :: l)[p2]).g, 0, none⟩))) 162)) ∧
            Hid (∃ c0 : Array Value, c0.size = 12 ∧ (wy.setCell ⟨w.heap.size + 1, v, none⟩ (.pointer (some ⟨((hd :: l)[p2]).g, 0, none⟩))).heap[w.heap.size]? = some (.cells c0 162)) ∧
            Hid (Below w.heap.size w (wy.setCell ⟨w.heap.size + 1, v, none⟩ (.pointer (some ⟨((hd :: l)[p2]).g, 0, none⟩))))) := Lib.hid (fun wy hb hc hc0 => by
          refine ⟨⟨?_, frozen_of_row wy _ v _ _ hc.out⟩, Lib.hid (heap_setCell_same wy _ v _ _ _ hc.out), Lib.hid ?_, Lib.hid (hb.setCell (by simp) _)⟩
          · rw [cell_of_row wy _ v _ _ (0, 0) hc.out, Array.getElem?_eq_getElem hvs]
          · obtain ⟨c0, h1, h2⟩ := hc0.out
            exact ⟨c0, h1, by rw [heap_setD _ (by simp)]; exact h2⟩)
        have OQ : Hid ((∀ m (hm : m < l.length), p2 ≤ m → m < P → l[m].h ≤ v) → OutQ hd l P v (fun lv => if lv = v then p2 else o lv) (cs.setIfInBounds v (.pointer (some ⟨((hd :: l)[p2]).g, 0, none⟩)))) := Lib.hid (fun hm => by
          refine ⟨by simpa using HO.out.size, fun lv h1 h2 => ?_⟩
          by_cases e : lv = v
          · subst e
            simp only [if_true]
            exact ⟨hp2, by rw [Array.getElem?_setIfInBounds_self_of_lt hvs], HP2.out, HV2.out, hm⟩
          · obtain ⟨ha, hb, hc⟩ := HO.out.cell lv (by omega) h2
            simp only [if_neg e]
            exact ⟨ha, by rw [Array.getElem?_setIfInBounds_ne (by omega)]; exact hb, hc⟩)
        cases hF : Sk.F l p2 v with
        | none =>
          simp only [ptrV]
          obtain ⟨⟨s1, s2⟩, s3, s4, s5⟩ := ST.out wr HB2.out HC2 HC02
          have HN := Lib.hid (Sk.F_none hF)
          clear hF
          go_wp2_with fail
          exact ⟨⟨v, p2, hp2, _, _, by omega, rfl, rfl, HP2, Lib.hid (by have := HV2.out; omega), Lib.hid (OQ.out (fun m hm h1 _ => HN.out m hm h1)), s5, s3, s4⟩, by simp [intOf]⟩
        | some g2 =>
          simp only [ptrV]
          obtain ⟨qn, hpq, hqn, rfl, hv2, hbt⟩ := Sk.F_some hF
          have HN := Lib.hid (H.out.call HB2.out)
          obtain ⟨hn1, hn2, hn3, _, hn5, _⟩ := HN.out.node _ (List.getElem_mem hqn)
          have hgw := (Array.getElem?_eq_some_iff.1 hn2).1
          have y0 := cell_of_row wr (l[qn]).g 0 _ _ (0, 0) hn2
          have y1 := cell_of_row wr (l[qn]).g 1 _ _ (0, 0) hn2
          simp only [List.getElem?_toArray, List.getElem?_cons_zero, List.getElem?_cons_succ] at y0 y1
          have HCALL := Lib.hid (sorder_any (l[qn]).g (l[qn]).r.kA (l[qn]).r.kc (l[qn]).r.k (l[qn]).r.seq qA qc q seq wr y0 y1 hgw hn3.rd (HQ.out.below HB2.out (Nat.le_refl _) |>.more HB2.out.size))
          have HSG := HS.out qn hqn
          obtain ⟨z, hz⟩ : ∃ z, z = Tb.orI [Lib.compareBytes l[qn].r.k q, Tb.cmpI seq l[qn].r.seq] := ⟨_, rfl⟩
          rw [← hz] at HCALL HSG
          clear hz y0 y1 hn2 hn3 hn5 hF
          have HB := Lib.hid hbt
          clear hbt
          go_wp2_with fail
          refine HCALL.out.mono ?_
          rintro e w1 ⟨rfl, hb1⟩
          have HB1 : Hid (Below w.heap.size w w1) := Lib.hid (HB2.out.trans (hb1.mono HB2.out.size))
          have HC1 : Hid (w1.heap[w.heap.size + 1]? = some (.cells cs 162)) := Lib.hid ((hb1.block _ (Array.getElem?_eq_some_iff.1 HC2.out).1).trans HC2.out)
          have HC01 : Hid (∃ c0 : Array Value, c0.size = 12 ∧ w1.heap[w.heap.size]? = some (.cells c0 162)) := Lib.hid (by
            obtain ⟨c0, h1, h2⟩ := HC02.out
            exact ⟨c0, h1, (hb1.block _ (Array.getElem?_eq_some_iff.1 h2).1).trans h2⟩)
          clear hb1
          by_cases hlt : z < 0
          · have hqP : qn < P := HSG.1 hlt
            obtain ⟨x4, xr, hgz2, hnz2⟩ := (H.out.call HB1.out).look (qn + 1) (by simp; omega)
            have xv := xr v (by simpa using hv2)
            simp only [List.getElem_cons_succ] at x4 xv hgz2 hnz2
            obtain ⟨v0, hv0⟩ : ∃ v0, v0 = ptrV (Sk.F l (qn + 1) v) := ⟨_, rfl⟩
            rw [← hv0] at xv
            have HV0 := Lib.hid hv0
            obtain ⟨g, hg⟩ : ∃ g, g = (l[qn]).g := ⟨_, rfl⟩
            obtain ⟨nb, hnb⟩ : ∃ nb, nb = (l[qn]).nb := ⟨_, rfl⟩
            obtain ⟨hh, hhh⟩ : ∃ hh, hh = (l[qn]).h := ⟨_, rfl⟩
            have hvh : v < hh := by rw [hhh]; exact hv2
            rw [← hg] at x4 ⊢
            rw [← hnb] at x4 xv
            rw [← hhh] at x4
            have HG := Lib.hid hg
            clear hg hnb hhh xr hv0 HSG
            go_wp2_with fail
            refine ⟨⟨qn + 1, by simp; omega, by rw [HG.out]; rfl, HV0.out, Lib.hid (by omega), Lib.hid (by simpa using hv2), HB1, HC1, HC01⟩, ?_⟩
            rw [H.out.at_ p2 hp2, HG.out]
            have := H.out.at_ (qn + 1) (by simp; omega)
            simp only [List.getElem_cons_succ] at this
            rw [this]
            omega
          · have hqP : ¬ qn < P := fun h => hlt (HSG.2 h)
            obtain ⟨⟨s1, s2⟩, s3, s4, s5⟩ := ST.out w1 HB1.out HC1 HC01
            clear HSG
            go_wp2_with fail
            exact ⟨⟨v, p2, hp2, _, _, by omega, rfl, rfl, HP2, Lib.hid (by have := HV2.out; omega), Lib.hid (OQ.out (fun m hm h1 h2 => HB.out m hm h1 (by omega))), s5, s3, s4⟩, by simp [intOf]⟩
end Go.Proofs.YtekbdedpombgcaaGreatDoor

namespace Go.Proofs.YtekbdedpombgcaaGreatDoor
open Go.RowKit

set_option maxRecDepth 100000 in
theorem snew_any (w : World) : Calls Tryz.prog 11 #[] w fun e w' => ∃ hd, e = .returned (.pointer (some ⟨hd.g, 0, none⟩)) ∧ SkAt w.heap.size hd [] (Sk.F []) w' ∧ Below w.heap.size w w' := by
  have hmk : ∀ w : World, (Instr.makeSlice 87 (.int .i64 12) (.int .i64 12)).run Tryz.prog w = .ok (.slice (some ⟨w.heap.size, 0, none⟩) 12 12) (w.alloc (.cells #[.pointer none, .pointer none, .pointer none, .pointer none, .pointer none, .pointer none, .pointer none, .pointer none, .pointer none, .pointer none, .pointer none, .pointer none] 161)) := fun _ => by kernel_rfl
  go_enter Tryz.func11, Tryz.ntmps11
  go_wp2_with fail
  go_ret
  obtain ⟨R, hR⟩ : ∃ R, R = Obj.cells #[.pointer none, .pointer none, .pointer none, .pointer none, .pointer none, .pointer none, .pointer none, .pointer none, .pointer none, .pointer none, .pointer none, .pointer none] 161 := ⟨_, rfl⟩
  obtain ⟨B, hB⟩ : ∃ B, B = Obj.cells #[.slice none 0 0, .int .i64 0, .bool false, .slice none 0 0, .slice (some ⟨w.heap.size, 0, none⟩) 12 12, .int .i64 0, .int .i64 0, .int .i64 0] 91 := ⟨_, rfl⟩
  rw [← hR, ← hB]
  have h0 : ((w.alloc R).alloc B).heap[w.heap.size]? = some R := (((Below.refl _ _).alloc (Nat.le_refl _) _).block _ (by simp)).trans (heap_alloc_new w _)
  have h1 : ((w.alloc R).alloc B).heap[w.heap.size + 1]? = some B := by
    have := heap_alloc_new (w.alloc R) B
    rw [show (w.alloc R).heap.size = w.heap.size + 1 by simp] at this
    exact this
  refine ⟨⟨w.heap.size + 1, w.heap.size, 12, ⟨none, 0, [], 0, false, none, 0, []⟩⟩, rfl, ⟨by simp; omega, ⟨0, 0, by rw [h1, hB]; rfl⟩, rfl, by simp, fun d hd => (by cases hd), fun p hp => ?_, by simp⟩, below_al2 w R B⟩
  obtain rfl : p = 0 := by simp at hp; omega
  refine ⟨by simp, _, by simp only [List.getElem_cons_zero]; rw [h0, hR], rfl, fun lv hlv => ?_⟩
  simp only [List.getElem_cons_zero] at hlv
  have : lv = 0 ∨ lv = 1 ∨ lv = 2 ∨ lv = 3 ∨ lv = 4 ∨ lv = 5 ∨ lv = 6 ∨ lv = 7 ∨ lv = 8 ∨ lv = 9 ∨ lv = 10 ∨ lv = 11 := by omega
  rcases this with rfl | rfl | rfl | rfl | rfl | rfl | rfl | rfl | rfl | rfl | rfl | rfl <;> rfl
end Go.Proofs.YtekbdedpombgcaaGreatDoor

namespace Go.Proofs.YtekbdedpombgcaaGreatDoor
open Go.RowKit

/-- On the ground level all stand. -/
theorem Sk.F_zero {l : List Nd} (h1 : ∀ d ∈ l, 1 ≤ d.h) (p : Nat) : Sk.F l p 0 = (l[p]?).map Nd.g := by
  unfold Sk.F Sk.nx
  have e : l[p]? = (l.drop p)[0]? := by rw [List.getElem?_drop]; rfl
  rw [e]
  cases hl : l.drop p with
  | nil => rfl
  | cons d t =>
    have hd : 1 ≤ d.h := h1 d (List.mem_of_mem_drop (by rw [hl]; exact List.mem_cons_self))
    have h2 : decide (0 < d.h) = true := by rw [decide_eq_true_eq]; omega
    simp only [List.find?, h2, List.getElem?_cons_zero, Option.map_some]
/-- What the list's Get gives. -/
def SgQ (l : List Nd) (P : Nat) (q : List UInt8) (w : World) (e : Ending) (w' : World) : Prop := Below w.heap.size w w' ∧ ((e = .returned (.tuple #[zeroRec, .bool false]) ∧ ∀ d, l[P]? = some d → d.r.k ≠ q) ∨
  ∃ (d : Nd) (r' : Rv), l[P]? = some d ∧ d.r.k = q ∧ r'.core = d.r.core ∧ e = .returned (.tuple #[r'.val, .bool true]) ∧ Own w' w.heap.size 5 r'.kA r'.kc r'.k ∧ Own w' w.heap.size 5 r'.vA r'.vc r'.v)
/-- On the ground level the last one ahead is the last of all that stand ahead. -/
theorem OutQ.zero {base : Nat} {hd : Nd} {l : List Nd} {f : Nat → Nat → Option Nat} {w : World} {P : Nat} {o : Nat → Nat} {cs : Array Value} (h : OutQ hd l P 0 o cs) (hs : SkAt base hd l f w) (hP : P ≤ l.length) : ∃ hp : P < (hd :: l).length, cs[0]? = some (.pointer (some ⟨((hd :: l)[P]).g, 0, none⟩)) := by
  obtain ⟨h1, h2, h3, h4, h5⟩ := h.cell 0 (by omega) (by omega)
  have e : o 0 = P := by
    by_cases hlt : o 0 < P
    · have := h5 (o 0) (by omega) (Nat.le_refl _) hlt
      have := (hs.node _ (List.getElem_mem (show o 0 < l.length by omega))).2.2.2.2.2.2.1
      omega
    · omega
  refine ⟨by simp; omega, ?_⟩
  rw [h2]
  simp [e]
/-- The result written. -/
theorem sfin {w w1 : World} {a b c d : Value} (hb : Below w.heap.size w w1) (h : w1.heap[w.heap.size]? = some (.cells #[a, b, c, d] 83)) (x y z u : Value) : ∃ W5, (((w1.setCell ⟨w.heap.size, 0, none⟩ x).setCell ⟨w.heap.size, 1, none⟩ y).setCell ⟨w.heap.size, 2, none⟩ z).setCell ⟨w.heap.size, 3, none⟩ u = W5 ∧
    W5.heap[w.heap.size]? = some (.cells #[x, y, z, u] 83) ∧ Below w.heap.size w W5 ∧ ∀ {A : Option Addr} {n : Nat} {l : List UInt8}, Own w1 w.heap.size 5 A n l → Own W5 w.heap.size 5 A n l := by
  refine ⟨_, rfl, heap_set4 h, (((hb.setCell (by simp) _).setCell (by simp) _).setCell (by simp) _).setCell (by simp) _, fun {A n l} ho => ?_⟩
  have hne : blk A ≠ some w.heap.size := fun e => by
    obtain ⟨_, cs, fr, h1⟩ := own_tag ho e
    exact tag_ne2 h1 h (by decide) rfl
  exact (((ho.cellput ⟨w.heap.size, 0, none⟩ _ hne).cellput ⟨w.heap.size, 1, none⟩ _ hne).cellput ⟨w.heap.size, 2, none⟩ _ hne).cellput ⟨w.heap.size, 3, none⟩ _ hne
set_option maxHeartbeats 2000000 in
set_option maxRecDepth 100000 in
theorem sget_any (base : Nat) (hd : Nd) (l : List Nd) (qA : Option Addr) (qc : Nat) (q : List UInt8) (seq : Int) (P : Nat) (hP : P ≤ l.length) (w : World) (h : SkAt base hd l (Sk.F l) w) (hq : RdB w w.heap.size qA q)
    (hs : ∀ i (hi : i < l.length), (Tb.orI [Lib.compareBytes l[i].r.k q, Tb.cmpI seq l[i].r.seq] < 0) ↔ i < P) :
    Calls Tryz.prog 22 #[.pointer (some ⟨hd.g, 0, none⟩), .slice qA q.length qc, .int .i64 seq] w (SgQ l P q w) := by
  have hb0 : Below w.heap.size w (w.alloc zObj) := (Below.refl _ _).alloc (Nat.le_refl _) _
  have HBH := Lib.hid (behind_any base hd l qA qc q seq P (w.alloc zObj) (h.call hb0) ((hq.below hb0 (Nat.le_refl _)).more (by simp)) hs)
  have H := Lib.hid h
  have HQ := Lib.hid hq
  have hgz : hd.g < w.heap.size := by
    obtain ⟨a, b, e⟩ := h.list
    exact (Array.getElem?_eq_some_iff.1 e).1
  have HB0 := Lib.hid hb0
  have hix : ∀ (x0 x1 x2 x3 x4 x5 x6 x7 x8 x9 x10 x11 : Value) (w : World), (Instr.index 162 (.agg #[x0, x1, x2, x3, x4, x5, x6, x7, x8, x9, x10, x11]) (.int .i64 0)).run Tryz.prog w = .ok x0 w := fun _ _ _ _ _ _ _ _ _ _ _ _ _ => by kernel_rfl
  clear h hq hs hb0
  go_enter Tryz.func22, Tryz.ntmps22
  go_wp2_with fail
  refine HBH.out.mono ?_
  rintro e w1 ⟨o, cs, rfl, ho, hb1⟩
  have hz1 : w.heap.size + 1 ≤ w1.heap.size := by have := hb1.size; simpa using this
  have HB1 : Hid (Below w.heap.size w w1) := Lib.hid (HB0.out.trans (hb1.mono (by simp)))
  have HZ : Hid (w1.heap[w.heap.size]? = some zObj) := Lib.hid ((hb1.block _ (by simp)).trans (heap_alloc_new w _))
  have H1 := Lib.hid (H.out.call HB1.out)
  obtain ⟨hp, e0⟩ := ho.zero H.out hP
  obtain ⟨x0, x1, x2, x3, x4, x5, x6, x7, x8, x9, x10, x11, rfl⟩ := arr12 cs ho.size
  obtain rfl := Option.some.inj e0
  obtain ⟨x4, xr, hgz2, hnz2⟩ := H1.out.look P hp
  have hh0 : 0 < ((hd :: l)[P]).h := by
    cases P with
    | zero => simp [H.out.h12]
    | succ k => exact (H.out.node _ (List.getElem_mem (show k < l.length by omega))).2.2.2.2.2.2.1
  have xv := xr 0 hh0
  rw [Sk.F_zero (fun d hd => (H.out.node d hd).2.2.2.2.2.2.1)] at xv
  clear ho hb1 xr
  cases hF : l[P]? with
  | none =>
    rw [hF] at xv
    simp only [Option.map_none, ptrV] at xv
    have z := zfacts HZ.out
    obtain ⟨⟨z0, z1, z2, z3⟩, y0, y1, y2, y3⟩ := z
    go_wp2_with fail
    obtain ⟨W5, hW5, hx5, hb5, _⟩ := sfin HB1.out HZ.out (.slice none 0 0) (.int .i64 0) (.bool false) (.slice none 0 0)
    rw [hW5]
    obtain ⟨u0, u1, u2, u3⟩ := rfacts hx5
    exact bodyPost_ret (v := .tuple #[zeroRec, .bool false]) (by simp [results, Tryz.results22, go_sem, u0, u1, u2, u3, zeroRec]) rfl ⟨hb5, .inl ⟨rfl, fun d hd => by rw [hF] at hd; cases hd⟩⟩
  | some d =>
    rw [hF] at xv
    simp only [Option.map_some, ptrV] at xv
    obtain ⟨hPl, rfl⟩ := List.getElem?_eq_some_iff.1 hF
    obtain ⟨hn1, hn2, hn3, hn4, hn5, hn6, hn7, hn8, hn9, hn10⟩ := H1.out.node _ (List.getElem_mem hPl)
    have hgw := (Array.getElem?_eq_some_iff.1 hn2).1
    have y0 := cell_of_row w1 (l[P]).g 0 _ _ (0, 0) hn2
    have y1 := cell_of_row w1 (l[P]).g 1 _ _ (0, 0) hn2
    have y2 := cell_of_row w1 (l[P]).g 2 _ _ (0, 0) hn2
    have y3 := cell_of_row w1 (l[P]).g 3 _ _ (0, 0) hn2
    simp only [List.getElem?_toArray, List.getElem?_cons_zero, List.getElem?_cons_succ] at y0 y1 y2 y3
    have HEQ := Lib.hid (bytesEq_any (l[P]).r.kA qA (l[P]).r.kc qc (l[P]).r.k q w1 hn3.rd ((HQ.out.below HB1.out (Nat.le_refl _)).more HB1.out.size))
    have HCP := Lib.hid (scopied_any (l[P]).r w1 hn3.rd hn4.rd (by omega) (by omega))
    have z := zfacts HZ.out
    obtain ⟨⟨z0, z1, z2, z3⟩, t0, t1, t2, t3⟩ := z
    obtain ⟨d, hd⟩ : ∃ d, d = l[P] := ⟨_, rfl⟩
    rw [← hd] at y0 y1 y2 y3 HEQ HCP xv hgw
    rw [← hd] at hF
    have HF := Lib.hid hF
    clear hn1 hn2 hn3 hn4 hn5 hn6 hn7 hn8 hn9 hn10 hF hd
    obtain ⟨⟨rA, rc, rk, rseq, rdel, rvA, rvc, rv⟩, hr⟩ : ∃ r, d.r = r := ⟨_, rfl⟩
    rw [hr] at y0 y1 y2 y3 HEQ HCP
    simp only at y0 y1 y2 y3 HEQ HCP
    have HR := Lib.hid hr
    clear hr
    by_cases hkq : rk = q
    · have d1 : (rk == q) = true := by simpa using hkq
      rw [d1] at HEQ
      have HKQ := Lib.hid hkq
      clear hkq d1
      go_wp2_with fail
      refine HEQ.out.mono ?_
      rintro e w2 ⟨rfl, rfl⟩
      go_wp2_with fail
      refine HCP.out.mono ?_
      rintro e w2 ⟨hb2, ⟨pA, pc, pk, pseq, pdel, pvA, pvc, pv⟩, rfl, hc, ho1, ho2⟩
      have HZ2 : Hid (w2.heap[w.heap.size]? = some zObj) := Lib.hid ((hb2.block _ (by omega)).trans HZ.out)
      have HB2 : Hid (Below w.heap.size w w2) := Lib.hid (HB1.out.trans (hb2.mono (by omega)))
      have HO1 := Lib.hid (ho1.mono (show w.heap.size ≤ w1.heap.size by omega))
      have HO2 := Lib.hid (ho2.mono (show w.heap.size ≤ w1.heap.size by omega))
      have HCR := Lib.hid hc
      simp only at HO1 HO2
      clear hb2 ho1 ho2 hc y0 y1 y2 y3 z0 z1 z2 z3 t0 t1 t2 t3 x4 xv
      obtain ⟨⟨z0, z1, z2, z3⟩, t0, t1, t2, t3⟩ := zfacts HZ2.out
      simp only [Rv.val]
      go_wp2_with fail
      obtain ⟨W5, hW5, hx5, hb5, ho5⟩ := sfin HB2.out HZ2.out (.slice pA pk.length pc) (.int .i64 pseq) (.bool pdel) (.slice pvA pv.length pvc)
      rw [hW5]
      obtain ⟨u0, u1, u2, u3⟩ := rfacts hx5
      exact bodyPost_ret (v := .tuple #[.agg #[.slice pA pk.length pc, .int .i64 pseq, .bool pdel, .slice pvA pv.length pvc], .bool true]) (by simp [results, Tryz.results22, go_sem, u0, u1, u2, u3]) rfl
        ⟨hb5, .inr ⟨d, ⟨pA, pc, pk, pseq, pdel, pvA, pvc, pv⟩, HF.out, by rw [HR.out]; exact HKQ.out, by rw [HR.out]; exact HCR.out, rfl, ho5 HO1.out, ho5 HO2.out⟩⟩
    · have d1 : (rk == q) = false := by simpa using hkq
      rw [d1] at HEQ
      have HKQ := Lib.hid hkq
      clear hkq d1
      go_wp2_with fail
      refine HEQ.out.mono ?_
      rintro e w2 ⟨rfl, rfl⟩
      go_wp2_with fail
      obtain ⟨W5, hW5, hx5, hb5, _⟩ := sfin HB1.out HZ.out (.slice none 0 0) (.int .i64 0) (.bool false) (.slice none 0 0)
      rw [hW5]
      obtain ⟨u0, u1, u2, u3⟩ := rfacts hx5
      exact bodyPost_ret (v := .tuple #[zeroRec, .bool false]) (by simp [results, Tryz.results22, go_sem, u0, u1, u2, u3, zeroRec]) rfl ⟨hb5, .inl ⟨rfl, fun d2 hd2 => by rw [HF.out] at hd2; obtain rfl := Option.some.inj hd2; rw [HR.out]; exact HKQ.out⟩⟩
end Go.Proofs.YtekbdedpombgcaaGreatDoor

namespace Go.Proofs.YtekbdedpombgcaaGreatDoor
open Go.RowKit

theorem SkAt.put {base : Nat} {hd : Nd} {l : List Nd} {f : Nat → Nat → Option Nat} {w : World} (h : SkAt base hd l f w) (p : Nat) (hp : p < (hd :: l).length) (lv : Nat) (v : Option Nat) :
    SkAt base hd l (fun p' lv' => if p' = p ∧ lv' = lv then v else f p' lv') (w.setCell ⟨((hd :: l)[p]).nb, lv, none⟩ (ptrV v)) := by
  obtain ⟨hge, cs, hx, hsz, hc⟩ := h.rows p hp
  have ne : ∀ (k : Nat) (ds : Array Value) (T : TypeId), w.heap[k]? = some (Obj.cells ds T) → T ≠ 161 → k ≠ ((hd :: l)[p]).nb := fun k ds T e hT e2 => by
    rw [e2, hx] at e
    injection e with e
    injection e with _ e
    exact hT e.symm
  refine ⟨by simpa using h.size, ?_, h.h12, h.ge, fun d hd2 => ?_, fun p2 hp2 => ?_, h.nd⟩
  · obtain ⟨a, b, e⟩ := h.list
    exact ⟨a, b, by rw [heap_setD _ (ne _ _ _ e (by decide))]; exact e⟩
  · obtain ⟨h1, h2, h3, h4, h5⟩ := h.node d hd2
    exact ⟨h1, by rw [heap_setD _ (ne _ _ _ h2 (by decide))]; exact h2, h3.set_tag hx (by decide) hge, h4.set_tag hx (by decide) hge, h5⟩
  · by_cases e : p2 = p
    · subst e
      refine ⟨hge, cs.setIfInBounds lv (ptrV v), heap_setCell_same w _ lv _ _ _ hx, by simpa using hsz, fun lv2 hlv2 => ?_⟩
      by_cases e2 : lv2 = lv
      · subst e2
        simp [hsz, hlv2]
      · rw [Array.getElem?_setIfInBounds_ne (by omega), hc lv2 hlv2]
        simp [e2]
    · obtain ⟨h1, ds, h2, h3, h4⟩ := h.rows p2 hp2
      refine ⟨h1, ds, ?_, h3, fun lv2 hlv2 => by rw [h4 lv2 hlv2]; simp [e]⟩
      rw [heap_setD _ (fun e2 => e ?_)]
      · exact h2
      · have h6 : ((hd :: l).map Nd.nb)[p2]'(by simpa using hp2) = ((hd :: l).map Nd.nb)[p]'(by simpa using hp) := by
          rw [List.getElem_map, List.getElem_map]; exact e2
        exact (List.getElem_inj h.nd).1 h6
/-- Who comes next once one more stands behind all. -/
theorem OutQ.snoc {hd : Nd} {l : List Nd} {o : Nat → Nat} {cs : Array Value} (h : OutQ hd l l.length 0 o cs) (d : Nd) (p lv : Nat) (hp : p < (hd :: l).length) (hlv : lv < ((hd :: l)[p]).h) (h12 : lv < 12) : Sk.F (l ++ [d]) p lv = if lv < d.h ∧ p = o lv then some d.g else Sk.F l p lv := by
  obtain ⟨h1, _, _, h4, h5⟩ := h.cell lv (Nat.zero_le _) h12
  have hpl : p ≤ l.length := by simp at hp; omega
  have e : Sk.F (l ++ [d]) p lv = match Sk.F l p lv with | some g => some g | none => if lv < d.h then some d.g else none := by
    unfold Sk.F
    rw [List.drop_append_of_le_length hpl, Sk.nx_snoc]
    all_goals (cases Sk.nx (l.drop p) lv <;> rfl)
  rw [e]
  cases hF : Sk.F l p lv with
  | some g =>
    obtain ⟨q, hpq, hq, _, hv, _⟩ := Sk.F_some hF
    have hne : ¬ (lv < d.h ∧ p = o lv) := fun hh => by
      have := h5 q hq (by omega) hq
      omega
    rw [if_neg hne]
  | none =>
    have hn := Sk.F_none hF
    have hpo : p = o lv := by
      rcases Nat.lt_trichotomy p (o lv) with h6 | h6 | h6
      · obtain ⟨m, hm⟩ : ∃ m, o lv = m + 1 := ⟨o lv - 1, by omega⟩
        have hml : m < l.length := by simp at h1; omega
        have h7 : ((hd :: l)[o lv]).h = (l[m]).h := by simp [hm]
        have := hn m hml (by omega)
        omega
      · exact h6
      · obtain ⟨m, rfl⟩ : ∃ m, p = m + 1 := ⟨p - 1, by omega⟩
        have hml : m < l.length := by omega
        have h7 : ((hd :: l)[m + 1]).h = (l[m]).h := by simp
        have := h5 m hml (by omega) hml
        omega
    by_cases hd2 : lv < d.h
    · exact (if_pos hd2).trans (if_pos ⟨hd2, hpo⟩).symm
    · exact (if_neg hd2).trans (if_neg (fun hh : lv < d.h ∧ p = o lv => hd2 hh.1)).symm
end Go.Proofs.YtekbdedpombgcaaGreatDoor

namespace Go.Proofs.YtekbdedpombgcaaGreatDoor
open Go.RowKit

theorem heap_setSame {w : World} {g v : Nat} {cs : Array Value} {T : TypeId} {x : Value} (h : w.heap[g]? = some (.cells cs T)) (hx : cs[v]? = some x) (k : Nat) : (w.setCell ⟨g, v, none⟩ x).heap[k]? = w.heap[k]? := by
  by_cases e : k = g
  · subst e
    have h1 : cs.setIfInBounds v x = cs := by
      apply Array.ext_getElem?
      intro i
      by_cases e : i = v
      · subst e
        have := (Array.getElem?_eq_some_iff.1 hx).1
        rw [Array.getElem?_setIfInBounds_self_of_lt this, hx]
      · rw [Array.getElem?_setIfInBounds_ne (by omega)]
    rw [heap_setCell_same w k v _ _ _ h, h1, h]
  · exact heap_setD _ e
theorem SkAt.same {base : Nat} {hd : Nd} {l : List Nd} {f : Nat → Nat → Option Nat} {w w' : World} (h : SkAt base hd l f w) (hs : w'.heap.size = w.heap.size) (hk : ∀ k : Nat, w'.heap[k]? = w.heap[k]?) : SkAt base hd l f w' := by
  refine ⟨by rw [hs]; exact h.size, ?_, h.h12, h.ge, fun d hd2 => ?_, fun p hp => ?_, h.nd⟩
  · obtain ⟨a, b, e⟩ := h.list
    exact ⟨a, b, (hk _).trans e⟩
  · obtain ⟨h1, h2, h3, h4, h5⟩ := h.node d hd2
    exact ⟨h1, (hk _).trans h2, h3.keep (by omega) (fun _ g _ _ => hk g), h4.keep (by omega) (fun _ g _ _ => hk g), h5⟩
  · obtain ⟨h1, cs, h2, h3⟩ := h.rows p hp
    exact ⟨h1, cs, (hk _).trans h2, h3⟩
/-- What the rows say once those below v are turned. -/
def Sk.M (l : List Nd) (o : Nat → Nat) (g v : Nat) (p lv : Nat) : Option Nat := if lv < v ∧ p = o lv then some g else Sk.F l p lv
theorem Sk.M_zero (l : List Nd) (o : Nat → Nat) (g : Nat) : Sk.M l o g 0 = Sk.F l := by
  funext p lv
  unfold Sk.M
  simp
theorem Sk.M_succ (l : List Nd) (o : Nat → Nat) (g v : Nat) : (fun p' lv' => if p' = o v ∧ lv' = v then some g else Sk.M l o g v p' lv') = Sk.M l o g (v + 1) := by
  funext p lv
  unfold Sk.M
  by_cases e : lv = v
  · subst e
    by_cases e2 : p = o lv
    · simp [e2]
    · simp [e2]
  · have h2 : ¬ (p = o v ∧ lv = v) := fun h => e h.2
    rw [if_neg h2]
    by_cases e3 : lv < v ∧ p = o lv
    · rw [if_pos e3, if_pos ⟨by omega, e3.2⟩]
    · rw [if_neg e3, if_neg (fun h : lv < v + 1 ∧ p = o lv => e3 ⟨by omega, h.2⟩)]
/-- One more, while it is put in. -/
structure PutR (base : Nat) (hd : Nd) (l : List Nd) (o : Nat → Nat) (cs : Array Value) (r : Rv) (n gr ga gx : Nat) (R : Array Value) (v : Nat) (w0 w : World) : Prop where
  sk : SkAt base hd l (Sk.M l o (gr + 1) v) w
  row : w.heap[gr]? = some (.cells (Array.replicate n (.pointer none)) 161)
  node : w.heap[gr + 1]? = some (.cells #[.slice r.kA r.k.length r.kc, .int .i64 r.seq, .bool r.del, .slice r.vA r.v.length r.vc, .slice (some ⟨gr, 0, none⟩) n n] 89)
  ah : w.heap[ga]? = some (.cells cs 162)
  rec_ : w.heap[gx]? = some (.cells R 83)
  kk : HBs w base r.kA r.k
  vv : HBs w base r.vA r.v
  bel : Below base w0 w
  ge : base ≤ gr
  nbs : ∀ d ∈ hd :: l, d.nb < gr
  fr : ∀ k, k < w0.heap.size → (¬ ∃ cs fr, w0.heap[k]? = some (Obj.cells cs 161 fr)) → w.heap[k]? = w0.heap[k]?
  gez : w0.heap.size ≤ gr
section
variable {base : Nat} {hd : Nd} {l : List Nd} {o : Nat → Nat} {cs : Array Value} {r : Rv} {n gr ga gx : Nat} {R : Array Value} {v : Nat} {w0 w : World}
theorem PutR.step (h : PutR base hd l o cs r n gr ga gx R v w0 w) (hv : v < n) (p : Nat) (hp : p < (hd :: l).length) (hpo : p = o v) :
    PutR base hd l o cs r n gr ga gx R (v + 1) w0 ((w.setCell ⟨gr, v, none⟩ (.pointer none)).setCell ⟨((hd :: l)[p]).nb, v, none⟩ (.pointer (some ⟨gr + 1, 0, none⟩))) := by
  have hk := heap_setSame (v := v) (x := .pointer none) h.row (by rw [Array.getElem?_replicate]; simp [hv])
  have s1 := h.sk.same (w' := w.setCell ⟨gr, v, none⟩ (.pointer none)) (by simp) hk
  have s2 := s1.put p hp v (some (gr + 1))
  subst hpo
  rw [Sk.M_succ] at s2
  obtain ⟨hge, ds, hx, _, _⟩ := s1.rows (o v) hp
  have hnb := h.nbs _ (List.getElem_mem hp)
  have ne : ∀ (k : Nat) (ds : Array Value) (T : TypeId), w.heap[k]? = some (Obj.cells ds T) → T ≠ 161 → ((w.setCell ⟨gr, v, none⟩ (.pointer none)).setCell ⟨((hd :: l)[o v]).nb, v, none⟩ (.pointer (some ⟨gr + 1, 0, none⟩))).heap[k]? = some (Obj.cells ds T) := fun k ds T e hT => by
    rw [heap_setD _ (fun e2 => by
      rw [← hk, e2, hx] at e
      injection e with e
      injection e with _ e
      exact hT e.symm), hk]
    exact e
  refine ⟨s2, ?_, ne _ _ _ h.node (by decide), ne _ _ _ h.ah (by decide), ne _ _ _ h.rec_ (by decide), ?_, ?_, (h.bel.setCell h.ge _).setCell hge _, h.ge, h.nbs, fun k hk2 ht => ?_, h.gez⟩
  · rw [heap_setD _ (Nat.ne_of_gt hnb), hk]; exact h.row
  · exact (h.kk.keep (by simp) (fun _ g _ _ => hk g)).set_tag hx (by decide) hge
  · exact (h.vv.keep (by simp) (fun _ g _ _ => hk g)).set_tag hx (by decide) hge
  · have e0 := h.fr k hk2 ht
    rw [heap_setD _ (fun e => ht ⟨ds, (0, 0), by rw [← e0, ← hk, e]; exact hx⟩), hk]
    exact e0
theorem PutR.call {w' : World} (h : PutR base hd l o cs r n gr ga gx R v w0 w) (hb : Below w.heap.size w w') : PutR base hd l o cs r n gr ga gx R v w0 w' := by
  have key : ∀ k o, w.heap[k]? = some o → w'.heap[k]? = some o := fun k o e => (hb.block k (Array.getElem?_eq_some_iff.1 e).1).trans e
  exact ⟨h.sk.call hb, key _ _ h.row, key _ _ h.node, key _ _ h.ah, key _ _ h.rec_, h.kk.below hb, h.vv.below hb, h.bel.trans (hb.mono h.sk.size), h.ge, h.nbs, fun k hk2 ht => (hb.block k (Nat.lt_of_lt_of_le (Nat.lt_of_lt_of_le hk2 h.gez) (Nat.le_of_lt (Array.getElem?_eq_some_iff.1 h.row).1))).trans (h.fr k hk2 ht), h.gez⟩
/-- At the end. -/
theorem PutR.fin (h : PutR base hd l o cs r n gr ga gx R n w0 w) (ho : OutQ hd l l.length 0 o cs) (hn1 : 1 ≤ n) (hn2 : n ≤ 12) (hkc : r.k.length ≤ r.kc) (hvc : r.v.length ≤ r.vc) (hkl : r.k.length ≤ 70000) (hvl : r.v.length ≤ 70000) (a b : Int) {W : World} (hz : W.heap.size = w.heap.size) (hk : ∀ k : Nat, k ≠ hd.g → W.heap[k]? = w.heap[k]?)
    (hg : W.heap[hd.g]? = some (.cells #[.slice none 0 0, .int .i64 0, .bool false, .slice none 0 0, .slice (some ⟨hd.nb, 0, none⟩) 12 12, .int .i64 a, .int .i64 ((l.length : Int) + 1), .int .i64 b] 91)) :
    SkAt base hd (l ++ [⟨gr + 1, gr, n, r⟩]) (Sk.F (l ++ [⟨gr + 1, gr, n, r⟩])) W := by
  obtain ⟨d, hd2⟩ : ∃ d, d = (⟨gr + 1, gr, n, r⟩ : Nd) := ⟨_, rfl⟩
  have dg : d.g = gr + 1 := by rw [hd2]
  have dnb : d.nb = gr := by rw [hd2]
  have dh : d.h = n := by rw [hd2]
  have dr : d.r = r := by rw [hd2]
  rw [← hd2]
  obtain ⟨x, y, hl⟩ := h.sk.list
  have ne : ∀ (k : Nat) (ds : Array Value) (T : TypeId), w.heap[k]? = some (Obj.cells ds T) → T ≠ 91 → W.heap[k]? = some (Obj.cells ds T) := fun k ds T e hT => by
    rw [hk k (fun e2 => by
      rw [e2, hl] at e
      injection e with e
      injection e with _ e
      exact hT e.symm)]
    exact e
  have hbs : ∀ {A : Option Addr} {q : List UInt8}, HBs w base A q → HBs W base A q := fun hq => hq.keep (by omega) (fun hne g hg2 _ => hk g (fun e => by
    rcases hq.at_ hne g hg2 with h3 | ⟨cs, fr, h3⟩
    · have := h.sk.ge; omega
    · rw [e, hl] at h3
      injection h3 with h3
      injection h3 with _ h3
      exact absurd h3 (by decide)))
  refine ⟨by rw [hz]; exact h.sk.size, ⟨a, b, by rw [hg, List.length_append]; rfl⟩, h.sk.h12, h.sk.ge, fun e he => ?_, fun p hp => ?_, ?_⟩
  · rw [List.mem_append, List.mem_singleton] at he
    rcases he with he | he
    · obtain ⟨h1, h2, h3, h4, h5⟩ := h.sk.node e he
      exact ⟨h1, ne _ _ _ h2 (by decide), hbs h3, hbs h4, h5⟩
    · subst he
      rw [dg, dr, dh, dnb]
      exact ⟨by have := h.ge; omega, ne _ _ _ h.node (by decide), hbs h.kk, hbs h.vv, hkc, hvc, hn1, hn2, hkl, hvl⟩
  · by_cases hpl : p < (hd :: l).length
    · have e : (hd :: (l ++ [d]))[p] = (hd :: l)[p] := by
        have : (hd :: (l ++ [d])) = (hd :: l) ++ [d] := rfl
        simp only [this]
        exact List.getElem_append_left hpl
      rw [e]
      obtain ⟨h1, ds, h2, h3, h4⟩ := h.sk.rows p hpl
      refine ⟨h1, ds, ne _ _ _ h2 (by decide), h3, fun lv hlv => ?_⟩
      have h12 : lv < 12 := by
        cases p with
        | zero => have := h.sk.h12; simp at hlv; omega
        | succ p =>
          have := (h.sk.node _ (List.getElem_mem (show p < l.length by simpa using hpl))).2.2.2.2.2.2.2.1
          simp only [List.getElem_cons_succ] at hlv
          omega
      rw [h4 lv hlv, ho.snoc d p lv hpl hlv h12, dh, dg]
      rfl
    · obtain rfl : p = l.length + 1 := by simp at hp hpl; omega
      have e : (hd :: (l ++ [d]))[l.length + 1] = d := by simp
      rw [e, dnb, dh]
      refine ⟨h.ge, _, ne _ _ _ h.row (by decide), by simp, fun lv hlv => ?_⟩
      rw [Array.getElem?_replicate, if_pos hlv]
      unfold Sk.F
      rw [List.drop_eq_nil_of_le (by simp)]
      rfl
  · have : (hd :: (l ++ [d])).map Nd.nb = (hd :: l).map Nd.nb ++ [gr] := by
      simp [dnb]
    rw [this, List.nodup_append]
    refine ⟨h.sk.nd, by simp, fun x hx y hy => ?_⟩
    rw [List.mem_map] at hx
    obtain ⟨z, hz, rfl⟩ := hx
    have := h.nbs z hz
    rw [List.mem_singleton] at hy
    omega
end
end Go.Proofs.YtekbdedpombgcaaGreatDoor

namespace Go.Proofs.YtekbdedpombgcaaGreatDoor
open Go.RowKit

/-- What Put gives where the record stands behind all. -/
def SpQ (base : Nat) (hd : Nd) (l : List Nd) (r : Rv) (w : World) (e : Ending) (w' : World) : Prop := e = .returned (.int .i64 0) ∧ Below base w w' ∧ ∃ d : Nd, d.r.core = r.core ∧ SkAt base hd (l ++ [d]) (Sk.F (l ++ [d])) w' ∧ (∀ k, k < w.heap.size → (¬ ∃ cs fr, w.heap[k]? = some (Obj.cells cs 161 fr)) → k ≠ hd.g → w'.heap[k]? = w.heap[k]?)
set_option maxHeartbeats 2000000 in
set_option maxRecDepth 100000 in
theorem sput_any (base : Nat) (hd : Nd) (l : List Nd) (r : Rv) (x : Int) (hx0 : 0 ≤ x) (hx1 : x ≤ 100000) (hln : l.length ≤ 100000) (w : World) (h : SkAt base hd l (Sk.F l) w) (hk : RdB w w.heap.size r.kA r.k) (hv : RdB w w.heap.size r.vA r.v) (hkl : r.k.length ≤ 70000) (hvl : r.v.length ≤ 70000) (hr : Tb.right r = true)
    (hs : ∀ i (hi : i < l.length), Tb.orI [Lib.compareBytes l[i].r.k r.k, Tb.cmpI r.seq l[i].r.seq] < 0) :
    Calls Tryz.prog 50 #[.pointer (some ⟨hd.g, 0, none⟩), r.val, .int .i64 x] w (SpQ base hd l r w) := by
  obtain ⟨kA, kc, k, seq, del, vA, vc, v⟩ := r
  simp only at hk hv hkl hvl hs
  have HRT := Lib.hid (fun X => srightT_all ⟨kA, kc, k, seq, del, vA, vc, v⟩ X)
  rw [hr] at HRT
  simp only [Rv.val] at HRT ⊢
  have H := Lib.hid h
  have HK := Lib.hid hk
  have HV := Lib.hid hv
  have HS := Lib.hid hs
  clear h hk hv hs hr
  go_enter Tryz.func50, Tryz.ntmps50
  go_wp2_with fail
  obtain ⟨R, hR⟩ : ∃ R, R = Obj.cells #[.slice kA k.length kc, .int .i64 seq, .bool del, .slice vA v.length vc] 83 := ⟨_, rfl⟩
  have hbw : Below w.heap.size w (w.alloc R) := (Below.refl _ _).alloc (Nat.le_refl _) _
  have HX0 : Hid ((w.alloc R).heap[w.heap.size]? = some R) := Lib.hid (heap_alloc_new w R)
  rw [hR] at HX0 hbw
  refine (HRT.out _).mono ?_
  rintro e w1 ⟨rfl, hb1⟩
  have HB1 : Hid (Below w.heap.size w w1) := Lib.hid (hbw.trans (hb1.mono (by simp)))
  have HX1 : Hid (w1.heap[w.heap.size]? = some (.cells #[.slice kA k.length kc, .int .i64 seq, .bool del, .slice vA v.length vc] 83)) := Lib.hid ((hb1.block _ (by simp)).trans HX0.out)
  have HBH := Lib.hid (behind_any base hd l kA kc k seq l.length w1 (H.out.call HB1.out) ((HK.out.below HB1.out (Nat.le_refl _)).more HB1.out.size) (fun i hi => ⟨fun _ => hi, fun _ => HS.out i hi⟩))
  obtain ⟨z0, z1, z2, z3⟩ := rfacts HX1.out
  clear hb1 hbw hR HX0
  go_wp2_with fail
  refine HBH.out.mono ?_
  rintro e w2 ⟨o, cs, rfl, ho, hb2⟩
  have HB2 : Hid (Below w.heap.size w w2) := Lib.hid (HB1.out.trans (hb2.mono HB1.out.size))
  have HX2 : Hid (w2.heap[w.heap.size]? = some (.cells #[.slice kA k.length kc, .int .i64 seq, .bool del, .slice vA v.length vc] 83)) := Lib.hid ((hb2.block _ (Array.getElem?_eq_some_iff.1 HX1.out).1).trans HX1.out)
  clear z0 z1 z2 z3 hb2
  obtain ⟨z0, z1, z2, z3⟩ := rfacts HX2.out
  have HO := Lib.hid ho
  obtain ⟨hp, e0⟩ := ho.zero H.out (Nat.le_refl _)
  obtain ⟨x0, x1, x2, x3, x4, x5, x6, x7, x8, x9, x10, x11, rfl⟩ := arr12 cs ho.size
  have H2 := Lib.hid (H.out.call HB2.out)
  obtain rfl := Option.some.inj e0
  obtain ⟨p1, rfl⟩ : ∃ p, x1 = .pointer p := by
    obtain ⟨_, e, _⟩ := HO.out.cell 1 (by omega) (by omega)
    exact ⟨_, Option.some.inj e⟩
  obtain ⟨p2, rfl⟩ : ∃ p, x2 = .pointer p := by
    obtain ⟨_, e, _⟩ := HO.out.cell 2 (by omega) (by omega)
    exact ⟨_, Option.some.inj e⟩
  obtain ⟨p3, rfl⟩ : ∃ p, x3 = .pointer p := by
    obtain ⟨_, e, _⟩ := HO.out.cell 3 (by omega) (by omega)
    exact ⟨_, Option.some.inj e⟩
  obtain ⟨p4, rfl⟩ : ∃ p, x4 = .pointer p := by
    obtain ⟨_, e, _⟩ := HO.out.cell 4 (by omega) (by omega)
    exact ⟨_, Option.some.inj e⟩
  obtain ⟨p5, rfl⟩ : ∃ p, x5 = .pointer p := by
    obtain ⟨_, e, _⟩ := HO.out.cell 5 (by omega) (by omega)
    exact ⟨_, Option.some.inj e⟩
  obtain ⟨p6, rfl⟩ : ∃ p, x6 = .pointer p := by
    obtain ⟨_, e, _⟩ := HO.out.cell 6 (by omega) (by omega)
    exact ⟨_, Option.some.inj e⟩
  obtain ⟨p7, rfl⟩ : ∃ p, x7 = .pointer p := by
    obtain ⟨_, e, _⟩ := HO.out.cell 7 (by omega) (by omega)
    exact ⟨_, Option.some.inj e⟩
  obtain ⟨p8, rfl⟩ : ∃ p, x8 = .pointer p := by
    obtain ⟨_, e, _⟩ := HO.out.cell 8 (by omega) (by omega)
    exact ⟨_, Option.some.inj e⟩
  obtain ⟨p9, rfl⟩ : ∃ p, x9 = .pointer p := by
    obtain ⟨_, e, _⟩ := HO.out.cell 9 (by omega) (by omega)
    exact ⟨_, Option.some.inj e⟩
  obtain ⟨p10, rfl⟩ : ∃ p, x10 = .pointer p := by
    obtain ⟨_, e, _⟩ := HO.out.cell 10 (by omega) (by omega)
    exact ⟨_, Option.some.inj e⟩
  obtain ⟨p11, rfl⟩ : ∃ p, x11 = .pointer p := by
    obtain ⟨_, e, _⟩ := HO.out.cell 11 (by omega) (by omega)
    exact ⟨_, Option.some.inj e⟩
  clear ho
  have HB3 : Hid (Below w.heap.size w (w2.alloc (.cells #[.pointer (some ⟨((hd :: l)[l.length]).g, 0, none⟩), .pointer p1, .pointer p2, .pointer p3, .pointer p4, .pointer p5, .pointer p6, .pointer p7, .pointer p8, .pointer p9, .pointer p10, .pointer p11] 162))) := Lib.hid (HB2.out.alloc HB2.out.size _)
  have HX3 : Hid ((w2.alloc (.cells #[.pointer (some ⟨((hd :: l)[l.length]).g, 0, none⟩), .pointer p1, .pointer p2, .pointer p3, .pointer p4, .pointer p5, .pointer p6, .pointer p7, .pointer p8, .pointer p9, .pointer p10, .pointer p11] 162)).heap[w.heap.size]? = some (.cells #[.slice kA k.length kc, .int .i64 seq, .bool del, .slice vA v.length vc] 83)) := Lib.hid ((((Below.refl w2.heap.size w2).alloc (Nat.le_refl _) _).block _ (Array.getElem?_eq_some_iff.1 HX2.out).1).trans HX2.out)
  have H3 := Lib.hid (H.out.call HB3.out)
  obtain ⟨x4, xr, hgz2, hnz2⟩ := H3.out.look l.length hp
  have hh0 : 0 < ((hd :: l)[l.length]).h := by
    cases l with
    | nil => simp [H.out.h12]
    | cons d t => exact (H.out.node _ (List.getElem_mem (show t.length < (d :: t).length by simp))).2.2.2.2.2.2.1
  have xv := xr 0 hh0
  rw [show Sk.F l l.length 0 = none by unfold Sk.F Sk.nx; simp] at xv
  simp only [ptrV] at xv
  clear xr z0 z1 z2 z3
  obtain ⟨z0, z1, z2, z3⟩ := rfacts HX3.out
  have HCP : Hid (∀ X, Below w.heap.size w X → Calls Tryz.prog 56 #[.agg #[.slice kA k.length kc, .int .i64 seq, .bool del, .slice vA v.length vc]] X (CpdQ X ⟨kA, kc, k, seq, del, vA, vc, v⟩)) := Lib.hid (fun X hX => scopied_any ⟨kA, kc, k, seq, del, vA, vc, v⟩ X ((HK.out.below hX (Nat.le_refl _)).more hX.size) ((HV.out.below hX (Nat.le_refl _)).more hX.size) (by simp only; omega) (by simp only; omega))
  go_wp2_with fail
  refine (HCP.out _ HB3.out).mono ?_
  rintro e w4 ⟨hb4, ⟨pA, pc, pk, pseq, pdel, pvA, pvc, pv⟩, rfl, hc, ho1, ho2⟩
  have HCR := Lib.hid hc
  have hz3 : w.heap.size + 1 ≤ w4.heap.size := by have h1 := hb4.size; have h2 := HB2.out.size; have h3 := (Array.getElem?_eq_some_iff.1 HX2.out).1; simp at h1; omega
  have HB4 : Hid (Below w.heap.size w w4) := Lib.hid (HB3.out.trans (hb4.mono HB3.out.size))
  have HX4 : Hid (w4.heap[w.heap.size]? = some (.cells #[.slice kA k.length kc, .int .i64 seq, .bool del, .slice vA v.length vc] 83)) := Lib.hid ((hb4.block _ (Array.getElem?_eq_some_iff.1 HX3.out).1).trans HX3.out)
  have HA4 : Hid (w4.heap[w2.heap.size]? = some (.cells #[.pointer (some ⟨((hd :: l)[l.length]).g, 0, none⟩), .pointer p1, .pointer p2, .pointer p3, .pointer p4, .pointer p5, .pointer p6, .pointer p7, .pointer p8, .pointer p9, .pointer p10, .pointer p11] 162)) := Lib.hid ((hb4.block _ (by simp)).trans (heap_alloc_new w2 _))
  have HO1 := Lib.hid (ho1.mono HB3.out.size)
  have HO2 := Lib.hid (ho2.mono HB3.out.size)
  simp only [Rv.val]
  clear hb4 ho1 ho2 hc x4 xv hgz2 hnz2 z0 z1 z2 z3
  go_wp2_with fail
  refine (levels_any x hx0 hx1 w4).mono ?_
  rintro e w5 ⟨⟨n, rfl, hn1, hn2⟩, rfl⟩
  have mk1 : ∀ w : World, (Instr.makeSlice 87 (.int .i64 1) (.int .i64 1)).run Tryz.prog w = .ok (.slice (some ⟨w.heap.size, 0, none⟩) 1 1) (w.alloc (.cells (Array.replicate 1 (.pointer none)) 161)) := fun _ => by kernel_rfl
  have mk2 : ∀ w : World, (Instr.makeSlice 87 (.int .i64 2) (.int .i64 2)).run Tryz.prog w = .ok (.slice (some ⟨w.heap.size, 0, none⟩) 2 2) (w.alloc (.cells (Array.replicate 2 (.pointer none)) 161)) := fun _ => by kernel_rfl
  have mk3 : ∀ w : World, (Instr.makeSlice 87 (.int .i64 3) (.int .i64 3)).run Tryz.prog w = .ok (.slice (some ⟨w.heap.size, 0, none⟩) 3 3) (w.alloc (.cells (Array.replicate 3 (.pointer none)) 161)) := fun _ => by kernel_rfl
  have mk4 : ∀ w : World, (Instr.makeSlice 87 (.int .i64 4) (.int .i64 4)).run Tryz.prog w = .ok (.slice (some ⟨w.heap.size, 0, none⟩) 4 4) (w.alloc (.cells (Array.replicate 4 (.pointer none)) 161)) := fun _ => by kernel_rfl
  have mk5 : ∀ w : World, (Instr.makeSlice 87 (.int .i64 5) (.int .i64 5)).run Tryz.prog w = .ok (.slice (some ⟨w.heap.size, 0, none⟩) 5 5) (w.alloc (.cells (Array.replicate 5 (.pointer none)) 161)) := fun _ => by kernel_rfl
  have mk6 : ∀ w : World, (Instr.makeSlice 87 (.int .i64 6) (.int .i64 6)).run Tryz.prog w = .ok (.slice (some ⟨w.heap.size, 0, none⟩) 6 6) (w.alloc (.cells (Array.replicate 6 (.pointer none)) 161)) := fun _ => by kernel_rfl
  have mk7 : ∀ w : World, (Instr.makeSlice 87 (.int .i64 7) (.int .i64 7)).run Tryz.prog w = .ok (.slice (some ⟨w.heap.size, 0, none⟩) 7 7) (w.alloc (.cells (Array.replicate 7 (.pointer none)) 161)) := fun _ => by kernel_rfl
  have mk8 : ∀ w : World, (Instr.makeSlice 87 (.int .i64 8) (.int .i64 8)).run Tryz.prog w = .ok (.slice (some ⟨w.heap.size, 0, none⟩) 8 8) (w.alloc (.cells (Array.replicate 8 (.pointer none)) 161)) := fun _ => by kernel_rfl
  have mk9 : ∀ w : World, (Instr.makeSlice 87 (.int .i64 9) (.int .i64 9)).run Tryz.prog w = .ok (.slice (some ⟨w.heap.size, 0, none⟩) 9 9) (w.alloc (.cells (Array.replicate 9 (.pointer none)) 161)) := fun _ => by kernel_rfl
  have mk10 : ∀ w : World, (Instr.makeSlice 87 (.int .i64 10) (.int .i64 10)).run Tryz.prog w = .ok (.slice (some ⟨w.heap.size, 0, none⟩) 10 10) (w.alloc (.cells (Array.replicate 10 (.pointer none)) 161)) := fun _ => by kernel_rfl
  have mk11 : ∀ w : World, (Instr.makeSlice 87 (.int .i64 11) (.int .i64 11)).run Tryz.prog w = .ok (.slice (some ⟨w.heap.size, 0, none⟩) 11 11) (w.alloc (.cells (Array.replicate 11 (.pointer none)) 161)) := fun _ => by kernel_rfl
  have mk12 : ∀ w : World, (Instr.makeSlice 87 (.int .i64 12) (.int .i64 12)).run Tryz.prog w = .ok (.slice (some ⟨w.heap.size, 0, none⟩) 12 12) (w.alloc (.cells (Array.replicate 12 (.pointer none)) 161)) := fun _ => by kernel_rfl
  have hmk : ∀ (n : Nat), 1 ≤ n → n ≤ 12 → ∀ w : World, (Instr.makeSlice 87 (.int .i64 (n : Int)) (.int .i64 (n : Int))).run Tryz.prog w = .ok (.slice (some ⟨w.heap.size, 0, none⟩) n n) (w.alloc (.cells (Array.replicate n (.pointer none)) 161)) := fun n h1 h2 w => by
    have : n = 1 ∨ n = 2 ∨ n = 3 ∨ n = 4 ∨ n = 5 ∨ n = 6 ∨ n = 7 ∨ n = 8 ∨ n = 9 ∨ n = 10 ∨ n = 11 ∨ n = 12 := by omega
    rcases this with rfl | rfl | rfl | rfl | rfl | rfl | rfl | rfl | rfl | rfl | rfl | rfl
    · exact mk1 w
    · exact mk2 w
    · exact mk3 w
    · exact mk4 w
    · exact mk5 w
    · exact mk6 w
    · exact mk7 w
    · exact mk8 w
    · exact mk9 w
    · exact mk10 w
    · exact mk11 w
    · exact mk12 w
  clear mk1 mk2 mk3 mk4 mk5 mk6 mk7 mk8 mk9 mk10 mk11 mk12
  have hmk := hmk n hn1 hn2
  go_wp2_with fail
  have HST : Hid (PutR base hd l o #[.pointer (some ⟨((hd :: l)[l.length]).g, 0, none⟩), .pointer p1, .pointer p2, .pointer p3, .pointer p4, .pointer p5, .pointer p6, .pointer p7, .pointer p8, .pointer p9, .pointer p10, .pointer p11] ⟨pA, pc, pk, pseq, pdel, pvA, pvc, pv⟩ n w4.heap.size w2.heap.size w.heap.size #[.slice kA k.length kc, .int .i64 seq, .bool del, .slice vA v.length vc] 0 w ((w4.alloc (.cells (Array.replicate n (.pointer none)) 161)).alloc (.cells #[.slice pA pk.length pc, .int .i64 pseq, .bool pdel, .slice pvA pv.length pvc, .slice (some ⟨w4.heap.size, 0, none⟩) n n] 89))) := Lib.hid (by
    obtain ⟨R1, hR1⟩ : ∃ R1, R1 = Obj.cells (Array.replicate n (.pointer none)) 161 := ⟨_, rfl⟩
    obtain ⟨R2, hR2⟩ : ∃ R2, R2 = Obj.cells #[.slice pA pk.length pc, .int .i64 pseq, .bool pdel, .slice pvA pv.length pvc, .slice (some ⟨w4.heap.size, 0, none⟩) n n] 89 := ⟨_, rfl⟩
    rw [← hR1, ← hR2]
    have hbW : Below w4.heap.size w4 ((w4.alloc R1).alloc R2) := below_al2 w4 R1 R2
    have hBW : Below w.heap.size w ((w4.alloc R1).alloc R2) := HB4.out.trans (hbW.mono HB4.out.size)
    have hbz := H.out.size
    have h4z := HB4.out.size
    refine ⟨by rw [Sk.M_zero]; exact H.out.call hBW, ?_, ?_, (hbW.block _ (Array.getElem?_eq_some_iff.1 HA4.out).1).trans HA4.out, (hbW.block _ (Array.getElem?_eq_some_iff.1 HX4.out).1).trans HX4.out, HO1.out.hbs.below hbW, HO2.out.hbs.below hbW, hBW.mono hbz, by omega, fun e he => ?_, fun k hk2 _ => ?_, ?_⟩
    · rw [← hR1]
      exact (((Below.refl _ _).alloc (Nat.le_refl _) _).block _ (by simp)).trans (heap_alloc_new w4 _)
    · have := heap_alloc_new (w4.alloc R1) R2
      rw [show (w4.alloc R1).heap.size = w4.heap.size + 1 by simp] at this
      rw [← hR2]
      exact this
    · obtain ⟨p, hp, rfl⟩ := List.mem_iff_getElem.1 he
      have := (H.out.look p hp).2.2.2
      omega
    · exact hBW.block k hk2
    · exact h4z)
  go_loopw [10, 50] (fun _ ix wr => ∃ m : Nat, m ≤ n ∧ ix = .int .i64 (m : Int) ∧ Hid (PutR base hd l o #[.pointer (some ⟨((hd :: l)[l.length]).g, 0, none⟩), .pointer p1, .pointer p2, .pointer p3, .pointer p4, .pointer p5, .pointer p6, .pointer p7, .pointer p8, .pointer p9, .pointer p10, .pointer p11] ⟨pA, pc, pk, pseq, pdel, pvA, pvc, pv⟩ n w4.heap.size w2.heap.size w.heap.size #[.slice kA k.length kc, .int .i64 seq, .bool del, .slice vA v.length vc] m w wr)) (fun _ ix _ => n - (intOf ix).toNat)
  case atStart => exact ⟨0, by omega, rfl, HST⟩
  case round =>
    obtain ⟨m, hm, rfl, HP⟩ := hrel
    by_cases hlt : m < n
    · obtain ⟨V, hV⟩ : ∃ V, wr.drew = V := ⟨_, rfl⟩
      have hwV : Below wr.heap.size wr V := by rw [← hV]; exact (Below.refl _ _).drew
      have HPV := Lib.hid (HP.out.call hwV)
      obtain ⟨h1, hcs, _, hvh, h5⟩ := HO.out.cell m (Nat.zero_le _) (by omega)
      have c7 := cell_of_row V w2.heap.size m _ _ (0, 0) HPV.out.ah
      rw [hcs] at c7
      obtain ⟨x4, xr, hgz, hnz⟩ := HPV.out.sk.look (o m) h1
      have xv := xr m hvh
      have hF : Sk.M l o (w4.heap.size + 1) m (o m) m = none := by
        unfold Sk.M
        rw [if_neg (by omega)]
        cases hF : Sk.F l (o m) m with
        | none => rfl
        | some g =>
          obtain ⟨q, hq1, hq2, _, hq3, _⟩ := Sk.F_some hF
          have := h5 q hq2 hq1 hq2
          omega
      rw [hF] at xv
      simp only [ptrV] at xv
      have y4 := cell_of_row V (w4.heap.size + 1) 4 _ _ (0, 0) HPV.out.node
      simp only [List.getElem?_toArray, List.getElem?_cons_zero, List.getElem?_cons_succ] at y4
      have r0 := cell_of_row V w4.heap.size m _ _ (0, 0) HPV.out.row
      rw [Array.getElem?_replicate, if_pos hlt] at r0
      have r1 := frozen_of_row V w4.heap.size m _ _ HPV.out.row
      obtain ⟨_, ds, hds, _, _⟩ := HPV.out.sk.rows (o m) h1
      have r2 := frozen_of_row V ((hd :: l)[o m]).nb m _ _ hds
      have hgl := (H.out.look (o m) h1).2.2.1
      have hnl := (H.out.look (o m) h1).2.2.2
      obtain ⟨g, hg⟩ : ∃ g, g = ((hd :: l)[o m]).g := ⟨_, rfl⟩
      obtain ⟨nb, hnb⟩ : ∃ nb, nb = ((hd :: l)[o m]).nb := ⟨_, rfl⟩
      obtain ⟨hh, hhh⟩ : ∃ hh, hh = ((hd :: l)[o m]).h := ⟨_, rfl⟩
      have HN := Lib.hid hnb
      rw [← hg] at c7 x4 hgz hgl
      rw [← hnb] at x4 xv r2 hnz hnl
      rw [← hhh] at x4 hvh
      have HL : Hid (w.heap.size < w2.heap.size ∧ w2.heap.size < w4.heap.size) := Lib.hid ⟨(Array.getElem?_eq_some_iff.1 HX2.out).1, (Array.getElem?_eq_some_iff.1 HA4.out).1⟩
      have n1 : ¬ w2.heap.size = w4.heap.size := by have := HL.out; omega
      have n2 : ¬ g = w4.heap.size := by have := HL.out; omega
      have n3 : ¬ nb = w4.heap.size := by have := HL.out; omega
      have q0 : (0 : Int) ≤ (m : Int) := by omega
      have q1 : (m : Int) < 12 := by omega
      have q2 : (m : Int) < (hh : Int) := by omega
      have q3 : (m : Int) < (n : Int) := by omega
      clear hcs xr h5 hF hg hnb hhh hds hwV
      go_wp2_with fail
      refine region_still_tail 14 (by kernel_rfl) (by kernel_rfl) hV ?_
      clear hV
      simp only [List.take_succ_cons, List.take_zero, List.drop_succ_cons, List.drop_zero]
      repeat still_step
      refine wpStill_nil ?_
      go_wp2_with fail
      exact ⟨⟨m + 1, hlt, by simp, Lib.hid (by rw [HN.out]; exact HPV.out.step hlt (o m) h1 rfl)⟩, by simp only [intOf]; omega⟩
    · obtain rfl : m = n := by omega
      obtain ⟨V, hV⟩ : ∃ V, wr.drew = V := ⟨_, rfl⟩
      have hwV : Below wr.heap.size wr V := by rw [← hV]; exact (Below.refl _ _).drew
      have HPV := Lib.hid (HP.out.call hwV)
      obtain ⟨hgt, sz, hl⟩ := HPV.out.sk.list
      have l5 := cell_of_row V hd.g 5 _ _ (0, 0) hl
      have l6 := cell_of_row V hd.g 6 _ _ (0, 0) hl
      have l7 := cell_of_row V hd.g 7 _ _ (0, 0) hl
      have y4 := cell_of_row V (w4.heap.size + 1) 4 _ _ (0, 0) HPV.out.node
      have f5 := frozen_of_row V hd.g 5 _ _ hl
      have f6 := frozen_of_row V hd.g 6 _ _ hl
      have f7 := frozen_of_row V hd.g 7 _ _ hl
      simp only [List.getElem?_toArray, List.getElem?_cons_zero, List.getElem?_cons_succ] at l5 l6 l7 y4
      have HLL := Lib.hid hl
      have hgw : ¬ hd.g = w.heap.size := by
        obtain ⟨a, b, e⟩ := H.out.list
        have := (Array.getElem?_eq_some_iff.1 e).1
        omega
      clear hl hwV
      go_wp2_with fail
      refine region_still_tail 11 (by kernel_rfl) (by kernel_rfl) hV ?_
      clear hV
      simp only [List.take_succ_cons, List.take_zero, List.drop_succ_cons, List.drop_zero]
      repeat still_step
      refine wpStill_nil ?_
      go_wp2_with fail
      obtain ⟨Y, hY⟩ : ∃ Y, ((V.setCell ⟨hd.g, 5, none⟩ (.int .i64 (max hgt (m : Int)))).setCell ⟨hd.g, 6, none⟩ (.int .i64 ((l.length : Int) + 1))) = Y := ⟨_, rfl⟩
      have HYG : Hid (Y.heap.size = V.heap.size ∧ (∀ k : Nat, k ≠ hd.g → Y.heap[k]? = V.heap[k]?) ∧ Y.heap[hd.g]? = some (.cells #[.slice none 0 0, .int .i64 0, .bool false, .slice none 0 0, .slice (some ⟨hd.nb, 0, none⟩) 12 12, .int .i64 (max hgt (m : Int)), .int .i64 ((l.length : Int) + 1), .int .i64 sz] 91) ∧ Below base V Y) := Lib.hid (by
        have h0 := heap_setCell_same V hd.g 5 _ _ (.int .i64 (max hgt (m : Int))) HLL.out
        have h1 := heap_setCell_same _ hd.g 6 _ _ (.int .i64 ((l.length : Int) + 1)) h0
        rw [← hY]
        refine ⟨by simp, fun k hk => by rw [heap_setD _ hk, heap_setD _ hk], by simpa using h1, ((Below.refl _ _).setCell H.out.ge _).setCell H.out.ge _⟩)
      rw [hY]
      obtain ⟨Z, hZ⟩ : ∃ Z, Y.drew = Z := ⟨_, rfl⟩
      have HZG : Hid (Z.heap.size = V.heap.size ∧ (∀ k : Nat, k ≠ hd.g → Z.heap[k]? = V.heap[k]?) ∧ Z.heap[hd.g]? = some (.cells #[.slice none 0 0, .int .i64 0, .bool false, .slice none 0 0, .slice (some ⟨hd.nb, 0, none⟩) 12 12, .int .i64 (max hgt (m : Int)), .int .i64 ((l.length : Int) + 1), .int .i64 sz] 91) ∧ Below base V Z) := Lib.hid (by
        rw [← hZ]
        exact ⟨HYG.out.1, HYG.out.2.1, HYG.out.2.2.1, HYG.out.2.2.2.drew⟩)
      have t7 := cell_of_row Z hd.g 7 _ _ (0, 0) HZG.out.2.2.1
      have g7 := frozen_of_row Z hd.g 7 _ _ HZG.out.2.2.1
      have HRZ : Hid (Z.heap[w.heap.size]? = some (.cells #[.slice kA k.length kc, .int .i64 seq, .bool del, .slice vA v.length vc] 83)) := Lib.hid ((HZG.out.2.1 _ (fun e => hgw e.symm)).trans HPV.out.rec_)
      obtain ⟨z0, _, _, z3⟩ := rfacts HRZ.out
      simp only [List.getElem?_toArray, List.getElem?_cons_zero, List.getElem?_cons_succ] at t7
      clear hY l5 l6 l7 f5 f6 f7
      refine region_still_tail 13 (by kernel_rfl) (by kernel_rfl) hZ ?_
      clear hZ
      simp only [List.take_succ_cons, List.take_zero, List.drop_succ_cons, List.drop_zero]
      repeat still_step
      refine wpStill_nil ?_
      go_wp2_with fail
      go_ret
      obtain ⟨E, hE⟩ : ∃ E, E = wrap64 (sz + ((k.length : Int) + (v.length : Int) + 16)) := ⟨_, rfl⟩
      rw [← hE]
      have hco := HCR.out
      unfold Rv.core at hco
      injection hco with e1 hco; injection hco with e2 hco; injection hco with e3 e4
      simp only at e1 e2 e3 e4
      refine ⟨rfl, (HPV.out.bel.trans HZG.out.2.2.2).setCell H.out.ge _, ⟨w4.heap.size + 1, w4.heap.size, m, ⟨pA, pc, pk, pseq, pdel, pvA, pvc, pv⟩⟩, HCR.out, HPV.out.fin HO.out hn1 hn2 HO1.out.cap HO2.out.cap (by simp only; rw [e1]; exact hkl) (by simp only; rw [e4]; exact hvl) (max hgt (m : Int)) E (by simpa using HZG.out.1) (fun k hk => (heap_setD _ hk).trans (HZG.out.2.1 k hk)) ?_, fun k hk ht hne => (heap_setD _ hne).trans ((HZG.out.2.1 k hne).trans (HPV.out.fr k hk ht))⟩
      have := heap_setCell_same Z hd.g 7 _ _ (.int .i64 E) HZG.out.2.2.1
      simpa using this
end Go.Proofs.YtekbdedpombgcaaGreatDoor
