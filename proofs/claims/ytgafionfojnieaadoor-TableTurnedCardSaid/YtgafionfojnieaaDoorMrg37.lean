/- Parts of the proof, one behind the other: Contracts: the record test handed to slices.ContainsFunc; the plain building of a table.; Laws for the table's Build: plain bounds; close at any writer; inner at any record; keys' rows.; Rows of pairs in a row; the contract of the reference's part.; The contract of the reference's part.; Plain laws: what Build puts out, and what the reference's parts put out, come to the same. -/
import Derived.Test.YtgafionfojnieaaDoorMrg35
import Derived.Test.YtgafionfojnieaaDoorMrg36
import Derived.BigRegion
import Derived.BigQuiet
namespace Go.Proofs.YtgafionfojnieaaDoor
open Go.RowKit

instance : Inhabited Rv := ⟨⟨none, 0, [], 0, false, none, 0, []⟩⟩
set_option maxHeartbeats 2000000 in
set_option maxRecDepth 100000 in
theorem rightT_all (r : Rv) (w : World) : Calls Tryd.prog 13 #[r.val] w fun e w' => e = .returned (.bool (Tb.right r)) ∧ Below w.heap.size w w' := by
  obtain ⟨kA, kc, k, seq, del, vA, vc, v⟩ := r
  unfold Rv.val
  simp only
  obtain ⟨K, hK⟩ : ∃ K, K = k.length := ⟨_, rfl⟩
  obtain ⟨V, hV⟩ : ∃ V, V = v.length := ⟨_, rfl⟩
  have E : Hid (Tb.right ⟨kA, kc, k, seq, del, vA, vc, v⟩ = decide (1 ≤ K ∧ K ≤ 512 ∧ 1 ≤ seq ∧ seq ≤ 1099511627776 ∧ V ≤ 4096 ∧ (del = true → V = 0))) := Lib.hid (by rw [hK, hV]; rfl)
  rw [← hK]
  rw [← hV]
  clear hK hV
  cases del with
  | true =>
    go_enter Tryd.func13, Tryd.ntmps13
    go_wp2_with fail
    all_goals (go_ret; refine ⟨?_, (Below.refl _ _).alloc (Nat.le_refl _) _⟩; rw [E.out]; refine ret_bb ?_; rw [Bool.eq_iff_iff]; simp; omega)
  | false =>
    go_enter Tryd.func13, Tryd.ntmps13
    go_wp2_with fail
    all_goals (go_ret; refine ⟨?_, (Below.refl _ _).alloc (Nat.le_refl _) _⟩; rw [E.out]; refine ret_bb ?_; rw [Bool.eq_iff_iff]; simp; omega)
theorem odd_any (r : Rv) (w : World) : Calls Tryd.prog 12 #[r.val] w fun e w' => e = .returned (.bool (!Tb.right r)) ∧ Below w.heap.size w w' := by
  obtain ⟨b, hb⟩ : ∃ b, b = Tb.right r := ⟨_, rfl⟩
  have K := Lib.hid (rightT_all r)
  rw [← hb] at K ⊢
  obtain ⟨kA, kc, k, seq, del, vA, vc, v⟩ := r
  unfold Rv.val at K ⊢
  simp only at K ⊢
  clear hb
  cases b
  all_goals
    go_enter Tryd.func12, Tryd.ntmps12
    go_wp2_with fail
    refine (K.out _).mono ?_
    rintro e w1 ⟨rfl, hb1⟩
    go_wp2_with fail
    go_ret
    exact ⟨rfl, ((Below.refl _ _).alloc (Nat.le_refl _) _).trans (hb1.mono (by simp))⟩
theorem hasodd_any (l : List Rv) (A : Option Addr) (c : Nat) (hl : l.length ≤ 1000000) (hp : 0 < l.length) (w : World) (h : RdRv w w.heap.size A l) :
    Calls Tryd.prog 14 #[.slice A l.length c, .func (.func 12) #[] #[]] w fun e w' => e = .returned (.bool (l.any fun r => !Tb.right r)) ∧ Below w.heap.size w w' := by
  obtain ⟨b, off, rfl, hb, hc⟩ := RdS.row (f := Rv.cells) (n := 4) (fun _ => rfl) (by omega) h.row hp
  refine (AnyQ.slices_ContainsFunc Tryd.hasRec 4 Tryd.isAgg37 Tryd.sizeOf37 Rv.cells (fun _ => rfl) (fun x => !Tb.right x) 12 #[] (enters_of Tryd.func12 (by kernel_rfl) rfl) b off l.length c l w (fun W x hW => ?_) (Nat.le_refl _) (by omega) hb (fun j hj i v hv => ?_)).mono ?_
  · refine (odd_any x W).mono ?_
    rintro e w' ⟨rfl, hb⟩
    exact ⟨rfl, hW.trans (hb.mono hW.size)⟩
  · rw [getElem!_pos _ j hj] at hv
    exact hc j hj i v hv
  · rintro e w' ⟨rfl, hb⟩
    exact ⟨by simp, hb⟩
namespace Tb
/-- The writer, plain. -/
structure St where
  out : List UInt8
  index : List Pr
  opn : List Pr
  n : Int
  bad : Bool
def fits (b : List UInt8) : Bool := decide (b.length ≤ 65536)
def close (s : St) : St := if s.opn = [] then s else
  ⟨s.out ++ putL 68 (blkB 16 s.opn), s.index ++ [⟨((s.opn.getLast?).map Pr.k).getD [], nums [s.out.length, (putL 68 (blkB 16 s.opn)).length]⟩], [], 0, s.bad || !fits (blkB 16 s.opn)⟩
def plen (p : Pr) : Int := (p.k.length : Int) + (p.v.length : Int)
def add (size : Int) (s : St) (r : Rv) : St :=
  let s := if size ≤ s.n then close s else s
  ⟨s.out, s.index, s.opn ++ [inner r], s.n + plen (inner r), s.bad⟩
def run (size : Int) (l : List Rv) : St := l.foldl (add size) ⟨[], [], [], 0, false⟩
def low (l : List Rv) : Int := l.foldl (fun m r => min m r.seq) ((l.head?.map Rv.seq).getD 0)
def high (l : List Rv) : Int := l.foldl (fun m r => max m r.seq) ((l.head?.map Rv.seq).getD 0)
def sorted (l : List Rv) : Bool := (List.range l.length).all fun i => i == 0 || ahead (l[i - 1]!) (l[i]!)
def ends (s : St) (size bits : Nat) (l : List Rv) : List (UInt8 × List UInt8) := [(70, Blm.build bits (l.map Rv.k)), (73, blkB 16 s.index), (90, nums [size, bits, l.length, (low l).toNat, (high l).toNat])]
/-- A table, or which error. -/
def build (l : List Rv) (size bits : Int) : Int × List UInt8 :=
  if size < 64 ∨ 32768 < size ∨ bits < 1 ∨ 32 < bits ∨ l.length < 1 ∨ 20000 < l.length ∨ l.any (fun r => !right r) = true then (1, [])
  else if sorted l = false then (10, [])
  else
    let s := close (run size l)
    if (s.bad || (ends s size.toNat bits.toNat l).any (fun p => !fits p.2)) = true then (2, []) else (0, s.out ++ (ends s size.toNat bits.toNat l).flatMap (fun p => putL p.1 p.2))
end Tb
end Go.Proofs.YtgafionfojnieaaDoor

namespace Go.Proofs.YtgafionfojnieaaDoor
open Go.RowKit

def Wr.st (s : Wr) : Tb.St := ⟨s.out, s.index.map Pv.pr, s.opn.map Pv.pr, s.n, s.bad⟩
theorem st_closed (s : Wr) (kA : Option Addr) (kc : Nat) (vA : Option Addr) (vc : Nat) : (if s.opn = [] then s else Tb.closed s kA kc vA vc).st = Tb.close s.st := by
  unfold Tb.close
  by_cases h : s.opn = []
  · rw [if_pos h, if_pos (by simp [Wr.st, h])]
  · rw [if_neg h, if_neg (by simp [Wr.st, h])]
    simp only [Wr.st, Tb.closed, List.map_append, List.map_cons, List.map_nil, Pv.pr, Tb.fits, List.getLast?_map]
    cases s.opn.getLast? <;> rfl
def CloseQ (w : World) (base gw : Nat) (s : Wr) (a : WrA) (wr : World) (e : Ending) (w' : World) : Prop :=
  e = .returned (.tuple #[]) ∧ ∃ s' a', WS w base gw s' a' w' ∧ Mv gw a wr a' w' ∧ s'.st = Tb.close s.st ∧ (∀ g, WB s' g → WB s g ∨ wr.heap.size ≤ g)
theorem close_any (w : World) (base gw : Nat) (s : Wr) (a : WrA) (wr : World) (h : WS w base gw s a wr) (hln : s.opn.length ≤ 100000) (hxn : s.index.length ≤ 100000) (hsz : ∀ p ∈ s.opn, p.k.length ≤ 100000 ∧ p.v.length ≤ 100000) (hon : s.out.length ≤ 1000000000000) :
    Calls Tryd.prog 16 #[.pointer (some ⟨gw, 0, none⟩)] wr (CloseQ w base gw s a wr) := by
  have key : Calls Tryd.prog 16 #[.pointer (some ⟨gw, 0, none⟩)] wr (CloseP w base gw s a wr) := by
    rcases List.eq_nil_or_concat s.opn with he | ⟨P, q, he⟩
    · exact close_empty w base gw s a wr h he
    · obtain ⟨out, index, opn, n, bad⟩ := s
      simp only [List.concat_eq_append] at he
      subst he
      exact close_full w base gw out index P q n bad a wr h (by simp at hln; omega) hxn hsz hon
  refine key.mono ?_
  rintro e w' ⟨rfl, kA, kc, vA, vc, a', hw, hm, hk, hv⟩
  refine ⟨rfl, _, a', hw, hm, st_closed s kA kc vA vc, fun g hg => ?_⟩
  by_cases he : s.opn = []
  · rw [if_pos he] at hg; exact .inl hg
  · rw [if_neg he] at hg
    obtain ⟨q, hq, hb⟩ := hg
    unfold Tb.closed at hq
    simp only [List.mem_append, List.mem_singleton, List.not_mem_nil, or_false] at hq
    rcases hq with h1 | h1
    · exact .inl ⟨q, .inl h1, hb⟩
    · subst h1
      rcases hb with h2 | h2
      · rcases hk with h3 | ⟨q', h3, h4⟩
        · exact absurd h3 he
        · exact .inl ⟨q', .inr h3, .inl (h4 ▸ h2)⟩
      · exact .inr (hv g h2)
theorem inner_any (r : Rv) (w : World) (h : Rv.Ok w w.heap.size r) (hk : r.k.length ≤ 100000) (hv : r.v.length ≤ 100000) (h1 : 1 ≤ r.seq) (h2 : r.seq ≤ 1099511627776) :
    Calls Tryd.prog 17 #[r.val] w (InnerP w (Tb.inner r)) := by
  obtain ⟨kA, kc, k, seq, del, vA, vc, v⟩ := r
  cases del with
  | false => exact inner_false kA kc k seq vA vc v w h.key h.val hk hv h1 h2
  | true => exact inner_true kA kc k seq vA vc v w h.key h.val hk hv h1 h2
theorem bsT : RT Tryd.prog 45 25 Bs.cells 1 24 (.slice none 0 0) :=
  ⟨Tryd.underlying45, by kernel_rfl, fun _ => rfl, fun a u hu => by simp [Bs.cells] at hu; subst hu; rfl, by omega, rfl⟩
def Rv.bs (r : Rv) : Bs := ⟨r.kA, r.kc, r.k⟩
theorem rd_bs_new (w : World) (p : Bs) : RdS Bs.cells 1 (w.alloc (.cells #[.slice p.A p.l.length p.c] 25)) (w.heap.size + 1) (some ⟨w.heap.size, 0, none⟩) [p] := by
  refine RdS.of (f := Bs.cells) (n := 1) (l := [p]) (fun _ => rfl) _ 0 (by omega) (fun k hk j u hj => ?_)
  obtain rfl : k = 0 := by simp at hk; exact hk
  have hj' : p.cells[j]? = some u := hj
  rw [cell_of_row _ w.heap.size _ _ _ (0, 0) (heap_alloc_new w _)]
  simpa [Bs.cells] using hj'
namespace Tb
/-- What bounds the writer's state after k records. -/
structure Bnd (k : Nat) (s : St) : Prop where
  out : s.out.length ≤ 100000 * k
  il : s.index.length ≤ k
  ol : s.opn.length ≤ k
  ib : ∀ p ∈ s.index, p.k.length ≤ 10000 ∧ p.v.length ≤ 10000
  ob : ∀ p ∈ s.opn, p.k.length ≤ 10000 ∧ p.v.length ≤ 10000
  n0 : 0 ≤ s.n
  n1 : s.n ≤ 20000 * k
theorem nums2_len (a b : Nat) (ha : a < 18446744073709551616) (hb : b < 18446744073709551616) : (nums [a, b]).length ≤ 20 := by
  have := nums_len [a, b] (by intro n hn; simp at hn; rcases hn with rfl | rfl <;> assumption) 2 (by simp)
  simpa using this
theorem bnd_close {k : Nat} {s : St} (h : Bnd k s) (hk : k ≤ 100000) : (close s).out.length ≤ s.out.length + 100000 ∧ (close s).index.length ≤ s.index.length + 1 ∧ (s.opn = [] → close s = s) ∧ (s.opn ≠ [] → (close s).opn = []) ∧ (∀ p ∈ (close s).index, p.k.length ≤ 10000 ∧ p.v.length ≤ 10000) := by
  unfold close
  by_cases he : s.opn = []
  · rw [if_pos he]
    exact ⟨by omega, by omega, fun _ => rfl, fun h' => absurd he h', h.ib⟩
  · rw [if_neg he]
    have hp := putL_len 68 (blkB 16 s.opn)
    refine ⟨by simp; omega, by simp, fun h' => absurd h' he, fun _ => rfl, fun p hp' => ?_⟩
    simp only [List.mem_append, List.mem_singleton] at hp'
    rcases hp' with h1 | h1
    · exact h.ib p h1
    · subst h1
      refine ⟨?_, ?_⟩
      · show (((s.opn.getLast?).map Pr.k).getD []).length ≤ 10000
        rcases hl : s.opn.getLast? with _ | q
        · simp
        · have := h.ob q (List.mem_of_getLast? hl)
          simp; exact this.1
      · have := nums2_len s.out.length (putL 68 (blkB 16 s.opn)).length (by have := h.out; omega) (by omega)
        show (nums _).length ≤ 10000
        omega
theorem right_iff (r : Rv) : right r = true ↔ 1 ≤ r.k.length ∧ r.k.length ≤ 512 ∧ 1 ≤ r.seq ∧ r.seq ≤ 1099511627776 ∧ r.v.length ≤ 4096 ∧ (r.del = true → r.v.length = 0) := by unfold right; exact decide_eq_true_iff
theorem inner_bd {r : Rv} (h : right r = true) : (inner r).k.length ≤ 10000 ∧ (inner r).v.length ≤ 10000 := by
  obtain ⟨h1, h2, h3, h4, h5, _⟩ := (right_iff r).1 h
  have := ikey_len r.k r.seq (by omega) h3 h4
  unfold inner
  exact ⟨by show (ikey r.k r.seq).length ≤ 10000; omega, by simp; omega⟩
/-- The same, the counter's bound apart. -/
theorem bnd_add {size : Int} {k : Nat} {s : St} (h : Bnd k s) (hk : k ≤ 50000) (r : Rv) (hr : right r = true) : Bnd (k + 1) (add size s r) := by
  obtain ⟨c1, c2, c3, c4, c5⟩ := bnd_close h (by omega)
  obtain ⟨i1, i2⟩ := inner_bd hr
  have hp : plen (inner r) ≤ 20000 ∧ 0 ≤ plen (inner r) := by unfold plen; omega
  have h1 := h.out; have h2 := h.il; have h3 := h.ol; have h4 := h.n0; have h5 := h.n1
  unfold add
  by_cases hc : size ≤ s.n
  · rw [if_pos hc]
    by_cases he : s.opn = []
    · rw [c3 he]
      exact ⟨by show s.out.length ≤ _; omega, by show s.index.length ≤ _; omega, by show (s.opn ++ [inner r]).length ≤ _; simp; omega, h.ib, fun p hp' => by
        have hp' : p ∈ s.opn ++ [inner r] := hp'
        rw [he] at hp'
        have : p = inner r := by simpa using hp'
        subst this; exact ⟨i1, i2⟩, by show 0 ≤ s.n + _; omega, by show s.n + _ ≤ _; omega⟩
    · have e := c4 he
      have en : (close s).n = 0 := by unfold close; rw [if_neg he]
      exact ⟨by show (close s).out.length ≤ _; omega, by show (close s).index.length ≤ _; omega, by show ((close s).opn ++ [inner r]).length ≤ _; rw [e]; simp, c5, fun p hp' => by
        have hp' : p ∈ (close s).opn ++ [inner r] := hp'
        rw [e] at hp'
        have : p = inner r := by simpa using hp'
        subst this; exact ⟨i1, i2⟩, by show 0 ≤ (close s).n + _; rw [en]; omega, by show (close s).n + _ ≤ _; rw [en]; omega⟩
  · rw [if_neg hc]
    exact ⟨by show s.out.length ≤ _; omega, by show s.index.length ≤ _; omega, by show (s.opn ++ [inner r]).length ≤ _; simp; omega, h.ib, fun p hp' => by
      simp only [List.mem_append, List.mem_singleton] at hp'
      rcases hp' with h6 | h6
      · exact h.ob p h6
      · subst h6; exact ⟨i1, i2⟩, by show 0 ≤ s.n + _; omega, by show s.n + _ ≤ _; omega⟩
theorem run_succ (size : Int) (l : List Rv) (k : Nat) (h : k < l.length) : run size (l.take (k + 1)) = add size (run size (l.take k)) l[k] := by
  unfold run
  rw [List.take_succ_eq_append_getElem h, List.foldl_append]; rfl
theorem run_bnd (size : Int) (l : List Rv) (hr : ∀ r ∈ l, right r = true) (hl : l.length ≤ 20000) (k : Nat) (h : k ≤ l.length) : Bnd k (run size (l.take k)) := by
  induction k with
  | zero => exact ⟨by simp [run], by simp [run], by simp [run], by simp [run], by simp [run], by simp [run], by simp [run]⟩
  | succ k ih =>
    rw [run_succ size l k (by omega)]
    exact bnd_add (ih (by omega)) (by omega) _ (hr _ (List.getElem_mem _))
/-- The least moment so far, from the first record's. -/
def lowK (l : List Rv) (k : Nat) : Int := (l.take k).foldl (fun m r => min m r.seq) ((l.head?.map Rv.seq).getD 0)
def highK (l : List Rv) (k : Nat) : Int := (l.take k).foldl (fun m r => max m r.seq) ((l.head?.map Rv.seq).getD 0)
theorem lowK_succ (l : List Rv) (k : Nat) (h : k < l.length) : lowK l (k + 1) = min (lowK l k) l[k].seq := by
  unfold lowK; rw [List.take_succ_eq_append_getElem h, List.foldl_append]; rfl
theorem highK_succ (l : List Rv) (k : Nat) (h : k < l.length) : highK l (k + 1) = max (highK l k) l[k].seq := by
  unfold highK; rw [List.take_succ_eq_append_getElem h, List.foldl_append]; rfl
theorem lowK_all (l : List Rv) : lowK l l.length = low l := by unfold lowK low; rw [List.take_length]
theorem highK_all (l : List Rv) : highK l l.length = high l := by unfold highK high; rw [List.take_length]
theorem lowK_zero (l : List Rv) (h : 0 < l.length) : lowK l 0 = l[0].seq := by
  cases l with
  | nil => simp at h
  | cons a b => rfl
theorem highK_zero (l : List Rv) (h : 0 < l.length) : highK l 0 = l[0].seq := by
  cases l with
  | nil => simp at h
  | cons a b => rfl
theorem lohi_bd (l : List Rv) (hr : ∀ r ∈ l, right r = true) (hp : 0 < l.length) (k : Nat) (h : k ≤ l.length) : 1 ≤ lowK l k ∧ lowK l k ≤ 1099511627776 ∧ 1 ≤ highK l k ∧ highK l k ≤ 1099511627776 := by
  induction k with
  | zero =>
    rw [lowK_zero l hp, highK_zero l hp]
    obtain ⟨_, _, h3, h4, _⟩ := (right_iff _).1 (hr _ (List.getElem_mem hp))
    exact ⟨h3, h4, h3, h4⟩
  | succ k ih =>
    rw [lowK_succ l k (by omega), highK_succ l k (by omega)]
    obtain ⟨_, _, h3, h4, _⟩ := (right_iff _).1 (hr _ (List.getElem_mem (by omega : k < l.length)))
    have := ih (by omega)
    omega
theorem sorted_no {l : List Rv} {i : Nat} (h : i < l.length) (h0 : 0 < i) (hb : ahead (l[i - 1]'(by omega)) l[i] = false) : sorted l = false := by
  cases hs : sorted l with
  | false => rfl
  | true =>
    unfold sorted at hs
    rw [List.all_eq_true] at hs
    have := hs i (List.mem_range.2 h)
    rw [getElem!_pos l (i - 1) (by omega), getElem!_pos l i h, hb] at this
    simp at this
    omega
theorem sorted_yes {l : List Rv} (h : ∀ i (hi : i < l.length), 0 < i → ahead (l[i - 1]'(by omega)) l[i] = true) : sorted l = true := by
  unfold sorted
  rw [List.all_eq_true]
  intro i hi
  have hi' := List.mem_range.1 hi
  rcases Nat.eq_zero_or_pos i with h0 | h0
  · simp [h0]
  · rw [getElem!_pos l (i - 1) (by omega), getElem!_pos l i hi', h i hi' h0]; simp
/-- The state once a full block was put away. -/
def mid (size : Int) (s : St) : St := if size ≤ s.n then close s else s
theorem mid_bnd {k : Nat} {s : St} (h : Bnd k s) (hk : k ≤ 50000) (size : Int) : (mid size s).out.length ≤ 100000 * k + 100000 ∧ (mid size s).index.length ≤ k + 1 ∧ (mid size s).opn.length ≤ k ∧ 0 ≤ (mid size s).n ∧ (mid size s).n ≤ 20000 * (k : Int) := by
  obtain ⟨c1, c2, c3, c4, c5⟩ := bnd_close h (by omega)
  have h1 := h.out; have h2 := h.il; have h3 := h.ol; have h4 := h.n0; have h5 := h.n1
  unfold mid
  split
  · by_cases he : s.opn = []
    · rw [c3 he]; exact ⟨by omega, by omega, by omega, by omega, by omega⟩
    · have en : (close s).n = 0 := by unfold close; rw [if_neg he]
      rw [c4 he, en]; exact ⟨by omega, by omega, by simp, by omega, by omega⟩
  · exact ⟨by omega, by omega, by omega, by omega, by omega⟩
theorem add_mid (size : Int) (s : St) (r : Rv) : add size s r = ⟨(mid size s).out, (mid size s).index, (mid size s).opn ++ [inner r], (mid size s).n + plen (inner r), (mid size s).bad⟩ := rfl
end Tb
end Go.Proofs.YtgafionfojnieaaDoor

namespace Go.Proofs.YtgafionfojnieaaDoor
open Go.RowKit

/-- A row of pairs as it lies in memory. -/
structure Gv where
  A : Option Addr
  c : Nat
  ps : List Pv
def Gv.cells (g : Gv) : List Value := [.slice g.A g.ps.length g.c]
def Gv.pr (g : Gv) : List Pr := g.ps.map Pv.pr
theorem gvT : RT Tryd.prog 55 42 Gv.cells 1 24 (.slice none 0 0) :=
  ⟨Tryd.underlying55, by kernel_rfl, fun _ => rfl, fun a u hu => by simp [Gv.cells] at hu; subst hu; rfl, by omega, rfl⟩
theorem rd_gv_new (w : World) (g : Gv) : RdS Gv.cells 1 (w.alloc (.cells #[.slice g.A g.ps.length g.c] 42)) (w.heap.size + 1) (some ⟨w.heap.size, 0, none⟩) [g] := by
  refine RdS.of (f := Gv.cells) (n := 1) (l := [g]) (fun _ => rfl) _ 0 (by omega) (fun k hk j u hj => ?_)
  obtain rfl : k = 0 := by simp at hk; exact hk
  have hj' : g.cells[j]? = some u := hj
  rw [cell_of_row _ w.heap.size _ _ _ (0, 0) (heap_alloc_new w _)]
  simpa [Gv.cells] using hj'
/-- Rows of pairs of the call's own. -/
structure GR (w : World) (base : Nat) (A : Option Addr) (c : Nat) (gs : List Gv) (wr : World) : Prop where
  row : OwnS Gv.cells 1 wr base 42 A c gs
  inn : ∀ x ∈ gs, OwnS Pv.cells 2 wr base 48 x.A x.c x.ps
  prs : ∀ x ∈ gs, ∀ q ∈ x.ps, PvO wr base [blk A] q
  offr : ∀ x ∈ gs, Off [blk A] (blk x.A)
  below : Below base w wr
  size : base ≤ wr.heap.size
/-- .. the last of which still grows. -/
structure GS (w : World) (base : Nat) (A : Option Addr) (c : Nat) (P : List Gv) (g : Gv) (wr : World) : Prop where
  row : OwnS Gv.cells 1 wr base 42 A c (P ++ [g])
  inn : ∀ x, x ∈ P ∨ x = g → OwnS Pv.cells 2 wr base 48 x.A x.c x.ps
  prs : ∀ x, x ∈ P ∨ x = g → ∀ q ∈ x.ps, PvO wr base [blk A, blk g.A] q
  offP : ∀ x ∈ P, Off [blk A, blk g.A] (blk x.A)
  offg : Off [blk A] (blk g.A)
  below : Below base w wr
  size : base ≤ wr.heap.size
section
variable {w wr w2 : World} {base : Nat} {A : Option Addr} {c : Nat} {P gs : List Gv} {g : Gv}
theorem Off.sub {R R' : List (Option Nat)} {b : Option Nat} (h : Off R b) (hs : ∀ g, some g ∈ R' → some g ∈ R) : Off R' b := fun g hg hm => h g hg (hs g hm)
theorem PvO.sub {R R' : List (Option Nat)} {q : Pv} (h : PvO wr base R q) (hs : ∀ g, some g ∈ R' → some g ∈ R) : PvO wr base R' q := ⟨h.k, h.v, h.ko.sub hs, h.vo.sub hs⟩
theorem GS.gr (h : GS w base A c P g wr) : GR w base A c (P ++ [g]) wr :=
  ⟨h.row, fun x hx => h.inn x (by simpa using hx), fun x hx q hq => (h.prs x (by simpa using hx) q hq).sub (fun g hg => by simp at hg ⊢; exact .inl hg), fun x hx => by
    have hx : x ∈ P ∨ x = g := by simpa using hx
    rcases hx with h1 | h1
    · exact (h.offP x h1).sub (fun g hg => by simp at hg ⊢; exact .inl hg)
    · rw [h1]; exact h.offg, h.below, h.size⟩
theorem GR.call (h : GR w base A c gs wr) (hb : Below wr.heap.size wr w2) : GR w base A c gs w2 :=
  ⟨h.row.below hb, fun x hx => (h.inn x hx).below hb, fun x hx q hq => (h.prs x hx q hq).kept (grown_of_below hb) (.inl rfl), h.offr, h.below.trans (hb.mono h.size), Nat.le_trans h.size hb.size⟩
theorem GS.call (h : GS w base A c P g wr) (hb : Below wr.heap.size wr w2) : GS w base A c P g w2 :=
  ⟨h.row.below hb, fun x hx => (h.inn x hx).below hb, fun x hx q hq => (h.prs x hx q hq).kept (grown_of_below hb) (.inl rfl), h.offP, h.offg, h.below.trans (hb.mono h.size), Nat.le_trans h.size hb.size⟩
/-- A new row is begun. -/
theorem GR.more (h : GR w base A c gs wr) {A' : Option Addr} {c' : Nat} (ho : OwnS Gv.cells 1 w2 base 42 A' c' (gs ++ [⟨none, 0, []⟩])) (hg : wr.grownBy w2 (blk A)) (hat : blk A' = blk A ∨ blk A' = some wr.heap.size) : GS w base A' c' gs ⟨none, 0, []⟩ w2 := by
  have hR : ∀ r ∈ ([blk A', blk (none : Option Addr)] : List (Option Nat)), r ∈ ([blk A, none] : List (Option Nat)) ∨ r = some wr.heap.size := fun r hr => by
    simp only [List.mem_cons, List.not_mem_nil, or_false] at hr ⊢
    rcases hr with h1 | h1
    · rcases hat with h2 | h2
      · exact .inl (.inl (h1.trans h2))
      · exact .inr (h1.trans h2)
    · exact .inl (.inr h1)
  have hn : ∀ {b}, Off [blk A] b → Off [blk A, none] b := fun hb g hg hm => hb g hg (by simp at hm ⊢; exact hm)
  refine ⟨ho, fun x hx => ?_, fun x hx q hq => ?_, fun x hx => ?_, (fun k hk => by cases hk), h.below.grown hg h.size (fun k hk => (h.row.blk_ge k hk).1), Nat.le_trans h.size hg.size⟩
  · rcases hx with h1 | h1
    · exact (h.inn x h1).kept hg ((h.offr x h1).ne (by simp))
    · subst h1; exact OwnS.nil _ _ _
  · rcases hx with h1 | h1
    · have h2 := h.prs x h1 q hq
      have h3 := h2.kept hg (.inr (by simp))
      exact ⟨h3.k, h3.v, (hn h2.ko).new (fun g hgg => (h2.k.blk_ge g hgg).2) hR, (hn h2.vo).new (fun g hgg => (h2.v.blk_ge g hgg).2) hR⟩
    · subst h1; cases hq
  · exact (hn (h.offr x hx)).new (fun g hgg => ((h.inn x hx).blk_ge g hgg).2) hR
theorem cells_len (l : List Gv) : (l.flatMap Gv.cells).length = l.length := by
  induction l with
  | nil => rfl
  | cons a l ih => rw [List.flatMap_cons, List.length_append, ih]; simp [Gv.cells]; omega
/-- A pair joins the last row. -/
theorem GS.app {gA : Nat} (h : GS w base (some ⟨gA, 0, none⟩) c P g wr) {q : Pv} (hq : PvO wr base [some gA, blk g.A] q) {A' : Option Addr} {c' : Nat} (ho : OwnS Pv.cells 2 w2 base 48 A' c' (g.ps ++ [q])) (hg : wr.grownBy w2 (blk g.A)) (hat : blk A' = blk g.A ∨ blk A' = some wr.heap.size) :
    GS w base (some ⟨gA, 0, none⟩) c P ⟨A', c', g.ps ++ [q]⟩ (w2.setCell ⟨gA, P.length, none⟩ (.slice A' (g.ps ++ [q]).length c')) := by
  have hgs := grownBy_set w2 ⟨gA, P.length, none⟩ (.slice A' (g.ps ++ [q]).length c')
  have hltA : gA < wr.heap.size := (h.row.blk_ge gA rfl).2
  have hAne : blk (some (⟨gA, 0, none⟩ : Addr)) = none ∨ blk (some (⟨gA, 0, none⟩ : Addr)) ≠ blk g.A := .inr (fun e => h.offg gA e.symm (by simp [blk]))
  have hofA' : Off [some gA] (blk A') := fun k hk hm => by
    rcases hat with h1 | h1
    · exact h.offg k (h1 ▸ hk) (by simpa [blk] using hm)
    · rw [h1] at hk; injection hk with hk; simp at hm; omega
  have hR : ∀ r ∈ ([some gA, blk A'] : List (Option Nat)), r ∈ ([some gA, blk g.A] : List (Option Nat)) ∨ r = some wr.heap.size := fun r hr => by
    simp only [List.mem_cons, List.not_mem_nil, or_false] at hr ⊢
    rcases hr with h1 | h1
    · exact .inl (.inl h1)
    · rcases hat with h2 | h2
      · exact .inl (.inr (h1.trans h2))
      · exact .inr (h1.trans h2)
  have hpr : ∀ q', PvO wr base [some gA, blk g.A] q' → PvO (w2.setCell ⟨gA, P.length, none⟩ (.slice A' (g.ps ++ [q]).length c')) base [some gA, blk A'] q' := fun q' h0 => by
    have h1 := (h0.kept hg (.inr (by simp))).kept hgs (.inr (by simp))
    exact ⟨h1.k, h1.v, h1.ko.new (fun k hk => (h0.k.blk_ge k hk).2) hR, h1.vo.new (fun k hk => (h0.v.blk_ge k hk).2) hR⟩
  refine ⟨?_, fun x hx => ?_, fun x hx q' hq' => ?_, fun x hx => ?_, fun k hk hm => hofA' k hk (by simpa [blk] using hm), (h.below.grown hg h.size (fun k hk => ((h.inn g (.inr rfl)).blk_ge k hk).1)).setCell ((h.row.blk_ge gA rfl).1) _, Nat.le_trans h.size (Nat.le_trans hg.size (by simp [World.setCell]))⟩
  · have h1 := (World.ownsRow.stored (h.row.kept hg hAne) P.length (.slice A' (g.ps ++ [q]).length c')).1
    unfold OwnS
    have e1 : (P ++ [(⟨A', c', g.ps ++ [q]⟩ : Gv)]).length = (P ++ [g]).length := by simp
    have e2 : (P ++ [(⟨A', c', g.ps ++ [q]⟩ : Gv)]).flatMap Gv.cells = ((P ++ [g]).flatMap Gv.cells).set P.length (.slice A' (g.ps ++ [q]).length c') := by
      simp only [List.flatMap_append, List.flatMap_cons, List.flatMap_nil, List.append_nil]
      rw [List.set_append_right _ _ (by rw [cells_len]; omega), cells_len]
      simp [Gv.cells]
    rw [e1, e2]
    exact h1
  · rcases hx with h1 | h1
    · have h2 := h.offP x h1
      exact ((h.inn x (.inl h1)).kept hg (h2.ne (by simp))).kept hgs (h2.ne (by simp [blk]))
    · subst h1; exact ho.kept hgs (hofA'.ne (by simp))
  · rcases hx with h1 | h1
    · exact hpr q' (h.prs x (.inl h1) q' hq')
    · subst h1
      have hq' : q' ∈ g.ps ++ [q] := hq'
      simp only [List.mem_append, List.mem_singleton] at hq'
      rcases hq' with h2 | h2
      · exact hpr q' (h.prs g (.inr rfl) q' h2)
      · subst h2; exact hpr q' hq
  · exact (h.offP x hx).new (fun k hk => ((h.inn x (.inl hx)).blk_ge k hk).2) hR
theorem GR.lts (h : GR w base A c gs wr) : ∀ k, some k ∈ ([blk A] : List (Option Nat)) → k < wr.heap.size := fun k hk => by
  simp only [List.mem_cons, List.not_mem_nil, or_false] at hk
  exact (h.row.blk_ge k hk.symm).2
theorem GS.lts (h : GS w base A c P g wr) : ∀ k, some k ∈ ([blk A, blk g.A] : List (Option Nat)) → k < wr.heap.size := fun k hk => by
  simp only [List.mem_cons, List.not_mem_nil, or_false] at hk
  rcases hk with h1 | h1
  · exact (h.row.blk_ge k h1.symm).2
  · exact ((h.inn g (.inr rfl)).blk_ge k h1.symm).2
/-- Where the row lies, and the cell of its last row. -/
theorem GS.at_ (h : GS w base A c P g wr) : ∃ gA cur, A = some ⟨gA, 0, none⟩ ∧ wr.heap[gA]? = some (.cells cur 42) ∧ wr.cell? ⟨gA, P.length, none⟩ = some (.slice g.A g.ps.length g.c) := by
  obtain ⟨gA, cur, rfl, _, _, hh⟩ := h.row.form (by simp)
  refine ⟨gA, cur, rfl, hh, ?_⟩
  have h1 := World.ownsRow.cells (h.row) (g := gA) rfl P.length (.slice g.A g.ps.length g.c) (by
    simp only [List.flatMap_append, List.flatMap_cons, List.flatMap_nil, List.append_nil]
    rw [List.getElem?_append_right (by rw [cells_len]; omega), cells_len]
    simp [Gv.cells])
  rw [← h1]
  congr 1
  unfold Addr.add
  split
  · rename_i h0; rw [h0]
  · simp
end
namespace Tb
/-- Records' pairs, parted into blocks; how many bytes the last one has. -/
def pst (size : Int) (s : List (List Pr) × Int) (r : Rv) : List (List Pr) × Int :=
  if s.1 = [] ∨ size ≤ s.2 then (s.1 ++ [[inner r]], plen (inner r)) else (s.1.dropLast ++ [(s.1.getLast?.getD []) ++ [inner r]], s.2 + plen (inner r))
def parts (size : Int) (l : List Rv) : List (List Pr) × Int := l.foldl (pst size) ([], 0)
theorem parts_succ (size : Int) (l : List Rv) (k : Nat) (h : k < l.length) : parts size (l.take (k + 1)) = pst size (parts size (l.take k)) l[k] := by
  unfold parts
  rw [List.take_succ_eq_append_getElem h, List.foldl_append]; rfl
end Tb
end Go.Proofs.YtgafionfojnieaaDoor

namespace Go.Proofs.YtgafionfojnieaaDoor
open Go.RowKit

namespace Tb
theorem parts_bd (size : Int) (l : List Rv) (hr : ∀ r ∈ l, right r = true) (k : Nat) (h : k ≤ l.length) : 0 ≤ (parts size (l.take k)).2 ∧ (parts size (l.take k)).2 ≤ 20000 * (k : Int) := by
  induction k with
  | zero => simp [parts]
  | succ k ih =>
    rw [parts_succ size l k (by omega)]
    have := ih (by omega)
    obtain ⟨i1, i2⟩ := inner_bd (hr _ (List.getElem_mem (by omega : k < l.length)))
    unfold pst plen
    split <;> simp only <;> omega
theorem parts_len (size : Int) (l : List Rv) (k : Nat) (h : k ≤ l.length) : (parts size (l.take k)).1.length ≤ k := by
  induction k with
  | zero => simp [parts]
  | succ k ih =>
    rw [parts_succ size l k (by omega)]
    have := ih (by omega)
    unfold pst
    split
    · simp; omega
    · rename_i hn
      have : 0 < (parts size (l.take k)).1.length := List.length_pos_iff.2 (fun e => hn (.inl e))
      simp; omega
theorem parts_last (size : Int) (l : List Rv) (k : Nat) (h : k ≤ l.length) : ((parts size (l.take k)).1.getLast?.getD []).length ≤ k := by
  induction k with
  | zero => simp [parts]
  | succ k ih =>
    rw [parts_succ size l k (by omega)]
    have := ih (by omega)
    unfold pst
    split
    · simp
    · simp; omega
theorem pst_last (size : Int) (l : List Rv) (k : Nat) (h : k < l.length) {n : Nat} (hn : ((parts size (l.take (k + 1))).1.getLast?.getD []).length = n) : n ≤ k + 1 := by
  rw [← hn]; exact parts_last size l (k + 1) h
end Tb
def PartP (w : World) (l : List Rv) (size : Int) (e : Ending) (w' : World) : Prop := ∃ A c gs, e = .returned (.slice A gs.length c) ∧ GR w w.heap.size A c gs w' ∧ gs.map Gv.pr = (Tb.parts size l).1
/-- What lies in a round. -/
def GO (w : World) (A : Option Addr) (c : Nat) (gs : List Gv) (wr : World) : Prop := (gs = [] ∧ GR w w.heap.size A c gs wr) ∨ ∃ P g, gs = P ++ [g] ∧ GS w w.heap.size A c P g wr
theorem GO.gr {w wr : World} {A : Option Addr} {c : Nat} {gs : List Gv} (h : GO w A c gs wr) : GR w w.heap.size A c gs wr := by
  rcases h with ⟨_, h⟩ | ⟨P, g, rfl, h⟩
  · exact h
  · exact h.gr
theorem GO.call {w wr w2 : World} {A : Option Addr} {c : Nat} {gs : List Gv} (h : GO w A c gs wr) (hb : Below wr.heap.size wr w2) : GO w A c gs w2 := by
  rcases h with ⟨e, h⟩ | ⟨P, g, rfl, h⟩
  · exact .inl ⟨e, h.call hb⟩
  · exact .inr ⟨P, g, rfl, h.call hb⟩
/-- A pair of the call's own, apart from what was there before. -/
structure Fr (base n : Nat) (q : Pv) (wr : World) : Prop where
  k : Own wr base 5 q.kA q.kc q.k
  v : Own wr base 5 q.vA q.vc q.v
  kf : ∀ g, blk q.kA = some g → n ≤ g
  vf : ∀ g, blk q.vA = some g → n ≤ g
theorem Fr.pv {base n : Nat} {q : Pv} {wr : World} {R : List (Option Nat)} (h : Fr base n q wr) (hR : ∀ g, some g ∈ R → g < n) : PvO wr base R q := ⟨h.k, h.v, Off.fresh h.kf hR, Off.fresh h.vf hR⟩
theorem Fr.call {base n : Nat} {q : Pv} {wr w2 : World} (h : Fr base n q wr) (hb : Below wr.heap.size wr w2) : Fr base n q w2 := ⟨h.k.below hb, h.v.below hb, h.kf, h.vf⟩
theorem PvO.new {wr : World} {base : Nat} {q : Pv} {R R' : List (Option Nat)} {n : Nat} (h : PvO wr base R q) (hlt : wr.heap.size ≤ n) (hR : ∀ r ∈ R', r ∈ R ∨ r = none ∨ r = some n) : PvO wr base R' q := by
  have key : ∀ b, Off R b → (∀ g, b = some g → g < n) → Off R' b := fun b hb hl g hg hm => by
    rcases hR _ hm with h1 | h1 | h1
    · exact hb g hg h1
    · cases h1
    · injection h1 with h1
      have := hl g hg; omega
  exact ⟨h.k, h.v, key _ h.ko (fun g hg => Nat.lt_of_lt_of_le (h.k.blk_ge g hg).2 hlt), key _ h.vo (fun g hg => Nat.lt_of_lt_of_le (h.v.blk_ge g hg).2 hlt)⟩
theorem cell_of_block {w w' : World} {g i : Nat} (h : w'.heap[g]? = w.heap[g]?) : w'.cell? ⟨g, i, none⟩ = w.cell? ⟨g, i, none⟩ := by
  unfold World.cell?
  simp only [h]
theorem Fr.grow {base n : Nat} {q : Pv} {Z Z2 w9 : World} {A' A3 : Option Addr} (hF : Fr base n q Z) (hb : Below Z.heap.size Z Z2) (hg : Z2.grownBy w9 (blk A')) (hA : ∀ k, blk A' = some k → k < n) (hat : blk A3 = blk A' ∨ blk A3 = some Z2.heap.size) : PvO w9 base [blk A3, none] q := by
  have h1 : PvO Z2 base [blk A'] q := (hF.call hb).pv (fun k hk => hA k (by simp only [List.mem_cons, List.not_mem_nil, or_false] at hk; exact hk.symm))
  have h2 : PvO Z2 base [blk A3, none, blk A'] q := h1.new (n := Z2.heap.size) (Nat.le_refl _) (fun r hr => by
    simp only [List.mem_cons, List.not_mem_nil, or_false] at hr ⊢
    rcases hr with h | h | h
    · rcases hat with h3 | h3
      · exact .inl (h.trans h3)
      · exact .inr (.inr (h.trans h3))
    · exact .inr (.inl h)
    · exact .inl h)
  exact (h2.kept hg (.inr (by simp))).sub (fun k hk => by simp at hk ⊢; exact .inl hk)
set_option maxHeartbeats 4000000 in
set_option maxRecDepth 100000 in
theorem part_any (A : Option Addr) (c : Nat) (l : List Rv) (size : Int) (w : World) (h : RdRv w w.heap.size A l) (hl : l.length ≤ 20000) (hr : ∀ r ∈ l, Tb.right r = true) :
    Calls Tryd.prog 24 #[.slice A l.length c, .int .i64 size] w (PartP w l size) := by
  have HH := Lib.hid h
  have HR := Lib.hid hr
  rcases Nat.eq_zero_or_pos l.length with hz | hp
  · have hn := List.eq_nil_of_length_eq_zero hz
    subst hn
    have HG : Hid (PartP w [] size (.returned (.slice none 0 0)) w) := Lib.hid ⟨none, 0, [], rfl, ⟨OwnS.nil _ _ _, (fun x hx => by cases hx), (fun x hx => by cases hx), (fun x hx => by cases hx), Below.refl _ _, Nat.le_refl _⟩, rfl⟩
    clear h hr
    go_enter Tryd.func24, Tryd.ntmps24
    go_wp2_with fail
    go_loopw [5, 6, 7, 8, 9] (fun o n i _ _ wr => o = .slice none 0 0 ∧ i = .int .i64 0 ∧ wr = w) (fun _ _ _ _ _ _ => 0)
    case atStart => exact ⟨rfl, rfl, rfl⟩
    case round =>
      obtain ⟨rfl, rfl, rfl⟩ := hrel
      go_wp2_with fail
      go_ret
      exact HG.out
  obtain ⟨b, off, hA, hbl, hrow⟩ := h.row4 hp
  subst hA
  have HROW := Lib.hid hrow
  have HG0 : Hid (GO w none 0 [] w) := Lib.hid (.inl ⟨rfl, OwnS.nil _ _ _, (fun x hx => by cases hx), (fun x hx => by cases hx), (fun x hx => by cases hx), Below.refl _ _, Nat.le_refl _⟩)
  clear h hr hrow
  go_enter Tryd.func24, Tryd.ntmps24
  go_wp2_with fail
  go_loopw [5, 6, 7, 8, 9] (fun o n i _ _ wr => ∃ (k m : Nat) (A' : Option Addr) (c' : Nat) (gs : List Gv) (N : Int), k ≤ l.length ∧ i = .int .i64 (k : Int) ∧ o = .slice A' m c' ∧ n = .int .i64 N ∧ Hid (m = gs.length ∧ gs.map Gv.pr = (Tb.parts size (l.take k)).1 ∧ N = (Tb.parts size (l.take k)).2) ∧ Hid (GO w A' c' gs wr)) (fun _ _ i _ _ _ => l.length - (intOf i).toNat)
  case atStart => exact ⟨0, 0, none, 0, [], 0, by omega, rfl, rfl, rfl, Lib.hid ⟨rfl, rfl, rfl⟩, HG0⟩
  case round =>
    obtain ⟨k, m, A', c', gs, N, hk, rfl, rfl, rfl, HC, HG⟩ := hrel
    clear HG0
    by_cases hlt : k < l.length
    · obtain ⟨r, hrv⟩ : ∃ r, r = l[k] := ⟨_, rfl⟩
      have hmem : r ∈ l := by rw [hrv]; exact List.getElem_mem hlt
      have HRT := Lib.hid (HR.out r hmem)
      have hbb := HG.out.gr.below
      obtain ⟨c0, c1, c2, c3⟩ := HROW.out k hlt
      rw [← hrv] at c0 c1 c2 c3
      have r0 := (hbb.cell (p := ⟨b, off + k * 4, none⟩) hbl).trans c0
      have r1 := (hbb.cell (p := ⟨b, off + k * 4 + 1, none⟩) hbl).trans c1
      have r2 := (hbb.cell (p := ⟨b, off + k * 4 + 2, none⟩) hbl).trans c2
      have r3 := (hbb.cell (p := ⟨b, off + k * 4 + 3, none⟩) hbl).trans c3
      have hrt := (Tb.right_iff _).1 HRT.out
      have KIN := Lib.hid (rinner_any r wr (((HH.out.ok r hmem).below hbb (Nat.le_refl _)).more HG.out.gr.size) (by omega) (by omega) hrt.2.2.1 hrt.2.2.2.1)
      have HIB := Lib.hid (Tb.inner_bd HRT.out)
      have HNB := Lib.hid (Tb.parts_bd size l HR.out k (by omega))
      have HPS : Hid (Tb.parts size (l.take (k + 1)) = Tb.pst size (Tb.parts size (l.take k)) r) := Lib.hid (by rw [hrv]; exact Tb.parts_succ size l k hlt)
      obtain ⟨PR, hPR⟩ : ∃ PR, PR = Tb.inner r := ⟨_, rfl⟩
      rw [← hPR] at KIN HIB
      have HPR := Lib.hid hPR
      clear c0 c1 c2 c3 hmem hrv hbb hrt hPR
      obtain ⟨kA, kc, kk, seq, del, vA, vc, vv⟩ := r
      obtain ⟨PK, PV⟩ := PR
      simp only [Rv.val] at r0 r1 r2 r3 KIN HIB
      go_wp2_with fail
      refine KIN.out.mono ?_
      rintro e w4 ⟨A1, c1, A2, c2, rfl, ho1, ho2, hb4⟩
      have hbZ : Below wr.heap.size wr (w4.alloc (.cells #[.slice A1 PK.length c1, .slice A2 PV.length c2] 48)) := hb4.alloc hb4.size _
      have HGZ := Lib.hid (HG.out.call hbZ)
      have hbs := HG.out.gr.size
      have HFZ : Hid (Fr w.heap.size wr.heap.size ⟨A1, c1, PK, A2, c2, PV⟩ (w4.alloc (.cells #[.slice A1 PK.length c1, .slice A2 PV.length c2] 48))) := Lib.hid ⟨(ho1.alloc _).mono hbs, (ho2.alloc _).mono hbs, fun g hg => (ho1.blk_ge g hg).1, fun g hg => (ho2.blk_ge g hg).1⟩
      have HPZ : Hid ((w4.alloc (.cells #[.slice A1 PK.length c1, .slice A2 PV.length c2] 48)).heap[w4.heap.size]? = some (.cells #[.slice A1 PK.length c1, .slice A2 PV.length c2] 48)) := Lib.hid (heap_alloc_new w4 _)
      have HGP : Hid (wr.heap.size ≤ w4.heap.size ∧ w4.heap.size < (w4.alloc (.cells #[.slice A1 PK.length c1, .slice A2 PV.length c2] 48)).heap.size) := Lib.hid ⟨hb4.size, by simp⟩
      have HSZ : Hid (∀ k, blk A' = some k → k < wr.heap.size) := Lib.hid (fun k hk => HG.out.gr.lts k (by simp [hk]))
      have hN0 : 0 ≤ N := by rw [HC.out.2.2]; exact HNB.out.1
      have hN1 : N ≤ 400000000 := by rw [HC.out.2.2]; have := HNB.out.2; omega
      have hpk := HIB.out.1
      have hpv := HIB.out.2
      have HBZ := Lib.hid hbZ
      clear ho1 ho2 hb4 hbZ hbs KIN r0 r1 r2 r3
      by_cases h0 : gs = [] ∨ size ≤ N
      case' pos =>
        have HNX : Hid (Tb.pst size (Tb.parts size (l.take k)) ⟨kA, kc, kk, seq, del, vA, vc, vv⟩ = (gs.map Gv.pr ++ [([] : List Pr) ++ [⟨PK, PV⟩]], 0 + Tb.plen ⟨PK, PV⟩)) := Lib.hid (by
          unfold Tb.pst
          rw [if_pos (by rw [← HC.out.2.1, ← HC.out.2.2]; rcases h0 with h1 | h1; exact .inl (by simp [h1]); exact .inr h1), HC.out.2.1, ← HPR.out]
          simp)
        have hgl : m = gs.length := HC.out.1
        have hcond : (m = 0 ∧ ((m : Int) == 0) = true ∧ decide ((m : Int) = 0) = true) ∨ (((m : Int) == 0) = false ∧ decide ((m : Int) = 0) = false ∧ size ≤ N) := by
          by_cases hz : m = 0
          · exact .inl ⟨hz, by simp [hz], by simp [hz]⟩
          · rcases h0 with h1 | h1
            · exact absurd (by rw [hgl, h1]; rfl) hz
            · exact .inr ⟨by simp; omega, by simp; omega, h1⟩
        have hgm : m ≤ 20000 := by
          have h1 := congrArg List.length HC.out.2.1
          have h2 := Tb.parts_len size l k (by omega)
          rw [List.length_map] at h1; omega
        clear h0
        have HGL := Lib.hid hgl
        clear hgl
        rcases hcond with ⟨hz0, hz1, hz2⟩ | ⟨hz1, hz2, hz0⟩
        case' inl => clear hz0
      case' neg =>
        have hne : gs ≠ [] := fun e => h0 (.inl e)
        have hsz : ¬ size ≤ N := fun e => h0 (.inr e)
        have hGS : ∃ P g, gs = P ++ [g] ∧ GS w w.heap.size A' c' P g wr := by
          rcases HG.out with ⟨e, _⟩ | h1
          · exact absurd e hne
          · exact h1
        obtain ⟨P, g, hgs, hG⟩ := hGS
        have hgl : m = P.length + 1 := by rw [HC.out.1, hgs]; simp
        have hgm : m ≤ 20000 := by
          have h1 := congrArg List.length HC.out.2.1
          have h2 := Tb.parts_len size l k (by omega)
          rw [List.length_map, ← HC.out.1] at h1; omega
        have HNX : Hid (Tb.pst size (Tb.parts size (l.take k)) ⟨kA, kc, kk, seq, del, vA, vc, vv⟩ = (P.map Gv.pr ++ [g.pr ++ [⟨PK, PV⟩]], N + Tb.plen ⟨PK, PV⟩)) := Lib.hid (by
          have e1 := HC.out.2.1
          rw [hgs] at e1
          unfold Tb.pst
          rw [← HPR.out, ← HC.out.2.2, ← e1]
          rw [if_neg (by rintro (h1 | h1); · simp at h1
                         · exact hsz h1)]
          simp)
        obtain ⟨pl, hpl⟩ : ∃ pl, pl = P.length := ⟨_, rfl⟩
        have HPLN := Lib.hid hpl
        have HGX := Lib.hid (hG.call HBZ.out)
        have HQX : Hid (PvO (w4.alloc (.cells #[.slice A1 PK.length c1, .slice A2 PV.length c2] 48)) w.heap.size [blk A', blk g.A] ⟨A1, c1, PK, A2, c2, PV⟩) := Lib.hid (HFZ.out.pv hG.lts)
        have HGPO : Hid (some w4.heap.size ∉ ([blk A', blk g.A] : List (Option Nat))) := Lib.hid (fun hm => by have h1 := hG.lts _ hm; have h2 := HGP.out.1; omega)
        have HPX := Lib.hid HPZ.out
        have hsum : IntKind.i64.wrap ((m : Int) - 1) = (pl : Int) := by rw [IntKind.wrap_i64]; omega
        have hpl0 : (0 : Int) ≤ (pl : Int) := by omega
        have hpl1 : (pl : Int) < (m : Int) := by omega
        have hme : ((m : Int) == 0) = false := by simp; omega
        have hmd : decide ((m : Int) = 0) = false := by simp; omega
        have hpg : pl ≤ 20000 := by omega
        have HMQ : Hid (m = pl + 1) := Lib.hid (by omega)
        clear h0 hne hG hgl hpl hgs HGZ HFZ HPZ HG hgm
        go_wp2_with fail
        obtain ⟨gp, hgp⟩ : ∃ gp, w4.heap.size = gp := ⟨_, rfl⟩
        obtain ⟨X, hX⟩ : ∃ X, (w4.alloc (.cells #[.slice A1 PK.length c1, .slice A2 PV.length c2] 48)) = X := ⟨_, rfl⟩
        rw [hX] at HGX HQX HPX ⊢
        rw [hgp] at HGPO HPX ⊢
        have HGPX : Hid (gp < X.heap.size) := Lib.hid (by have := HGP.out.2; rw [hX, hgp] at this; exact this)
        obtain ⟨A3, hA3e⟩ : ∃ A3, A' = A3 := ⟨_, rfl⟩
        subst hA3e
        obtain ⟨A3, hA3e⟩ : ∃ A3, A3 = A' := ⟨_, rfl⟩
        rw [← hA3e] at HGX HQX HGPO ⊢
        clear hA3e hme hmd hX hgp HGP HBZ HSZ
        obtain ⟨c3, hc3⟩ : ∃ c3, c3 = c' := ⟨_, rfl⟩
        subst hc3
        obtain ⟨mq, hmq⟩ : ∃ mq, mq = m := ⟨_, rfl⟩
        subst hmq
      case' inl | inr =>
        go_wp2_with (at_builtin; refine wpList_append_s _ rfl _ _ gvT rfl w.heap.size A' c' gs (by show Value.slice A' m c' = Value.slice A' gs.length c'; rw [HGL.out]) (HGZ.out.gr.row.alloc _) (w4.heap.size + 1 + 1) (some ⟨w4.heap.size + 1, 0, none⟩) 1 1 [⟨none, 0, []⟩] rfl rfl (by have := rd_gv_new (w4.alloc (.cells #[.slice A1 PK.length c1, .slice A2 PV.length c2] 48)) ⟨none, 0, []⟩; simpa using this) (by rw [← HGL.out]; simp; omega) (by rw [← HGL.out]; unfold maxLen; simp; omega) (by have := HGZ.out.gr.size; simp at this ⊢; omega) ?_)
        intro A3 c3 LK w9 hLK hoK hgK hatK
        have hLKn : LK.length = m + 1 := by rw [hLK, List.length_append, HGL.out]; rfl
        have hatK' : blk A3 = blk A' ∨ blk A3 = some (((w4.alloc (.cells #[.slice A1 PK.length c1, .slice A2 PV.length c2] 48)).alloc (.cells #[.slice none 0 0] 42)).heap.size) := by simpa using hatK
        have hbal : Below (w4.alloc (.cells #[.slice A1 PK.length c1, .slice A2 PV.length c2] 48)).heap.size (w4.alloc (.cells #[.slice A1 PK.length c1, .slice A2 PV.length c2] 48)) ((w4.alloc (.cells #[.slice A1 PK.length c1, .slice A2 PV.length c2] 48)).alloc (.cells #[.slice none 0 0] 42)) := (Below.refl _ _).alloc (Nat.le_refl _) _
        have HGX : Hid (GS w w.heap.size A3 c3 gs ⟨none, 0, []⟩ w9) := Lib.hid ((HGZ.out.gr.call hbal).more (by rw [← hLK]; exact hoK) hgK hatK')
        have HQX : Hid (PvO w9 w.heap.size [blk A3, none] ⟨A1, c1, PK, A2, c2, PV⟩) := Lib.hid (HFZ.out.grow hbal hgK HSZ.out hatK')
        have hgpne : some w4.heap.size ≠ blk A' := fun e => by have h1 := HSZ.out _ e.symm; have h2 := HGP.out.1; omega
        have HPX : Hid (w9.heap[w4.heap.size]? = some (.cells #[.slice A1 PK.length c1, .slice A2 PV.length c2] 48)) := Lib.hid ((hgK.block _ (Nat.lt_of_lt_of_le HGP.out.2 hbal.size) hgpne).trans ((hbal.block _ HGP.out.2).trans HPZ.out))
        have HGPO : Hid (some w4.heap.size ∉ ([blk A3, none] : List (Option Nat))) := Lib.hid (fun hm => by
          simp only [List.mem_cons, List.not_mem_nil, or_false] at hm
          rcases hm with h1 | h1
          · rcases hatK' with h2 | h2
            · exact hgpne (h1.trans h2)
            · have := h1.trans h2
              simp at this; omega
          · cases h1)
        have HGPX : Hid (w4.heap.size < w9.heap.size) := Lib.hid (Nat.lt_of_lt_of_le (Nat.lt_of_lt_of_le HGP.out.2 hbal.size) hgK.size)
        obtain ⟨g, hg⟩ : ∃ g : Gv, g = ⟨none, 0, []⟩ := ⟨_, rfl⟩
        have hgA : (none : Option Nat) = blk g.A := by rw [hg]; rfl
        have HNY := HNX
        have HNX : Hid (Tb.pst size (Tb.parts size (l.take k)) ⟨kA, kc, kk, seq, del, vA, vc, vv⟩ = (gs.map Gv.pr ++ [g.pr ++ [⟨PK, PV⟩]], 0 + Tb.plen ⟨PK, PV⟩)) := Lib.hid (by rw [HNY.out, hg]; rfl)
        rw [← hg] at HGX
        rw [hgA] at HQX HGPO
        obtain ⟨P, hP⟩ : ∃ P, gs = P := ⟨_, rfl⟩
        rw [hP] at HGX HNX HGL
        obtain ⟨pl, hpl⟩ : ∃ pl, m = pl := ⟨_, rfl⟩
        rw [hpl] at HGL hLKn
        have HPLN := HGL
        obtain ⟨mq, hmq⟩ : ∃ mq, LK.length = mq := ⟨_, rfl⟩
        rw [hmq] at hLKn ⊢
        have hsum : IntKind.i64.wrap ((mq : Int) - 1) = (pl : Int) := by rw [IntKind.wrap_i64]; omega
        have hpl0 : (0 : Int) ≤ (pl : Int) := by omega
        have hpl1 : (pl : Int) < (mq : Int) := by omega
        have hpg : pl ≤ 20000 := by omega
        have HMQ : Hid (mq = pl + 1) := Lib.hid hLKn
        clear hLK hoK hgK hatK hatK' hbal hgpne hg hgA HNY hP hpl hmq hLKn hz1 hz2 HGZ HFZ HPZ HG hgm HGL
        go_wp2_with fail
        obtain ⟨X, hX⟩ : ∃ X, w9 = X := ⟨_, rfl⟩
        obtain ⟨gp, hgp⟩ : ∃ gp, w4.heap.size = gp := ⟨_, rfl⟩
        subst hX
        obtain ⟨X, hX⟩ : ∃ X, X = w9 := ⟨_, rfl⟩
        rw [← hX] at HGX HQX HPX HGPX ⊢
        rw [hgp] at HGPO HPX HGPX ⊢
        clear hX hgp HGP HBZ HSZ
      all_goals
        obtain ⟨gA, cur, hA3, _, hcell⟩ := HGX.out.at_
        subst hA3
        rw [← HPLN.out] at hcell
        obtain ⟨V, hV⟩ : ∃ V, X.drew = V := ⟨_, rfl⟩
        have hbV : Below X.heap.size X V := by rw [← hV]; exact (Below.refl _ _).drew
        have HGV := Lib.hid (HGX.out.call hbV)
        have HPV := Lib.hid ((hbV.block gp HGPX.out).trans HPX.out)
        have HQV := Lib.hid (HQX.out.kept (grown_of_below hbV) (.inl rfl))
        have hgpV : gp < V.heap.size := Nat.lt_of_lt_of_le HGPX.out hbV.size
        have hgAV : gA < V.heap.size := (HGV.out.row.blk_ge gA rfl).2
        have HS0 : V.cell? ⟨gA, pl, none⟩ = some (.slice g.A g.ps.length g.c) ∧ V.cell? ⟨gp, 0, none⟩ = some (.slice A1 PK.length c1) ∧ V.cell? ⟨gp, 1, none⟩ = some (.slice A2 PV.length c2) := by
          refine ⟨(hbV.cell (p := ⟨gA, pl, none⟩) (HGX.out.row.blk_ge gA rfl).2).trans hcell, ?_, ?_⟩
          · rw [cell_of_row V gp 0 _ _ (0, 0) HPV.out]; rfl
          · rw [cell_of_row V gp 1 _ _ (0, 0) HPV.out]; rfl
        have HSB : Hid (∀ w', Below V.heap.size V w' → w'.cell? ⟨gA, pl, none⟩ = some (.slice g.A g.ps.length g.c) ∧ w'.cell? ⟨gp, 0, none⟩ = some (.slice A1 PK.length c1) ∧ w'.cell? ⟨gp, 1, none⟩ = some (.slice A2 PV.length c2)) := Lib.hid (fun Y' hb => ⟨(hb.cell (p := ⟨gA, pl, none⟩) hgAV).trans HS0.1, (hb.cell (p := ⟨gp, 0, none⟩) hgpV).trans HS0.2.1, (hb.cell (p := ⟨gp, 1, none⟩) hgpV).trans HS0.2.2⟩)
        refine wp_region_E 10 (fun w' => w'.cell? ⟨gA, pl, none⟩ = some (.slice g.A g.ps.length g.c) ∧ w'.cell? ⟨gp, 0, none⟩ = some (.slice A1 PK.length c1) ∧ w'.cell? ⟨gp, 1, none⟩ = some (.slice A2 PV.length c2)) (by kernel_rfl) ?_
        rw [hV]
        clear hV hbV hcell HPX HQX HGX HGPX
        refine wpAnyE_take (i := 0) (v := ?_) rfl (by kernel_rfl) (by kernel_rfl) (by kernel_rfl) (by kernel_rfl) (fun _ _ _ h => h) (Or.inl ⟨by rfl, ?_⟩) HS0 ?_
        rotate_left
        · (intro wy hSw; obtain ⟨s1, s2x, s3⟩ := hSw; go_simp; try with_reducible rfl)
        try simp only [Act.put, List.setIfInBounds_toArray]
        refine wpAnyE_take (i := 1) (v := ?_) rfl (by kernel_rfl) (by kernel_rfl) (by kernel_rfl) (by kernel_rfl) (fun _ _ _ h => h) (Or.inl ⟨by rfl, ?_⟩) HS0 ?_
        rotate_left
        · (intro wy hSw; obtain ⟨s1, s2x, s3⟩ := hSw; go_simp; try with_reducible rfl)
        try simp only [Act.put]
        refine wpAnyE_take (i := 2) (v := ?_) rfl (by kernel_rfl) (by kernel_rfl) (by kernel_rfl) (by kernel_rfl) (fun _ _ _ h => h) (Or.inl ⟨by rfl, ?_⟩) HS0 ?_
        rotate_left
        · (intro wy hSw; obtain ⟨s1, s2x, s3⟩ := hSw; go_simp; try with_reducible rfl)
        try simp only [Act.put]
        refine wpAnyE_take (i := 3) (v := ?_) rfl (by kernel_rfl) (by kernel_rfl) (by kernel_rfl) (by kernel_rfl) (fun _ _ _ h => h) (Or.inl ⟨by rfl, ?_⟩) HS0 ?_
        rotate_left
        · (intro wy hSw; obtain ⟨s1, s2x, s3⟩ := hSw; go_simp; try with_reducible rfl)
        try simp only [Act.put]
        refine wpAnyE_take (i := 4) (v := ?_) rfl (by kernel_rfl) (by kernel_rfl) (by kernel_rfl) (by kernel_rfl) (fun _ _ _ h => h) (Or.inl ⟨by rfl, ?_⟩) HS0 ?_
        rotate_left
        · (intro wy hSw; obtain ⟨s1, s2x, s3⟩ := hSw; go_simp; try with_reducible rfl)
        try simp only [Act.put]
        refine wpAnyE_take (i := 5) (v := ?_) rfl (by kernel_rfl) (by kernel_rfl) (by kernel_rfl) (by kernel_rfl) (fun _ _ _ h => h) (Or.inl ⟨by rfl, ?_⟩) HS0 ?_
        rotate_left
        · (intro wy hSw; obtain ⟨s1, s2x, s3⟩ := hSw; go_simp; try with_reducible rfl)
        try simp only [Act.put]
        refine wpAnyE_take (i := 6) (v := ?_) rfl (by kernel_rfl) (by kernel_rfl) (by kernel_rfl) (by kernel_rfl) (fun _ _ _ h => h) (Or.inl ⟨by rfl, ?_⟩) HS0 ?_
        rotate_left
        · (intro wy hSw; obtain ⟨s1, s2x, s3⟩ := hSw; go_simp; try with_reducible rfl)
        try simp only [Act.put]
        refine wpAnyE_one (i := 7) (by kernel_rfl) rfl (fun K hK => ?_)
        go_simp
        have hb6 := (Below.refl V.heap.size V).alloc (Nat.le_refl _) (.cells #[.slice A1 PK.length c1, .slice A2 PV.length c2] 48)
        refine hK _ _ (HSB.out _ hb6) ?_
        try simp only [Act.put]
        have HG6 := Lib.hid (HGV.out.call hb6)
        have HQ6 := Lib.hid (HQV.out.kept (grown_of_below hb6) (.inl rfl))
        have HP6 := Lib.hid ((hb6.block gp hgpV).trans HPV.out)
        have HIN := Lib.hid (HG6.out.inn g (.inr rfl))
        have hgsl : g.ps.length ≤ 1000000 := by
          have h1 := Tb.parts_last size l (k + 1) (by omega)
          rw [HPS.out, HNX.out] at h1
          simp [Gv.pr] at h1; omega
        refine wpAnyE_one (i := 8) (by kernel_rfl) rfl (fun K hK => ?_)
        refine step_append_sd _ (by rfl) (some 43) (by rfl) (.tmp 40) (.tmp 42) pairT (by rfl) w.heap.size g.A g.c g.ps rfl HIN.out (V.heap.size + 1) (some ⟨V.heap.size, 0, none⟩) 1 1 [⟨A1, c1, PK, A2, c2, PV⟩] rfl rfl (rd_pair_new V ⟨A1, c1, PK, A2, c2, PV⟩) (by simp; omega) (by unfold maxLen; simp; omega) HG6.out.size ?_
        intro A6 c6 LL w6 hL ho6 hg6 hat6
        have HLL : Hid (LL = g.ps ++ [⟨A1, c1, PK, A2, c2, PV⟩]) := Lib.hid hL
        have hne2 : some gp ≠ blk g.A := fun e => HGPO.out (by rw [e]; simp)
        have hneA : some gA ≠ blk g.A := fun e => HG6.out.offg gA e.symm (by simp [blk])
        have hgp7 := (Array.getElem?_eq_some_iff.1 HP6.out).1
        have HPW := Lib.hid ((hg6.block gp hgp7 hne2).trans HP6.out)
        have hrowA := HG6.out.row
        obtain ⟨gA', cur', hAe, _, hltA, hrA⟩ := hrowA.form (by simp)
        have hAe' : gA = gA' := by injection hAe with hAe; injection hAe
        subst hAe'
        have HRW := Lib.hid ((hg6.block gA hltA hneA).trans hrA)
        have hcA : w6.cell? ⟨gA, pl, none⟩ = some (.slice g.A g.ps.length g.c) := by
          have h1 := (HSB.out _ hb6).1
          rw [← h1]
          exact cell_of_block (hg6.block gA hltA hneA)
        have hS6 : w6.cell? ⟨gA, pl, none⟩ = some (.slice g.A g.ps.length g.c) ∧ w6.cell? ⟨gp, 0, none⟩ = some (.slice A1 PK.length c1) ∧ w6.cell? ⟨gp, 1, none⟩ = some (.slice A2 PV.length c2) := by
          refine ⟨hcA, ?_, ?_⟩
          · rw [cell_of_row w6 gp 0 _ _ (0, 0) HPW.out]; rfl
          · rw [cell_of_row w6 gp 1 _ _ (0, 0) HPW.out]; rfl
        have fz6 : w6.frozen? ⟨gA, pl, none⟩ = false := frozen_of_row w6 gA pl _ _ HRW.out
        have HO6 := Lib.hid ho6; have HGR6 := Lib.hid hg6; have HT6 := Lib.hid hat6
        refine hK _ _ hS6 ?_
        try simp only [Act.put]
        refine wpAnyE_one (i := 9) (by kernel_rfl) rfl (fun K hK => ?_)
        go_simp
        refine hK _ _ hS6 ?_
        try simp only [Act.put]
        obtain ⟨g1, g2, g3⟩ := hS6
        refine wpAnyE_last (by kernel_rfl) (by kernel_rfl) rfl (fun K hK => ?_)
        go_simp
        refine hK _ _ ?_
        have hLn : LL.length = g.ps.length + 1 := by rw [HLL.out]; simp
        have hG7 : GS w w.heap.size (some ⟨gA, 0, none⟩) c3 P ⟨A6, c6, g.ps ++ [⟨A1, c1, PK, A2, c2, PV⟩]⟩ (w6.setCell ⟨gA, pl, none⟩ (.slice A6 (g.ps.length + 1) c6)) := by
          have ho := HO6.out
          have hL := HLL.out
          subst hL
          have := HG6.out.app HQ6.out ho HGR6.out HT6.out
          rw [List.length_append] at this
          rw [HPLN.out]
          exact this
        have hne3 : gp ≠ gA := fun e => HGPO.out (by rw [e]; simp [blk])
        have hp7 : (w6.setCell ⟨gA, pl, none⟩ (.slice A6 (g.ps.length + 1) c6)).heap[gp]? = some (.cells #[.slice A1 PK.length c1, .slice A2 PV.length c2] 48) := (Below.heap_setCell _ _ _ _ hne3).trans HPW.out
        obtain ⟨W7, hW7⟩ : ∃ W7, w6.setCell ⟨gA, pl, none⟩ (.slice A6 (g.ps.length + 1) c6) = W7 := ⟨_, rfl⟩
        have e4 : W7.cell? ⟨gp, 0, none⟩ = some (.slice A1 PK.length c1) := by rw [hW7] at hp7; rw [cell_of_row W7 gp 0 _ _ (0, 0) hp7]; rfl
        have e5 : W7.cell? ⟨gp, 1, none⟩ = some (.slice A2 PV.length c2) := by rw [hW7] at hp7; rw [cell_of_row W7 gp 1 _ _ (0, 0) hp7]; rfl
        rw [hW7] at hG7
        have HREL : Hid (GO w (some ⟨gA, 0, none⟩) c3 (P ++ [⟨A6, c6, g.ps ++ [⟨A1, c1, PK, A2, c2, PV⟩]⟩]) W7) := Lib.hid (.inr ⟨P, _, rfl, hG7⟩)
        have HML : Hid (pl + 1 = (P ++ [(⟨A6, c6, g.ps ++ [⟨A1, c1, PK, A2, c2, PV⟩]⟩ : Gv)]).length) := Lib.hid (by rw [HPLN.out]; simp)
        have HPRS : Hid ((P ++ [(⟨A6, c6, g.ps ++ [⟨A1, c1, PK, A2, c2, PV⟩]⟩ : Gv)]).map Gv.pr = (Tb.parts size (l.take (k + 1))).1) := Lib.hid (by
          rw [HPS.out, HNX.out]
          simp [Gv.pr, Pv.pr])
        try rw [hLn]
        try rw [hW7]
        clear hG7 hp7 hW7 hLn hne2 hne3 hneA hgp7 hrowA hltA hrA hAe hcA fz6 HO6 HGR6 HT6 HLL HPW HRW HIN hL ho6 hg6 hat6 HG6 HQ6 HP6 HS0 HSB HGV HPV HQV hb6 hgpV hgAV g1 g2 g3 hgsl
        go_wp2_with fail
        go_roundw
        case rel => exact ⟨k + 1, mq, _, c3, P ++ [⟨A6, c6, g.ps ++ [⟨A1, c1, PK, A2, c2, PV⟩]⟩], _, by omega, by go_num, rfl, rfl, Lib.hid ⟨HMQ.out.trans HML.out, HPRS.out, by rw [HPS.out, HNX.out]; simp only [Tb.plen]; omega⟩, HREL⟩
        case measure => simp [intOf]; omega
    · obtain rfl : k = l.length := by omega
      have HFIN : Hid (PartP w l size (.returned (.slice A' m c')) wr) := Lib.hid (by
        obtain ⟨e1, e2, _⟩ := HC.out
        rw [List.take_length] at e2
        exact ⟨A', c', gs, by rw [e1], HG.out.gr, e2⟩)
      go_wp2_with fail
      go_ret
      exact HFIN.out
end Go.Proofs.YtgafionfojnieaaDoor

namespace Go.Proofs.YtgafionfojnieaaDoor
open Go.RowKit

namespace Tb
def emit (s : St) (g : List Pr) : St := close { s with opn := g }
def emits (gs : List (List Pr)) : St := gs.foldl emit ⟨[], [], [], 0, false⟩
theorem emit_eq (s : St) (g : List Pr) (h : g ≠ []) : emit s g = ⟨s.out ++ putL 68 (blkB 16 g), s.index ++ [⟨((g.getLast?).map Pr.k).getD [], nums [s.out.length, (putL 68 (blkB 16 g)).length]⟩], [], 0, s.bad || !fits (blkB 16 g)⟩ := by
  unfold emit close
  rw [if_neg h]
theorem close_any_n (s : St) (g : List Pr) (n : Int) (h : g ≠ []) : close { s with opn := g, n := n } = emit s g := by
  rw [emit_eq s g h]
  unfold close
  rw [if_neg h]
theorem emits_snoc (P : List (List Pr)) (g : List Pr) : emits (P ++ [g]) = emit (emits P) g := by unfold emits; rw [List.foldl_append]; rfl
theorem emits_succ (gs : List (List Pr)) (k : Nat) (h : k < gs.length) : emits (gs.take (k + 1)) = emit (emits (gs.take k)) gs[k] := by
  rw [List.take_succ_eq_append_getElem h, emits_snoc]
theorem run_parts (size : Int) (hs : 64 ≤ size) (l : List Rv) (k : Nat) (h : k ≤ l.length) :
    (k = 0) ∨ ∃ P g, g ≠ [] ∧ (∀ x ∈ P, x ≠ []) ∧ (parts size (l.take k)).1 = P ++ [g] ∧ run size (l.take k) = { emits P with opn := g, n := (parts size (l.take k)).2 } := by
  induction k with
  | zero => exact .inl rfl
  | succ k ih =>
    refine .inr ?_
    rw [parts_succ size l k (by omega), run_succ size l k (by omega)]
    rcases ih (by omega) with h0 | ⟨P, g, hg, hP, hp, hr⟩
    · subst h0
      refine ⟨[], [inner l[0]], by simp, by simp, ?_, ?_⟩
      · simp [pst, parts]
      · simp only [List.take_zero, run, parts, List.foldl_nil, pst, emits]
        unfold add
        rw [if_neg (by show ¬ size ≤ (0 : Int); omega)]
        simp
    · rw [hr]
      unfold pst add
      simp only [hp]
      by_cases hn : size ≤ (parts size (l.take k)).2
      · rw [if_pos (.inr hn), if_pos hn, close_any_n _ _ _ hg, ← emits_snoc]
        refine ⟨P ++ [g], [inner l[k]], by simp, fun x hx => ?_, by simp, ?_⟩
        · simp only [List.mem_append, List.mem_singleton] at hx
          rcases hx with h1 | h1
          · exact hP x h1
          · rw [h1]; exact hg
        · have e1 : (emits (P ++ [g])).opn = [] ∧ (emits (P ++ [g])).n = 0 := by rw [emits_snoc, emit_eq _ _ hg]; exact ⟨rfl, rfl⟩
          simp [e1.1, e1.2]
      · rw [if_neg (by simp; exact Int.not_le.1 hn), if_neg hn]
        exact ⟨P, g ++ [inner l[k]], by simp, hP, by simp, by simp⟩
theorem close_run (size : Int) (hs : 64 ≤ size) (l : List Rv) (hl : 0 < l.length) : close (run size l) = emits (parts size l).1 ∧ (∀ x ∈ (parts size l).1, x ≠ []) := by
  rcases run_parts size hs l l.length (Nat.le_refl _) with h0 | ⟨P, g, hg, hP, hp, hr⟩
  · omega
  · rw [List.take_length] at hp hr
    rw [hr, close_any_n _ _ _ hg, ← emits_snoc, hp]
    refine ⟨rfl, fun x hx => ?_⟩
    simp only [List.mem_append, List.mem_singleton] at hx
    rcases hx with h1 | h1
    · exact hP x h1
    · rw [h1]; exact hg
theorem emits_bad (gs : List (List Pr)) (h : ∀ x ∈ gs, x ≠ []) : (emits gs).bad = gs.any (fun g => !fits (blkB 16 g)) := by
  have key : ∀ k, k ≤ gs.length → (emits (gs.take k)).bad = (gs.take k).any (fun g => !fits (blkB 16 g)) := fun k => by
    induction k with
    | zero => intro _; rfl
    | succ k ih =>
      intro hk
      rw [emits_succ gs k (by omega), emit_eq _ _ (h _ (List.getElem_mem _)), List.take_succ_eq_append_getElem (by omega), List.any_append, ← ih (by omega)]
      simp
  have := key gs.length (Nat.le_refl _)
  rwa [List.take_length] at this
theorem emits_form (gs : List (List Pr)) (hne : gs ≠ []) (h : ∀ x ∈ gs, x ≠ []) (hf : ∀ x ∈ gs, fits (blkB 16 x) = true) : emits gs = ⟨(emits gs).out, (emits gs).index, [], 0, false⟩ := by
  have hb := emits_bad gs h
  rw [List.any_eq_false.2 (fun x hx => by simp [hf x hx])] at hb
  obtain ⟨P, g, rfl⟩ : ∃ P g, gs = P ++ [g] := ⟨gs.dropLast, gs.getLast hne, (List.dropLast_concat_getLast hne).symm⟩
  rw [emits_snoc, emit_eq _ _ (h g (by simp))] at hb ⊢
  simp only at hb ⊢
  rw [hb]
/-- A block that fits no frame. -/
theorem build_over {l : List Rv} {size bits : Int} (hno : ¬ (size < 64 ∨ 32768 < size ∨ bits < 1 ∨ 32 < bits ∨ l.length < 1 ∨ 20000 < l.length ∨ l.any (fun r => !right r) = true)) (hs : sorted l = true) {g : List Pr} (hg : g ∈ (parts size l).1) (hf : fits (blkB 16 g) = false) : build l size bits = (2, []) := by
  obtain ⟨h1, h2⟩ := close_run size (by omega) l (by omega)
  unfold build
  rw [if_neg hno, if_neg (by rw [hs]; simp)]
  simp only
  rw [if_pos]
  rw [h1, emits_bad _ h2]
  have : (parts size l).1.any (fun g => !fits (blkB 16 g)) = true := List.any_eq_true.2 ⟨g, hg, by simp [hf]⟩
  rw [this]; rfl
theorem emits_bd (gs : List (List Pr)) (h : ∀ x ∈ gs, x ≠ []) (hb : ∀ x ∈ gs, ∀ p ∈ x, p.k.length ≤ 10000 ∧ p.v.length ≤ 10000) (hl : gs.length ≤ 20000) (k : Nat) (hk : k ≤ gs.length) :
    (emits (gs.take k)).out.length ≤ 100000 * k ∧ (emits (gs.take k)).index.length = k ∧ (∀ p ∈ (emits (gs.take k)).index, p.k.length ≤ 10000 ∧ p.v.length ≤ 10000) := by
  induction k with
  | zero => exact ⟨Nat.zero_le _, rfl, fun p hp => by cases hp⟩
  | succ k ih =>
    obtain ⟨i1, i2, i3⟩ := ih (by omega)
    have hm := List.getElem_mem (by omega : k < gs.length)
    rw [emits_succ gs k (by omega), emit_eq _ _ (h _ hm)]
    have hp := putL_len 68 (blkB 16 gs[k])
    refine ⟨by simp; omega, by simp [i2], fun p hp' => ?_⟩
    simp only [List.mem_append, List.mem_singleton] at hp'
    rcases hp' with h1 | h1
    · exact i3 p h1
    · subst h1
      refine ⟨?_, ?_⟩
      · show (((gs[k].getLast?).map Pr.k).getD []).length ≤ 10000
        rcases hl : gs[k].getLast? with _ | q
        · simp
        · have := hb _ hm q (List.mem_of_getLast? hl)
          simp; exact this.1
      · have := nums2_len (emits (gs.take k)).out.length (putL 68 (blkB 16 gs[k])).length (by omega) (by omega)
        show (nums _).length ≤ 10000
        omega
theorem parts_bytes (size : Int) (l : List Rv) (hr : ∀ r ∈ l, right r = true) (k : Nat) (h : k ≤ l.length) : ∀ x ∈ (parts size (l.take k)).1, ∀ p ∈ x, p.k.length ≤ 10000 ∧ p.v.length ≤ 10000 := by
  induction k with
  | zero => intro x hx; simp [parts] at hx
  | succ k ih =>
    rw [parts_succ size l k (by omega)]
    have hi := ih (by omega)
    have hin := inner_bd (hr _ (List.getElem_mem (by omega : k < l.length)))
    unfold pst
    split
    · intro x hx p hp
      simp only [List.mem_append, List.mem_singleton] at hx
      rcases hx with h1 | h1
      · exact hi x h1 p hp
      · subst h1
        have : p = inner l[k] := by simpa using hp
        subst this; exact hin
    · intro x hx p hp
      simp only [List.mem_append, List.mem_singleton] at hx
      rcases hx with h1 | h1
      · exact hi x (List.dropLast_subset _ h1) p hp
      · subst h1
        simp only [List.mem_append, List.mem_singleton] at hp
        rcases hp with h2 | h2
        · rcases hl : (parts size (l.take k)).1.getLast? with _ | q
          · rw [hl] at h2; simp at h2
          · rw [hl] at h2
            exact hi q (List.mem_of_getLast? hl) p h2
        · subst h2; exact hin
theorem parts_lens (size : Int) (l : List Rv) (k : Nat) (h : k ≤ l.length) : ∀ x ∈ (parts size (l.take k)).1, x.length ≤ k := by
  induction k with
  | zero => intro x hx; simp [parts] at hx
  | succ k ih =>
    rw [parts_succ size l k (by omega)]
    have hi := ih (by omega)
    have hla := parts_last size l k (by omega)
    unfold pst
    split
    · intro x hx
      simp only [List.mem_append, List.mem_singleton] at hx
      rcases hx with h1 | h1
      · have := hi x h1; omega
      · subst h1; simp
    · intro x hx
      simp only [List.mem_append, List.mem_singleton] at hx
      rcases hx with h1 | h1
      · have := hi x (List.dropLast_subset _ h1); omega
      · subst h1; simp; omega
theorem parts_pos (size : Int) (hs : 64 ≤ size) (l : List Rv) (hl : 0 < l.length) : (parts size l).1 ≠ [] := by
  rcases run_parts size hs l l.length (Nat.le_refl _) with h0 | ⟨P, g, _, _, hp, _⟩
  · omega
  · rw [List.take_length] at hp
    rw [hp]; simp
end Tb
end Go.Proofs.YtgafionfojnieaaDoor
