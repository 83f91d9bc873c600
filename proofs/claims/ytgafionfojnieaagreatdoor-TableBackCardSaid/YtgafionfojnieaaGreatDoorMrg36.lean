/- Parts of the proof, one behind the other: Contracts: the record test handed to slices.ContainsFunc; the plain building of a table.; Laws for the table's Build: plain bounds; close at any writer; inner at any record; keys' rows.; Rows of pairs in a row; the contract of the reference's part.; The contract of the reference's part.; Plain laws: what Build puts out, and what the reference's parts put out, come to the same. -/
import Derived.Test.YtgafionfojnieaaGreatDoorMrg34
import Derived.Test.YtgafionfojnieaaGreatDoorMrg35
import Derived.BigRegion
import Derived.BigQuiet
namespace Go.Proofs.YtgafionfojnieaaGreatDoor
open Go.RowKit
open Lib (hid)
instance : Inhabited Rv := ⟨⟨none, 0, [], 0, false, none, 0, []⟩⟩
set_option maxHeartbeats 2000000 in
set_option maxRecDepth 100000 in
theorem rightT_all (r : Rv) (w : World) : Calls Tryz.prog 38 #[r.val] w fun e w' => e = .returned (.bool (Tb.right r)) ∧ Below w.heap.size w w' := by
 obtain ⟨kA, kc, k, seq, del, vA, vc, v⟩ := r
 unfold Rv.val
 simp only
 obtain ⟨K, hK⟩ : ∃ K, K = k.length := ⟨_, rfl⟩
 obtain ⟨V, hV⟩ : ∃ V, V = v.length := ⟨_, rfl⟩
 have E : Hid (Tb.right ⟨kA, kc, k, seq, del, vA, vc, v⟩ = decide (1 ≤ K ∧ K ≤ 512 ∧ 1 ≤ seq ∧ seq ≤ 1099511627776 ∧ V ≤ 4096 ∧ (del = true → V = 0))) := hid (by rw [hK, hV]; rfl)
 rw [← hK]
 rw [← hV]
 clear hK hV
 cases del with
 | true =>
   go_enter Tryz.func38, Tryz.ntmps38
   go_wp2_with fail
   all_goals (go_ret; refine ⟨?_, (Below.refl _ _).alloc (Nat.le_refl _) _⟩; rw [E.out]; refine ret_bb ?_; rw [Bool.eq_iff_iff]; simp; omega)
 | false =>
   go_enter Tryz.func38, Tryz.ntmps38
   go_wp2_with fail
   all_goals (go_ret; refine ⟨?_, (Below.refl _ _).alloc (Nat.le_refl _) _⟩; rw [E.out]; refine ret_bb ?_; rw [Bool.eq_iff_iff]; simp; omega)
theorem odd_any (r : Rv) (w : World) : Calls Tryz.prog 37 #[r.val] w fun e w' => e = .returned (.bool (!Tb.right r)) ∧ Below w.heap.size w w' := by
 obtain ⟨b, hb⟩ : ∃ b, b = Tb.right r := ⟨_, rfl⟩
 have K := hid (rightT_all r)
 rw [← hb] at K ⊢
 obtain ⟨kA, kc, k, seq, del, vA, vc, v⟩ := r
 unfold Rv.val at K ⊢
 simp only at K ⊢
 clear hb
 cases b
 all_goals
   go_enter Tryz.func37, Tryz.ntmps37
   go_wp2_with fail
   refine (K.out _).mono ?_
   rintro e w1 ⟨rfl, hb1⟩
   go_wp2_with fail
   go_ret
   exact ⟨rfl, ((Below.refl _ _).alloc (Nat.le_refl _) _).trans (hb1.mono (by simp))⟩
theorem hasodd_any (l : List Rv) (A : Option Addr) (c : Nat) (hl : l.length ≤ 1000000) (hp : 0 < l.length) (w : World) (h : RdRv w w.heap.size A l) :
   Calls Tryz.prog 39 #[.slice A l.length c, .func (.func 37) #[] #[]] w fun e w' => e = .returned (.bool (l.any fun r => !Tb.right r)) ∧ Below w.heap.size w w' := by
 obtain ⟨b, off, rfl, hb, hc⟩ := RdS.row (f := Rv.cells) (n := 4) (fun _ => rfl) (by omega) h.row hp
 refine (AnyQ.slices_ContainsFunc Tryz.hasRec 4 Tryz.isAgg35 Tryz.sizeOf35 Rv.cells (fun _ => rfl) (fun x => !Tb.right x) 37 #[] (enters_of Tryz.func37 (by kernel_rfl) rfl) b off l.length c l w (fun W x hW => ?_) (Nat.le_refl _) (by omega) hb (fun j hj i v hv => ?_)).mono ?_
 · refine (odd_any x W).mono ?_
   rintro e w' ⟨rfl, hb⟩
   exact ⟨rfl, hW.trans (hb.mono hW.size)⟩
 · rw [getElem!_pos _ j hj] at hv
   exact hc j hj i v hv
 · rintro e w' ⟨rfl, hb⟩
   exact ⟨by simp, hb⟩
namespace Tb
structure St where
 out : List UInt8
 index : List Pr
 opn : List Pr
 n : Int
 bad : Bool
def fits (b : List UInt8) : Bool := decide (b.length ≤ 65536)
def close (s : St) : St := if s.opn = [] then s else
 ⟨s.out ++ putL 68 (blkB 16 s.opn), s.index ++ [⟨((s.opn.getLast?).map Pr.k).getD [], nums [s.out.length, (putL 68 (blkB 16 s.opn)).length]⟩], [], 0, s.bad || !fits (blkB 16 s.opn)⟩
def plen (p : Pr) : Int := (p.k.length : Int) + (p.v.length : Int)
def add (size : Int) (s : St) (r : Rv) : St :=
 let s := if size ≤ s.n then close s else s
 ⟨s.out, s.index, s.opn ++ [inner r], s.n + plen (inner r), s.bad⟩
def run (size : Int) (l : List Rv) : St := l.foldl (add size) ⟨[], [], [], 0, false⟩
def low (l : List Rv) : Int := l.foldl (fun m r => min m r.seq) ((l.head?.map Rv.seq).getD 0)
def high (l : List Rv) : Int := l.foldl (fun m r => max m r.seq) ((l.head?.map Rv.seq).getD 0)
def sorted (l : List Rv) : Bool := (List.range l.length).all fun i => i == 0 || ahead (l[i - 1]!) (l[i]!)
def ends (s : St) (size bits : Nat) (l : List Rv) : List (UInt8 × List UInt8) := [(70, Blm.build bits (l.map Rv.k)), (73, blkB 16 s.index), (90, nums [size, bits, l.length, (low l).toNat, (high l).toNat])]
def build (l : List Rv) (size bits : Int) : Int × List UInt8 :=
 if size < 64 ∨ 32768 < size ∨ bits < 1 ∨ 32 < bits ∨ l.length < 1 ∨ 20000 < l.length ∨ l.any (fun r => !right r) = true then (1, [])
 else if sorted l = false then (10, [])
 else
   let s := close (run size l)
   if (s.bad || (ends s size.toNat bits.toNat l).any (fun p => !fits p.2)) = true then (2, []) else (0, s.out ++ (ends s size.toNat bits.toNat l).flatMap (fun p => putL p.1 p.2))
end Tb
def Wr.st (s : Wr) : Tb.St := ⟨s.out, s.index.map Pv.pr, s.opn.map Pv.pr, s.n, s.bad⟩
theorem st_closed (s : Wr) (kA : Option Addr) (kc : Nat) (vA : Option Addr) (vc : Nat) : (if s.opn = [] then s else Tb.closed s kA kc vA vc).st = Tb.close s.st := by
 unfold Tb.close
 by_cases h : s.opn = []
 · rw [if_pos h, if_pos (by simp [Wr.st, h])]
 · rw [if_neg h, if_neg (by simp [Wr.st, h])]
   simp only [Wr.st, Tb.closed, List.map_append, List.map_cons, List.map_nil, Pv.pr, Tb.fits, List.getLast?_map]
   cases s.opn.getLast? <;> rfl
def CloseQ (w : World) (base gw : Nat) (s : Wr) (a : WrA) (wr : World) (e : Ending) (w' : World) : Prop :=
 e = .returned (.tuple #[]) ∧ ∃ s' a', WS w base gw s' a' w' ∧ Mv gw a wr a' w' ∧ s'.st = Tb.close s.st ∧ (∀ g, WB s' g → WB s g ∨ wr.heap.size ≤ g)
theorem close_any (w : World) (base gw : Nat) (s : Wr) (a : WrA) (wr : World) (h : WS w base gw s a wr) (hln : s.opn.length ≤ 100000) (hxn : s.index.length ≤ 100000) (hsz : ∀ p ∈ s.opn, p.k.length ≤ 100000 ∧ p.v.length ≤ 100000) (hon : s.out.length ≤ 1000000000000) :
   Calls Tryz.prog 41 #[.pointer (some ⟨gw, 0, none⟩)] wr (CloseQ w base gw s a wr) := by
 have key : Calls Tryz.prog 41 #[.pointer (some ⟨gw, 0, none⟩)] wr (CloseP w base gw s a wr) := by
   rcases List.eq_nil_or_concat s.opn with he | ⟨P, q, he⟩
   · exact close_empty w base gw s a wr h he
   · obtain ⟨out, index, opn, n, bad⟩ := s
     simp only [List.concat_eq_append] at he
     subst he
     exact close_full w base gw out index P q n bad a wr h (by simp at hln; omega) hxn hsz hon
 refine key.mono ?_
 rintro e w' ⟨rfl, kA, kc, vA, vc, a', hw, hm, hk, hv⟩
 refine ⟨rfl, _, a', hw, hm, st_closed s kA kc vA vc, fun g hg => ?_⟩
 by_cases he : s.opn = []
 · rw [if_pos he] at hg; exact .inl hg
 · rw [if_neg he] at hg
   obtain ⟨q, hq, hb⟩ := hg
   unfold Tb.closed at hq
   simp only [List.mem_append, List.mem_singleton, List.not_mem_nil, or_false] at hq
   rcases hq with h1 | h1
   · exact .inl ⟨q, .inl h1, hb⟩
   · subst h1
     rcases hb with h2 | h2
     · rcases hk with h3 | ⟨q', h3, h4⟩
       · exact absurd h3 he
       · exact .inl ⟨q', .inr h3, .inl (h4 ▸ h2)⟩
     · exact .inr (hv g h2)
theorem inner_any (r : Rv) (w : World) (h : Rv.Ok w w.heap.size r) (hk : r.k.length ≤ 100000) (hv : r.v.length ≤ 100000) (h1 : 1 ≤ r.seq) (h2 : r.seq ≤ 1099511627776) :
   Calls Tryz.prog 42 #[r.val] w (InnerP w (Tb.inner r)) := by
 obtain ⟨kA, kc, k, seq, del, vA, vc, v⟩ := r
 cases del with
 | false => exact inner_false kA kc k seq vA vc v w h.key h.val hk hv h1 h2
 | true => exact inner_true kA kc k seq vA vc v w h.key h.val hk hv h1 h2
theorem bsT : RT Tryz.prog 104 22 Bs.cells 1 24 (.slice none 0 0) :=
 ⟨Tryz.underlying104, by kernel_rfl, fun _ => rfl, fun a u hu => by simp [Bs.cells] at hu; subst hu; rfl, by omega, rfl⟩
def Rv.bs (r : Rv) : Bs := ⟨r.kA, r.kc, r.k⟩
theorem rd_bs_new (w : World) (p : Bs) : RdS Bs.cells 1 (w.alloc (.cells #[.slice p.A p.l.length p.c] 22)) (w.heap.size + 1) (some ⟨w.heap.size, 0, none⟩) [p] := by
 refine RdS.of (f := Bs.cells) (n := 1) (l := [p]) (fun _ => rfl) _ 0 (by omega) (fun k hk j u hj => ?_)
 obtain rfl : k = 0 := by simp at hk; exact hk
 have hj' : p.cells[j]? = some u := hj
 rw [cell_of_row _ w.heap.size _ _ _ (0, 0) (heap_alloc_new w _)]
 simpa [Bs.cells] using hj'
namespace Tb
structure Bnd (k : Nat) (s : St) : Prop where
 out : s.out.length ≤ 100000 * k
 il : s.index.length ≤ k
 ol : s.opn.length ≤ k
 ib : ∀ p ∈ s.index, p.k.length ≤ 10000 ∧ p.v.length ≤ 10000
 ob : ∀ p ∈ s.opn, p.k.length ≤ 10000 ∧ p.v.length ≤ 10000
 n0 : 0 ≤ s.n
 n1 : s.n ≤ 20000 * k
theorem nums2_len (a b : Nat) (ha : a < 18446744073709551616) (hb : b < 18446744073709551616) : (nums [a, b]).length ≤ 20 := by
 have := nums_len [a, b] (by intro n hn; simp at hn; rcases hn with rfl | rfl <;> assumption) 2 (by simp)
 simpa using this
theorem bnd_close {k : Nat} {s : St} (h : Bnd k s) (hk : k ≤ 100000) : (close s).out.length ≤ s.out.length + 100000 ∧ (close s).index.length ≤ s.index.length + 1 ∧ (s.opn = [] → close s = s) ∧ (s.opn ≠ [] → (close s).opn = []) ∧ (∀ p ∈ (close s).index, p.k.length ≤ 10000 ∧ p.v.length ≤ 10000) := by
 unfold close
 by_cases he : s.opn = []
 · rw [if_pos he]
   exact ⟨by omega, by omega, fun _ => rfl, fun h' => absurd he h', h.ib⟩
 · rw [if_neg he]
   have hp := putL_len 68 (blkB 16 s.opn)
   refine ⟨by simp; omega, by simp, fun h' => absurd h' he, fun _ => rfl, fun p hp' => ?_⟩
   simp only [List.mem_append, List.mem_singleton] at hp'
   rcases hp' with h1 | h1
   · exact h.ib p h1
   · subst h1
     refine ⟨?_, ?_⟩
     · show (((s.opn.getLast?).map Pr.k).getD []).length ≤ 10000
       rcases hl : s.opn.getLast? with _ | q
       · simp
       · have := h.ob q (List.mem_of_getLast? hl)
         simp; exact this.1
     · have := nums2_len s.out.length (putL 68 (blkB 16 s.opn)).length (by have := h.out; omega) (by omega)
       show (nums _).length ≤ 10000
       omega
theorem right_iff (r : Rv) : right r = true ↔ 1 ≤ r.k.length ∧ r.k.length ≤ 512 ∧ 1 ≤ r.seq ∧ r.seq ≤ 1099511627776 ∧ r.v.length ≤ 4096 ∧ (r.del = true → r.v.length = 0) := by unfold right; exact decide_eq_true_iff
theorem inner_bd {r : Rv} (h : right r = true) : (inner r).k.length ≤ 10000 ∧ (inner r).v.length ≤ 10000 := by
 obtain ⟨h1, h2, h3, h4, h5, _⟩ := (right_iff r).1 h
 have := ikey_len r.k r.seq (by omega) h3 h4
 unfold inner
 exact ⟨by show (ikey r.k r.seq).length ≤ 10000; omega, by simp; omega⟩
theorem bnd_add {size : Int} {k : Nat} {s : St} (h : Bnd k s) (hk : k ≤ 50000) (r : Rv) (hr : right r = true) : Bnd (k + 1) (add size s r) := by
 obtain ⟨c1, c2, c3, c4, c5⟩ := bnd_close h (by omega)
 obtain ⟨i1, i2⟩ := inner_bd hr
 have hp : plen (inner r) ≤ 20000 ∧ 0 ≤ plen (inner r) := by unfold plen; omega
 have h1 := h.out; have h2 := h.il; have h3 := h.ol; have h4 := h.n0; have h5 := h.n1
 unfold add
 by_cases hc : size ≤ s.n
 · rw [if_pos hc]
   by_cases he : s.opn = []
   · rw [c3 he]
     exact ⟨by show s.out.length ≤ _; omega, by show s.index.length ≤ _; omega, by show (s.opn ++ [inner r]).length ≤ _; simp; omega, h.ib, fun p hp' => by
       have hp' : p ∈ s.opn ++ [inner r] := hp'
       rw [he] at hp'
       have : p = inner r := by simpa using hp'
       subst this; exact ⟨i1, i2⟩, by show 0 ≤ s.n + _; omega, by show s.n + _ ≤ _; omega⟩
   · have e := c4 he
     have en : (close s).n = 0 := by unfold close; rw [if_neg he]
     exact ⟨by show (close s).out.length ≤ _; omega, by show (close s).index.length ≤ _; omega, by show ((close s).opn ++ [inner r]).length ≤ _; rw [e]; simp, c5, fun p hp' => by
       have hp' : p ∈ (close s).opn ++ [inner r] := hp'
       rw [e] at hp'
       have : p = inner r := by simpa using hp'
       subst this; exact ⟨i1, i2⟩, by show 0 ≤ (close s).n + _; rw [en]; omega, by show (close s).n + _ ≤ _; rw [en]; omega⟩
 · rw [if_neg hc]
   exact ⟨by show s.out.length ≤ _; omega, by show s.index.length ≤ _; omega, by show (s.opn ++ [inner r]).length ≤ _; simp; omega, h.ib, fun p hp' => by
     simp only [List.mem_append, List.mem_singleton] at hp'
     rcases hp' with h6 | h6
     · exact h.ob p h6
     · subst h6; exact ⟨i1, i2⟩, by show 0 ≤ s.n + _; omega, by show s.n + _ ≤ _; omega⟩
theorem run_succ (size : Int) (l : List Rv) (k : Nat) (h : k < l.length) : run size (l.take (k + 1)) = add size (run size (l.take k)) l[k] := by
 unfold run
 rw [List.take_succ_eq_append_getElem h, List.foldl_append]; rfl
theorem run_bnd (size : Int) (l : List Rv) (hr : ∀ r ∈ l, right r = true) (hl : l.length ≤ 20000) (k : Nat) (h : k ≤ l.length) : Bnd k (run size (l.take k)) := by
 induction k with
 | zero => exact ⟨by simp [run], by simp [run], by simp [run], by simp [run], by simp [run], by simp [run], by simp [run]⟩
 | succ k ih =>
   rw [run_succ size l k (by omega)]
   exact bnd_add (ih (by omega)) (by omega) _ (hr _ (List.getElem_mem _))
def lowK (l : List Rv) (k : Nat) : Int := (l.take k).foldl (fun m r => min m r.seq) ((l.head?.map Rv.seq).getD 0)
def highK (l : List Rv) (k : Nat) : Int := (l.take k).foldl (fun m r => max m r.seq) ((l.head?.map Rv.seq).getD 0)
theorem lowK_succ (l : List Rv) (k : Nat) (h : k < l.length) : lowK l (k + 1) = min (lowK l k) l[k].seq := by
 unfold lowK; rw [List.take_succ_eq_append_getElem h, List.foldl_append]; rfl
theorem highK_succ (l : List Rv) (k : Nat) (h : k < l.length) : highK l (k + 1) = max (highK l k) l[k].seq := by
 unfold highK; rw [List.take_succ_eq_append_getElem h, List.foldl_append]; rfl
theorem lowK_all (l : List Rv) : lowK l l.length = low l := by unfold lowK low; rw [List.take_length]
theorem highK_all (l : List Rv) : highK l l.length = high l := by unfold highK high; rw [List.take_length]
theorem lowK_zero (l : List Rv) (h : 0 < l.length) : lowK l 0 = l[0].seq := by
 cases l with
 | nil => simp at h
 | cons a b => rfl
theorem highK_zero (l : List Rv) (h : 0 < l.length) : highK l 0 = l[0].seq := by
 cases l with
 | nil => simp at h
 | cons a b => rfl
theorem lohi_bd (l : List Rv) (hr : ∀ r ∈ l, right r = true) (hp : 0 < l.length) (k : Nat) (h : k ≤ l.length) : 1 ≤ lowK l k ∧ lowK l k ≤ 1099511627776 ∧ 1 ≤ highK l k ∧ highK l k ≤ 1099511627776 := by
 induction k with
 | zero =>
   rw [lowK_zero l hp, highK_zero l hp]
   obtain ⟨_, _, h3, h4, _⟩ := (right_iff _).1 (hr _ (List.getElem_mem hp))
   exact ⟨h3, h4, h3, h4⟩
 | succ k ih =>
   rw [lowK_succ l k (by omega), highK_succ l k (by omega)]
   obtain ⟨_, _, h3, h4, _⟩ := (right_iff _).1 (hr _ (List.getElem_mem (by omega : k < l.length)))
   have := ih (by omega)
   omega
theorem sorted_no {l : List Rv} {i : Nat} (h : i < l.length) (h0 : 0 < i) (hb : ahead (l[i - 1]'(by omega)) l[i] = false) : sorted l = false := by
 cases hs : sorted l with
 | false => rfl
 | true =>
   unfold sorted at hs
   rw [List.all_eq_true] at hs
   have := hs i (List.mem_range.2 h)
   rw [getElem!_pos l (i - 1) (by omega), getElem!_pos l i h, hb] at this
   simp at this
   omega
theorem sorted_yes {l : List Rv} (h : ∀ i (hi : i < l.length), 0 < i → ahead (l[i - 1]'(by omega)) l[i] = true) : sorted l = true := by
 unfold sorted
 rw [List.all_eq_true]
 intro i hi
 have hi' := List.mem_range.1 hi
 rcases Nat.eq_zero_or_pos i with h0 | h0
 · simp [h0]
 · rw [getElem!_pos l (i - 1) (by omega), getElem!_pos l i hi', h i hi' h0]; simp
def mid (size : Int) (s : St) : St := if size ≤ s.n then close s else s
theorem mid_bnd {k : Nat} {s : St} (h : Bnd k s) (hk : k ≤ 50000) (size : Int) : (mid size s).out.length ≤ 100000 * k + 100000 ∧ (mid size s).index.length ≤ k + 1 ∧ (mid size s).opn.length ≤ k ∧ 0 ≤ (mid size s).n ∧ (mid size s).n ≤ 20000 * (k : Int) := by
 obtain ⟨c1, c2, c3, c4, c5⟩ := bnd_close h (by omega)
 have h1 := h.out; have h2 := h.il; have h3 := h.ol; have h4 := h.n0; have h5 := h.n1
 unfold mid
 split
 · by_cases he : s.opn = []
   · rw [c3 he]; exact ⟨by omega, by omega, by omega, by omega, by omega⟩
   · have en : (close s).n = 0 := by unfold close; rw [if_neg he]
     rw [c4 he, en]; exact ⟨by omega, by omega, by simp, by omega, by omega⟩
 · exact ⟨by omega, by omega, by omega, by omega, by omega⟩
theorem add_mid (size : Int) (s : St) (r : Rv) : add size s r = ⟨(mid size s).out, (mid size s).index, (mid size s).opn ++ [inner r], (mid size s).n + plen (inner r), (mid size s).bad⟩ := rfl
end Tb
structure Gv where
 A : Option Addr
 c : Nat
 ps : List Pv
def Gv.cells (g : Gv) : List Value := [.slice g.A g.ps.length g.c]
def Gv.pr (g : Gv) : List Pr := g.ps.map Pv.pr
structure GR (w : World) (base : Nat) (A : Option Addr) (c : Nat) (gs : List Gv) (wr : World) : Prop where
 row : OwnS Gv.cells 1 wr base 73 A c gs
 inn : ∀ x ∈ gs, OwnS Pv.cells 2 wr base 77 x.A x.c x.ps
 prs : ∀ x ∈ gs, ∀ q ∈ x.ps, PvO wr base [blk A] q
 offr : ∀ x ∈ gs, Off [blk A] (blk x.A)
 below : Below base w wr
 size : base ≤ wr.heap.size
structure GS (w : World) (base : Nat) (A : Option Addr) (c : Nat) (P : List Gv) (g : Gv) (wr : World) : Prop where
 row : OwnS Gv.cells 1 wr base 73 A c (P ++ [g])
 inn : ∀ x, x ∈ P ∨ x = g → OwnS Pv.cells 2 wr base 77 x.A x.c x.ps
 prs : ∀ x, x ∈ P ∨ x = g → ∀ q ∈ x.ps, PvO wr base [blk A, blk g.A] q
 offP : ∀ x ∈ P, Off [blk A, blk g.A] (blk x.A)
 offg : Off [blk A] (blk g.A)
 below : Below base w wr
 size : base ≤ wr.heap.size
section
variable {w wr w2 : World} {base : Nat} {A : Option Addr} {c : Nat} {P gs : List Gv} {g : Gv}
theorem Off.sub {R R' : List (Option Nat)} {b : Option Nat} (h : Off R b) (hs : ∀ g, some g ∈ R' → some g ∈ R) : Off R' b := fun g hg hm => h g hg (hs g hm)
theorem PvO.sub {R R' : List (Option Nat)} {q : Pv} (h : PvO wr base R q) (hs : ∀ g, some g ∈ R' → some g ∈ R) : PvO wr base R' q := ⟨h.k, h.v, h.ko.sub hs, h.vo.sub hs⟩
theorem GS.gr (h : GS w base A c P g wr) : GR w base A c (P ++ [g]) wr :=
 ⟨h.row, fun x hx => h.inn x (by simpa using hx), fun x hx q hq => (h.prs x (by simpa using hx) q hq).sub (fun g hg => by simp at hg ⊢; exact .inl hg), fun x hx => by
   have hx : x ∈ P ∨ x = g := by simpa using hx
   rcases hx with h1 | h1
   · exact (h.offP x h1).sub (fun g hg => by simp at hg ⊢; exact .inl hg)
   · rw [h1]; exact h.offg, h.below, h.size⟩
theorem GR.call (h : GR w base A c gs wr) (hb : Below wr.heap.size wr w2) : GR w base A c gs w2 :=
 ⟨h.row.below hb, fun x hx => (h.inn x hx).below hb, fun x hx q hq => (h.prs x hx q hq).kept (grown_of_below hb) (.inl rfl), h.offr, h.below.trans (hb.mono h.size), Nat.le_trans h.size hb.size⟩
theorem GS.call (h : GS w base A c P g wr) (hb : Below wr.heap.size wr w2) : GS w base A c P g w2 :=
 ⟨h.row.below hb, fun x hx => (h.inn x hx).below hb, fun x hx q hq => (h.prs x hx q hq).kept (grown_of_below hb) (.inl rfl), h.offP, h.offg, h.below.trans (hb.mono h.size), Nat.le_trans h.size hb.size⟩
theorem GR.more (h : GR w base A c gs wr) {A' : Option Addr} {c' : Nat} (ho : OwnS Gv.cells 1 w2 base 73 A' c' (gs ++ [⟨none, 0, []⟩])) (hg : wr.grownBy w2 (blk A)) (hat : blk A' = blk A ∨ blk A' = some wr.heap.size) : GS w base A' c' gs ⟨none, 0, []⟩ w2 := by
 have hR : ∀ r ∈ ([blk A', blk (none : Option Addr)] : List (Option Nat)), r ∈ ([blk A, none] : List (Option Nat)) ∨ r = some wr.heap.size := fun r hr => by
   simp only [List.mem_cons, List.not_mem_nil, or_false] at hr ⊢
   rcases hr with h1 | h1
   · rcases hat with h2 | h2
     · exact .inl (.inl (h1.trans h2))
     · exact .inr (h1.trans h2)
   · exact .inl (.inr h1)
 have hn : ∀ {b}, Off [blk A] b → Off [blk A, none] b := fun hb g hg hm => hb g hg (by simp at hm ⊢; exact hm)
 refine ⟨ho, fun x hx => ?_, fun x hx q hq => ?_, fun x hx => ?_, (fun k hk => by cases hk), h.below.grown hg h.size (fun k hk => (h.row.blk_ge k hk).1), Nat.le_trans h.size hg.size⟩
 · rcases hx with h1 | h1
   · exact (h.inn x h1).kept hg ((h.offr x h1).ne (by simp))
   · subst h1; exact OwnS.nil _ _ _
 · rcases hx with h1 | h1
   · have h2 := h.prs x h1 q hq
     have h3 := h2.kept hg (.inr (by simp))
     exact ⟨h3.k, h3.v, (hn h2.ko).new (fun g hgg => (h2.k.blk_ge g hgg).2) hR, (hn h2.vo).new (fun g hgg => (h2.v.blk_ge g hgg).2) hR⟩
   · subst h1; cases hq
 · exact (hn (h.offr x hx)).new (fun g hgg => ((h.inn x hx).blk_ge g hgg).2) hR
theorem cells_len (l : List Gv) : (l.flatMap Gv.cells).length = l.length := by
 induction l with
 | nil => rfl
 | cons a l ih => rw [List.flatMap_cons, List.length_append, ih]; simp [Gv.cells]; omega
theorem GS.app {gA : Nat} (h : GS w base (some ⟨gA, 0, none⟩) c P g wr) {q : Pv} (hq : PvO wr base [some gA, blk g.A] q) {A' : Option Addr} {c' : Nat} (ho : OwnS Pv.cells 2 w2 base 77 A' c' (g.ps ++ [q])) (hg : wr.grownBy w2 (blk g.A)) (hat : blk A' = blk g.A ∨ blk A' = some wr.heap.size) :
   GS w base (some ⟨gA, 0, none⟩) c P ⟨A', c', g.ps ++ [q]⟩ (w2.setCell ⟨gA, P.length, none⟩ (.slice A' (g.ps ++ [q]).length c')) := by
 have hgs := grownBy_set w2 ⟨gA, P.length, none⟩ (.slice A' (g.ps ++ [q]).length c')
 have hltA : gA < wr.heap.size := (h.row.blk_ge gA rfl).2
 have hAne : blk (some (⟨gA, 0, none⟩ : Addr)) = none ∨ blk (some (⟨gA, 0, none⟩ : Addr)) ≠ blk g.A := .inr (fun e => h.offg gA e.symm (by simp [blk]))
 have hofA' : Off [some gA] (blk A') := fun k hk hm => by
   rcases hat with h1 | h1
   · exact h.offg k (h1 ▸ hk) (by simpa [blk] using hm)
   · rw [h1] at hk; injection hk with hk; simp at hm; omega
 have hR : ∀ r ∈ ([some gA, blk A'] : List (Option Nat)), r ∈ ([some gA, blk g.A] : List (Option Nat)) ∨ r = some wr.heap.size := fun r hr => by
   simp only [List.mem_cons, List.not_mem_nil, or_false] at hr ⊢
   rcases hr with h1 | h1
   · exact .inl (.inl h1)
   · rcases hat with h2 | h2
     · exact .inl (.inr (h1.trans h2))
     · exact .inr (h1.trans h2)
 have hpr : ∀ q', PvO wr base [some gA, blk g.A] q' → PvO (w2.setCell ⟨gA, P.length, none⟩ (.slice A' (g.ps ++ [q]).length c')) base [some gA, blk A'] q' := fun q' h0 => by
   have h1 := (h0.kept hg (.inr (by simp))).kept hgs (.inr (by simp))
   exact ⟨h1.k, h1.v, h1.ko.new (fun k hk => (h0.k.blk_ge k hk).2) hR, h1.vo.new (fun k hk => (h0.v.blk_ge k hk).2) hR⟩
 refine ⟨?_, fun x hx => ?_, fun x hx q' hq' => ?_, fun x hx => ?_, fun k hk hm => hofA' k hk (by simpa [blk] using hm), (h.below.grown hg h.size (fun k hk => ((h.inn g (.inr rfl)).blk_ge k hk).1)).setCell ((h.row.blk_ge gA rfl).1) _, Nat.le_trans h.size (Nat.le_trans hg.size (by simp [World.setCell]))⟩
 · have h1 := (World.ownsRow.stored (h.row.kept hg hAne) P.length (.slice A' (g.ps ++ [q]).length c')).1
   unfold OwnS
   have e1 : (P ++ [(⟨A', c', g.ps ++ [q]⟩ : Gv)]).length = (P ++ [g]).length := by simp
   have e2 : (P ++ [(⟨A', c', g.ps ++ [q]⟩ : Gv)]).flatMap Gv.cells = ((P ++ [g]).flatMap Gv.cells).set P.length (.slice A' (g.ps ++ [q]).length c') := by
     simp only [List.flatMap_append, List.flatMap_cons, List.flatMap_nil, List.append_nil]
     rw [List.set_append_right _ _ (by rw [cells_len]; omega), cells_len]
     simp [Gv.cells]
   rw [e1, e2]
   exact h1
 · rcases hx with h1 | h1
   · have h2 := h.offP x h1
     exact ((h.inn x (.inl h1)).kept hg (h2.ne (by simp))).kept hgs (h2.ne (by simp [blk]))
   · subst h1; exact ho.kept hgs (hofA'.ne (by simp))
 · rcases hx with h1 | h1
   · exact hpr q' (h.prs x (.inl h1) q' hq')
   · subst h1
     have hq' : q' ∈ g.ps ++ [q] := hq'
     simp only [List.mem_append, List.mem_singleton] at hq'
     rcases hq' with h2 | h2
     · exact hpr q' (h.prs g (.inr rfl) q' h2)
     · subst h2; exact hpr q' hq
 · exact (h.offP x hx).new (fun k hk => ((h.inn x (.inl hx)).blk_ge k hk).2) hR
theorem GR.lts (h : GR w base A c gs wr) : ∀ k, some k ∈ ([blk A] : List (Option Nat)) → k < wr.heap.size := fun k hk => by
 simp only [List.mem_cons, List.not_mem_nil, or_false] at hk
 exact (h.row.blk_ge k hk.symm).2
theorem GS.lts (h : GS w base A c P g wr) : ∀ k, some k ∈ ([blk A, blk g.A] : List (Option Nat)) → k < wr.heap.size := fun k hk => by
 simp only [List.mem_cons, List.not_mem_nil, or_false] at hk
 rcases hk with h1 | h1
 · exact (h.row.blk_ge k h1.symm).2
 · exact ((h.inn g (.inr rfl)).blk_ge k h1.symm).2
theorem GS.at_ (h : GS w base A c P g wr) : ∃ gA cur, A = some ⟨gA, 0, none⟩ ∧ wr.heap[gA]? = some (.cells cur 73) ∧ wr.cell? ⟨gA, P.length, none⟩ = some (.slice g.A g.ps.length g.c) := by
 obtain ⟨gA, cur, rfl, _, _, hh⟩ := h.row.form (by simp)
 refine ⟨gA, cur, rfl, hh, ?_⟩
 have h1 := World.ownsRow.cells (h.row) (g := gA) rfl P.length (.slice g.A g.ps.length g.c) (by
   simp only [List.flatMap_append, List.flatMap_cons, List.flatMap_nil, List.append_nil]
   rw [List.getElem?_append_right (by rw [cells_len]; omega), cells_len]
   simp [Gv.cells])
 rw [← h1]
 congr 1
 unfold Addr.add
 split
 · rename_i h0; rw [h0]
 · simp
end
namespace Tb
def pst (size : Int) (s : List (List Pr) × Int) (r : Rv) : List (List Pr) × Int :=
 if s.1 = [] ∨ size ≤ s.2 then (s.1 ++ [[inner r]], plen (inner r)) else (s.1.dropLast ++ [(s.1.getLast?.getD []) ++ [inner r]], s.2 + plen (inner r))
def parts (size : Int) (l : List Rv) : List (List Pr) × Int := l.foldl (pst size) ([], 0)
theorem parts_succ (size : Int) (l : List Rv) (k : Nat) (h : k < l.length) : parts size (l.take (k + 1)) = pst size (parts size (l.take k)) l[k] := by
 unfold parts
 rw [List.take_succ_eq_append_getElem h, List.foldl_append]; rfl
end Tb
namespace Tb
theorem parts_bd (size : Int) (l : List Rv) (hr : ∀ r ∈ l, right r = true) (k : Nat) (h : k ≤ l.length) : 0 ≤ (parts size (l.take k)).2 ∧ (parts size (l.take k)).2 ≤ 20000 * (k : Int) := by
 induction k with
 | zero => simp [parts]
 | succ k ih =>
   rw [parts_succ size l k (by omega)]
   have := ih (by omega)
   obtain ⟨i1, i2⟩ := inner_bd (hr _ (List.getElem_mem (by omega : k < l.length)))
   unfold pst plen
   split <;> simp only <;> omega
theorem parts_len (size : Int) (l : List Rv) (k : Nat) (h : k ≤ l.length) : (parts size (l.take k)).1.length ≤ k := by
 induction k with
 | zero => simp [parts]
 | succ k ih =>
   rw [parts_succ size l k (by omega)]
   have := ih (by omega)
   unfold pst
   split
   · simp; omega
   · rename_i hn
     have : 0 < (parts size (l.take k)).1.length := List.length_pos_iff.2 (fun e => hn (.inl e))
     simp; omega
theorem parts_last (size : Int) (l : List Rv) (k : Nat) (h : k ≤ l.length) : ((parts size (l.take k)).1.getLast?.getD []).length ≤ k := by
 induction k with
 | zero => simp [parts]
 | succ k ih =>
   rw [parts_succ size l k (by omega)]
   have := ih (by omega)
   unfold pst
   split
   · simp
   · simp; omega
end Tb
def GO (w : World) (A : Option Addr) (c : Nat) (gs : List Gv) (wr : World) : Prop := (gs = [] ∧ GR w w.heap.size A c gs wr) ∨ ∃ P g, gs = P ++ [g] ∧ GS w w.heap.size A c P g wr
theorem GO.gr {w wr : World} {A : Option Addr} {c : Nat} {gs : List Gv} (h : GO w A c gs wr) : GR w w.heap.size A c gs wr := by
 rcases h with ⟨_, h⟩ | ⟨P, g, rfl, h⟩
 · exact h
 · exact h.gr
theorem GO.call {w wr w2 : World} {A : Option Addr} {c : Nat} {gs : List Gv} (h : GO w A c gs wr) (hb : Below wr.heap.size wr w2) : GO w A c gs w2 := by
 rcases h with ⟨e, h⟩ | ⟨P, g, rfl, h⟩
 · exact .inl ⟨e, h.call hb⟩
 · exact .inr ⟨P, g, rfl, h.call hb⟩
structure Fr (base n : Nat) (q : Pv) (wr : World) : Prop where
 k : Own wr base 5 q.kA q.kc q.k
 v : Own wr base 5 q.vA q.vc q.v
 kf : ∀ g, blk q.kA = some g → n ≤ g
 vf : ∀ g, blk q.vA = some g → n ≤ g
theorem Fr.pv {base n : Nat} {q : Pv} {wr : World} {R : List (Option Nat)} (h : Fr base n q wr) (hR : ∀ g, some g ∈ R → g < n) : PvO wr base R q := ⟨h.k, h.v, Off.fresh h.kf hR, Off.fresh h.vf hR⟩
theorem Fr.call {base n : Nat} {q : Pv} {wr w2 : World} (h : Fr base n q wr) (hb : Below wr.heap.size wr w2) : Fr base n q w2 := ⟨h.k.below hb, h.v.below hb, h.kf, h.vf⟩
theorem PvO.new {wr : World} {base : Nat} {q : Pv} {R R' : List (Option Nat)} {n : Nat} (h : PvO wr base R q) (hlt : wr.heap.size ≤ n) (hR : ∀ r ∈ R', r ∈ R ∨ r = none ∨ r = some n) : PvO wr base R' q := by
 have key : ∀ b, Off R b → (∀ g, b = some g → g < n) → Off R' b := fun b hb hl g hg hm => by
   rcases hR _ hm with h1 | h1 | h1
   · exact hb g hg h1
   · cases h1
   · injection h1 with h1
     have := hl g hg; omega
 exact ⟨h.k, h.v, key _ h.ko (fun g hg => Nat.lt_of_lt_of_le (h.k.blk_ge g hg).2 hlt), key _ h.vo (fun g hg => Nat.lt_of_lt_of_le (h.v.blk_ge g hg).2 hlt)⟩
theorem Fr.grow {base n : Nat} {q : Pv} {Z Z2 w9 : World} {A' A3 : Option Addr} (hF : Fr base n q Z) (hb : Below Z.heap.size Z Z2) (hg : Z2.grownBy w9 (blk A')) (hA : ∀ k, blk A' = some k → k < n) (hat : blk A3 = blk A' ∨ blk A3 = some Z2.heap.size) : PvO w9 base [blk A3, none] q := by
 have h1 : PvO Z2 base [blk A'] q := (hF.call hb).pv (fun k hk => hA k (by simp only [List.mem_cons, List.not_mem_nil, or_false] at hk; exact hk.symm))
 have h2 : PvO Z2 base [blk A3, none, blk A'] q := h1.new (n := Z2.heap.size) (Nat.le_refl _) (fun r hr => by
   simp only [List.mem_cons, List.not_mem_nil, or_false] at hr ⊢
   rcases hr with h | h | h
   · rcases hat with h3 | h3
     · exact .inl (h.trans h3)
     · exact .inr (.inr (h.trans h3))
   · exact .inr (.inl h)
   · exact .inl h)
 exact (h2.kept hg (.inr (by simp))).sub (fun k hk => by simp at hk ⊢; exact .inl hk)
namespace Tb
def emit (s : St) (g : List Pr) : St := close { s with opn := g }
def emits (gs : List (List Pr)) : St := gs.foldl emit ⟨[], [], [], 0, false⟩
theorem emit_eq (s : St) (g : List Pr) (h : g ≠ []) : emit s g = ⟨s.out ++ putL 68 (blkB 16 g), s.index ++ [⟨((g.getLast?).map Pr.k).getD [], nums [s.out.length, (putL 68 (blkB 16 g)).length]⟩], [], 0, s.bad || !fits (blkB 16 g)⟩ := by
 unfold emit close
 rw [if_neg h]
theorem close_any_n (s : St) (g : List Pr) (n : Int) (h : g ≠ []) : close { s with opn := g, n := n } = emit s g := by
 rw [emit_eq s g h]
 unfold close
 rw [if_neg h]
theorem emits_snoc (P : List (List Pr)) (g : List Pr) : emits (P ++ [g]) = emit (emits P) g := by unfold emits; rw [List.foldl_append]; rfl
theorem emits_succ (gs : List (List Pr)) (k : Nat) (h : k < gs.length) : emits (gs.take (k + 1)) = emit (emits (gs.take k)) gs[k] := by
 rw [List.take_succ_eq_append_getElem h, emits_snoc]
theorem run_parts (size : Int) (hs : 64 ≤ size) (l : List Rv) (k : Nat) (h : k ≤ l.length) :
   (k = 0) ∨ ∃ P g, g ≠ [] ∧ (∀ x ∈ P, x ≠ []) ∧ (parts size (l.take k)).1 = P ++ [g] ∧ run size (l.take k) = { emits P with opn := g, n := (parts size (l.take k)).2 } := by
 induction k with
 | zero => exact .inl rfl
 | succ k ih =>
   refine .inr ?_
   rw [parts_succ size l k (by omega), run_succ size l k (by omega)]
   rcases ih (by omega) with h0 | ⟨P, g, hg, hP, hp, hr⟩
   · subst h0
     refine ⟨[], [inner l[0]], by simp, by simp, ?_, ?_⟩
     · simp [pst, parts]
     · simp only [List.take_zero, run, parts, List.foldl_nil, pst, emits]
       unfold add
       rw [if_neg (by show ¬ size ≤ (0 : Int); omega)]
       simp
   · rw [hr]
     unfold pst add
     simp only [hp]
     by_cases hn : size ≤ (parts size (l.take k)).2
     · rw [if_pos (.inr hn), if_pos hn, close_any_n _ _ _ hg, ← emits_snoc]
       refine ⟨P ++ [g], [inner l[k]], by simp, fun x hx => ?_, by simp, ?_⟩
       · simp only [List.mem_append, List.mem_singleton] at hx
         rcases hx with h1 | h1
         · exact hP x h1
         · rw [h1]; exact hg
       · have e1 : (emits (P ++ [g])).opn = [] ∧ (emits (P ++ [g])).n = 0 := by rw [emits_snoc, emit_eq _ _ hg]; exact ⟨rfl, rfl⟩
         simp [e1.1, e1.2]
     · rw [if_neg (by simp; exact Int.not_le.1 hn), if_neg hn]
       exact ⟨P, g ++ [inner l[k]], by simp, hP, by simp, by simp⟩
theorem close_run (size : Int) (hs : 64 ≤ size) (l : List Rv) (hl : 0 < l.length) : close (run size l) = emits (parts size l).1 ∧ (∀ x ∈ (parts size l).1, x ≠ []) := by
 rcases run_parts size hs l l.length (Nat.le_refl _) with h0 | ⟨P, g, hg, hP, hp, hr⟩
 · omega
 · rw [List.take_length] at hp hr
   rw [hr, close_any_n _ _ _ hg, ← emits_snoc, hp]
   refine ⟨rfl, fun x hx => ?_⟩
   simp only [List.mem_append, List.mem_singleton] at hx
   rcases hx with h1 | h1
   · exact hP x h1
   · rw [h1]; exact hg
theorem emits_bad (gs : List (List Pr)) (h : ∀ x ∈ gs, x ≠ []) : (emits gs).bad = gs.any (fun g => !fits (blkB 16 g)) := by
 have key : ∀ k, k ≤ gs.length → (emits (gs.take k)).bad = (gs.take k).any (fun g => !fits (blkB 16 g)) := fun k => by
   induction k with
   | zero => intro _; rfl
   | succ k ih =>
     intro hk
     rw [emits_succ gs k (by omega), emit_eq _ _ (h _ (List.getElem_mem _)), List.take_succ_eq_append_getElem (by omega), List.any_append, ← ih (by omega)]
     simp
 have := key gs.length (Nat.le_refl _)
 rwa [List.take_length] at this
theorem parts_bytes (size : Int) (l : List Rv) (hr : ∀ r ∈ l, right r = true) (k : Nat) (h : k ≤ l.length) : ∀ x ∈ (parts size (l.take k)).1, ∀ p ∈ x, p.k.length ≤ 10000 ∧ p.v.length ≤ 10000 := by
 induction k with
 | zero => intro x hx; simp [parts] at hx
 | succ k ih =>
   rw [parts_succ size l k (by omega)]
   have hi := ih (by omega)
   have hin := inner_bd (hr _ (List.getElem_mem (by omega : k < l.length)))
   unfold pst
   split
   · intro x hx p hp
     simp only [List.mem_append, List.mem_singleton] at hx
     rcases hx with h1 | h1
     · exact hi x h1 p hp
     · subst h1
       have : p = inner l[k] := by simpa using hp
       subst this; exact hin
   · intro x hx p hp
     simp only [List.mem_append, List.mem_singleton] at hx
     rcases hx with h1 | h1
     · exact hi x (List.dropLast_subset _ h1) p hp
     · subst h1
       simp only [List.mem_append, List.mem_singleton] at hp
       rcases hp with h2 | h2
       · rcases hl : (parts size (l.take k)).1.getLast? with _ | q
         · rw [hl] at h2; simp at h2
         · rw [hl] at h2
           exact hi q (List.mem_of_getLast? hl) p h2
       · subst h2; exact hin
theorem parts_lens (size : Int) (l : List Rv) (k : Nat) (h : k ≤ l.length) : ∀ x ∈ (parts size (l.take k)).1, x.length ≤ k := by
 induction k with
 | zero => intro x hx; simp [parts] at hx
 | succ k ih =>
   rw [parts_succ size l k (by omega)]
   have hi := ih (by omega)
   have hla := parts_last size l k (by omega)
   unfold pst
   split
   · intro x hx
     simp only [List.mem_append, List.mem_singleton] at hx
     rcases hx with h1 | h1
     · have := hi x h1; omega
     · subst h1; simp
   · intro x hx
     simp only [List.mem_append, List.mem_singleton] at hx
     rcases hx with h1 | h1
     · have := hi x (List.dropLast_subset _ h1); omega
     · subst h1; simp; omega
end Tb
end Go.Proofs.YtgafionfojnieaaGreatDoor
