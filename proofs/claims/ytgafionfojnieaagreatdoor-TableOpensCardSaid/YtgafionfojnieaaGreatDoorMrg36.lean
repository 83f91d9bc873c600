/- Parts of the proof, one behind the other: Contracts: the record test handed to slices.ContainsFunc; the plain building of a table.; Laws for the table's Build: plain bounds; close at any writer; inner at any record; keys' rows.; The contract of table.Build.; Rows of pairs in a row; the contract of the reference's part.; The contract of the reference's part.; Plain laws: what Build puts out, and what the reference's parts put out, come to the same.; What lies in a round of the reference's third loop; its callees.; The contract of the reference's Take.; Frames in a row, in memory; the plain law of Scan.; The contract of the closure that frames hands back.; The contract of frame.Scan: a range over the frames.; Pairs of the call's own in memory; what Parse gives. -/
import Derived.Test.YtgafionfojnieaaGreatDoorMrg34
import Derived.Test.YtgafionfojnieaaGreatDoorMrg35
import Derived.BigRegion
import Derived.BigQuiet
import Derived.Deep.RegionHeld
import Derived.IntWalk
import Derived.Test.YtgafionfojnieaaGreatDoorMrg31
import Derived.Test.YtgafionfojnieaaGreatDoorMrg32
namespace Go.Proofs.YtgafionfojnieaaGreatDoor
open Go.RowKit
open Lib (hid)
instance : Inhabited Rv := ⟨⟨none, 0, [], 0, false, none, 0, []⟩⟩
set_option maxHeartbeats 2000000 in
set_option maxRecDepth 100000 in
theorem rightT_all (r : Rv) (w : World) : Calls Tryz.prog 38 #[r.val] w fun e w' => e = .returned (.bool (Tb.right r)) ∧ Below w.heap.size w w' := by
 obtain ⟨kA, kc, k, seq, del, vA, vc, v⟩ := r
 unfold Rv.val
 simp only
 obtain ⟨K, hK⟩ : ∃ K, K = k.length := ⟨_, rfl⟩
 obtain ⟨V, hV⟩ : ∃ V, V = v.length := ⟨_, rfl⟩
 have E : Hid (Tb.right ⟨kA, kc, k, seq, del, vA, vc, v⟩ = decide (1 ≤ K ∧ K ≤ 512 ∧ 1 ≤ seq ∧ seq ≤ 1099511627776 ∧ V ≤ 4096 ∧ (del = true → V = 0))) := hid (by rw [hK, hV]; rfl)
 rw [← hK]
 rw [← hV]
 clear hK hV
 cases del with
 | true =>
   go_enter Tryz.func38, Tryz.ntmps38
   go_wp2_with fail
   all_goals (go_ret; refine ⟨?_, (Below.refl _ _).alloc (Nat.le_refl _) _⟩; rw [E.out]; refine ret_bb ?_; rw [Bool.eq_iff_iff]; simp; omega)
 | false =>
   go_enter Tryz.func38, Tryz.ntmps38
   go_wp2_with fail
   all_goals (go_ret; refine ⟨?_, (Below.refl _ _).alloc (Nat.le_refl _) _⟩; rw [E.out]; refine ret_bb ?_; rw [Bool.eq_iff_iff]; simp; omega)
theorem odd_any (r : Rv) (w : World) : Calls Tryz.prog 37 #[r.val] w fun e w' => e = .returned (.bool (!Tb.right r)) ∧ Below w.heap.size w w' := by
 obtain ⟨b, hb⟩ : ∃ b, b = Tb.right r := ⟨_, rfl⟩
 have K := hid (rightT_all r)
 rw [← hb] at K ⊢
 obtain ⟨kA, kc, k, seq, del, vA, vc, v⟩ := r
 unfold Rv.val at K ⊢
 simp only at K ⊢
 clear hb
 cases b
 all_goals
   go_enter Tryz.func37, Tryz.ntmps37
   go_wp2_with fail
   refine (K.out _).mono ?_
   rintro e w1 ⟨rfl, hb1⟩
   go_wp2_with fail
   go_ret
   exact ⟨rfl, ((Below.refl _ _).alloc (Nat.le_refl _) _).trans (hb1.mono (by simp))⟩
theorem hasodd_any (l : List Rv) (A : Option Addr) (c : Nat) (hl : l.length ≤ 1000000) (hp : 0 < l.length) (w : World) (h : RdRv w w.heap.size A l) :
   Calls Tryz.prog 39 #[.slice A l.length c, .func (.func 37) #[] #[]] w fun e w' => e = .returned (.bool (l.any fun r => !Tb.right r)) ∧ Below w.heap.size w w' := by
 obtain ⟨b, off, rfl, hb, hc⟩ := RdS.row (f := Rv.cells) (n := 4) (fun _ => rfl) (by omega) h.row hp
 refine (AnyQ.slices_ContainsFunc Tryz.hasRec 4 Tryz.isAgg35 Tryz.sizeOf35 Rv.cells (fun _ => rfl) (fun x => !Tb.right x) 37 #[] (enters_of Tryz.func37 (by kernel_rfl) rfl) b off l.length c l w (fun W x hW => ?_) (Nat.le_refl _) (by omega) hb (fun j hj i v hv => ?_)).mono ?_
 · refine (odd_any x W).mono ?_
   rintro e w' ⟨rfl, hb⟩
   exact ⟨rfl, hW.trans (hb.mono hW.size)⟩
 · rw [getElem!_pos _ j hj] at hv
   exact hc j hj i v hv
 · rintro e w' ⟨rfl, hb⟩
   exact ⟨by simp, hb⟩
namespace Tb
structure St where
 out : List UInt8
 index : List Pr
 opn : List Pr
 n : Int
 bad : Bool
def fits (b : List UInt8) : Bool := decide (b.length ≤ 65536)
def close (s : St) : St := if s.opn = [] then s else
 ⟨s.out ++ putL 68 (blkB 16 s.opn), s.index ++ [⟨((s.opn.getLast?).map Pr.k).getD [], nums [s.out.length, (putL 68 (blkB 16 s.opn)).length]⟩], [], 0, s.bad || !fits (blkB 16 s.opn)⟩
def plen (p : Pr) : Int := (p.k.length : Int) + (p.v.length : Int)
def add (size : Int) (s : St) (r : Rv) : St :=
 let s := if size ≤ s.n then close s else s
 ⟨s.out, s.index, s.opn ++ [inner r], s.n + plen (inner r), s.bad⟩
def run (size : Int) (l : List Rv) : St := l.foldl (add size) ⟨[], [], [], 0, false⟩
def low (l : List Rv) : Int := l.foldl (fun m r => min m r.seq) ((l.head?.map Rv.seq).getD 0)
def high (l : List Rv) : Int := l.foldl (fun m r => max m r.seq) ((l.head?.map Rv.seq).getD 0)
def sorted (l : List Rv) : Bool := (List.range l.length).all fun i => i == 0 || ahead (l[i - 1]!) (l[i]!)
def ends (s : St) (size bits : Nat) (l : List Rv) : List (UInt8 × List UInt8) := [(70, Blm.build bits (l.map Rv.k)), (73, blkB 16 s.index), (90, nums [size, bits, l.length, (low l).toNat, (high l).toNat])]
def build (l : List Rv) (size bits : Int) : Int × List UInt8 :=
 if size < 64 ∨ 32768 < size ∨ bits < 1 ∨ 32 < bits ∨ l.length < 1 ∨ 20000 < l.length ∨ l.any (fun r => !right r) = true then (1, [])
 else if sorted l = false then (10, [])
 else
   let s := close (run size l)
   if (s.bad || (ends s size.toNat bits.toNat l).any (fun p => !fits p.2)) = true then (2, []) else (0, s.out ++ (ends s size.toNat bits.toNat l).flatMap (fun p => putL p.1 p.2))
end Tb
def Wr.st (s : Wr) : Tb.St := ⟨s.out, s.index.map Pv.pr, s.opn.map Pv.pr, s.n, s.bad⟩
theorem st_closed (s : Wr) (kA : Option Addr) (kc : Nat) (vA : Option Addr) (vc : Nat) : (if s.opn = [] then s else Tb.closed s kA kc vA vc).st = Tb.close s.st := by
 unfold Tb.close
 by_cases h : s.opn = []
 · rw [if_pos h, if_pos (by simp [Wr.st, h])]
 · rw [if_neg h, if_neg (by simp [Wr.st, h])]
   simp only [Wr.st, Tb.closed, List.map_append, List.map_cons, List.map_nil, Pv.pr, Tb.fits, List.getLast?_map]
   cases s.opn.getLast? <;> rfl
def CloseQ (w : World) (base gw : Nat) (s : Wr) (a : WrA) (wr : World) (e : Ending) (w' : World) : Prop :=
 e = .returned (.tuple #[]) ∧ ∃ s' a', WS w base gw s' a' w' ∧ Mv gw a wr a' w' ∧ s'.st = Tb.close s.st ∧ (∀ g, WB s' g → WB s g ∨ wr.heap.size ≤ g)
theorem close_any (w : World) (base gw : Nat) (s : Wr) (a : WrA) (wr : World) (h : WS w base gw s a wr) (hln : s.opn.length ≤ 100000) (hxn : s.index.length ≤ 100000) (hsz : ∀ p ∈ s.opn, p.k.length ≤ 100000 ∧ p.v.length ≤ 100000) (hon : s.out.length ≤ 1000000000000) :
   Calls Tryz.prog 41 #[.pointer (some ⟨gw, 0, none⟩)] wr (CloseQ w base gw s a wr) := by
 have key : Calls Tryz.prog 41 #[.pointer (some ⟨gw, 0, none⟩)] wr (CloseP w base gw s a wr) := by
   rcases List.eq_nil_or_concat s.opn with he | ⟨P, q, he⟩
   · exact close_empty w base gw s a wr h he
   · obtain ⟨out, index, opn, n, bad⟩ := s
     simp only [List.concat_eq_append] at he
     subst he
     exact close_full w base gw out index P q n bad a wr h (by simp at hln; omega) hxn hsz hon
 refine key.mono ?_
 rintro e w' ⟨rfl, kA, kc, vA, vc, a', hw, hm, hk, hv⟩
 refine ⟨rfl, _, a', hw, hm, st_closed s kA kc vA vc, fun g hg => ?_⟩
 by_cases he : s.opn = []
 · rw [if_pos he] at hg; exact .inl hg
 · rw [if_neg he] at hg
   obtain ⟨q, hq, hb⟩ := hg
   unfold Tb.closed at hq
   simp only [List.mem_append, List.mem_singleton, List.not_mem_nil, or_false] at hq
   rcases hq with h1 | h1
   · exact .inl ⟨q, .inl h1, hb⟩
   · subst h1
     rcases hb with h2 | h2
     · rcases hk with h3 | ⟨q', h3, h4⟩
       · exact absurd h3 he
       · exact .inl ⟨q', .inr h3, .inl (h4 ▸ h2)⟩
     · exact .inr (hv g h2)
theorem inner_any (r : Rv) (w : World) (h : Rv.Ok w w.heap.size r) (hk : r.k.length ≤ 100000) (hv : r.v.length ≤ 100000) (h1 : 1 ≤ r.seq) (h2 : r.seq ≤ 1099511627776) :
   Calls Tryz.prog 42 #[r.val] w (InnerP w (Tb.inner r)) := by
 obtain ⟨kA, kc, k, seq, del, vA, vc, v⟩ := r
 cases del with
 | false => exact inner_false kA kc k seq vA vc v w h.key h.val hk hv h1 h2
 | true => exact inner_true kA kc k seq vA vc v w h.key h.val hk hv h1 h2
theorem bsT : RT Tryz.prog 104 22 Bs.cells 1 24 (.slice none 0 0) :=
 ⟨Tryz.underlying104, by kernel_rfl, fun _ => rfl, fun a u hu => by simp [Bs.cells] at hu; subst hu; rfl, by omega, rfl⟩
def Rv.bs (r : Rv) : Bs := ⟨r.kA, r.kc, r.k⟩
theorem rd_bs_new (w : World) (p : Bs) : RdS Bs.cells 1 (w.alloc (.cells #[.slice p.A p.l.length p.c] 22)) (w.heap.size + 1) (some ⟨w.heap.size, 0, none⟩) [p] := by
 refine RdS.of (f := Bs.cells) (n := 1) (l := [p]) (fun _ => rfl) _ 0 (by omega) (fun k hk j u hj => ?_)
 obtain rfl : k = 0 := by simp at hk; exact hk
 have hj' : p.cells[j]? = some u := hj
 rw [cell_of_row _ w.heap.size _ _ _ (0, 0) (heap_alloc_new w _)]
 simpa [Bs.cells] using hj'
namespace Tb
structure Bnd (k : Nat) (s : St) : Prop where
 out : s.out.length ≤ 100000 * k
 il : s.index.length ≤ k
 ol : s.opn.length ≤ k
 ib : ∀ p ∈ s.index, p.k.length ≤ 10000 ∧ p.v.length ≤ 10000
 ob : ∀ p ∈ s.opn, p.k.length ≤ 10000 ∧ p.v.length ≤ 10000
 n0 : 0 ≤ s.n
 n1 : s.n ≤ 20000 * k
theorem nums2_len (a b : Nat) (ha : a < 18446744073709551616) (hb : b < 18446744073709551616) : (nums [a, b]).length ≤ 20 := by
 have := nums_len [a, b] (by intro n hn; simp at hn; rcases hn with rfl | rfl <;> assumption) 2 (by simp)
 simpa using this
theorem bnd_close {k : Nat} {s : St} (h : Bnd k s) (hk : k ≤ 100000) : (close s).out.length ≤ s.out.length + 100000 ∧ (close s).index.length ≤ s.index.length + 1 ∧ (s.opn = [] → close s = s) ∧ (s.opn ≠ [] → (close s).opn = []) ∧ (∀ p ∈ (close s).index, p.k.length ≤ 10000 ∧ p.v.length ≤ 10000) := by
 unfold close
 by_cases he : s.opn = []
 · rw [if_pos he]
   exact ⟨by omega, by omega, fun _ => rfl, fun h' => absurd he h', h.ib⟩
 · rw [if_neg he]
   have hp := putL_len 68 (blkB 16 s.opn)
   refine ⟨by simp; omega, by simp, fun h' => absurd h' he, fun _ => rfl, fun p hp' => ?_⟩
   simp only [List.mem_append, List.mem_singleton] at hp'
   rcases hp' with h1 | h1
   · exact h.ib p h1
   · subst h1
     refine ⟨?_, ?_⟩
     · show (((s.opn.getLast?).map Pr.k).getD []).length ≤ 10000
       rcases hl : s.opn.getLast? with _ | q
       · simp
       · have := h.ob q (List.mem_of_getLast? hl)
         simp; exact this.1
     · have := nums2_len s.out.length (putL 68 (blkB 16 s.opn)).length (by have := h.out; omega) (by omega)
       show (nums _).length ≤ 10000
       omega
theorem right_iff (r : Rv) : right r = true ↔ 1 ≤ r.k.length ∧ r.k.length ≤ 512 ∧ 1 ≤ r.seq ∧ r.seq ≤ 1099511627776 ∧ r.v.length ≤ 4096 ∧ (r.del = true → r.v.length = 0) := by unfold right; exact decide_eq_true_iff
theorem inner_bd {r : Rv} (h : right r = true) : (inner r).k.length ≤ 10000 ∧ (inner r).v.length ≤ 10000 := by
 obtain ⟨h1, h2, h3, h4, h5, _⟩ := (right_iff r).1 h
 have := ikey_len r.k r.seq (by omega) h3 h4
 unfold inner
 exact ⟨by show (ikey r.k r.seq).length ≤ 10000; omega, by simp; omega⟩
theorem bnd_add {size : Int} {k : Nat} {s : St} (h : Bnd k s) (hk : k ≤ 50000) (r : Rv) (hr : right r = true) : Bnd (k + 1) (add size s r) := by
 obtain ⟨c1, c2, c3, c4, c5⟩ := bnd_close h (by omega)
 obtain ⟨i1, i2⟩ := inner_bd hr
 have hp : plen (inner r) ≤ 20000 ∧ 0 ≤ plen (inner r) := by unfold plen; omega
 have h1 := h.out; have h2 := h.il; have h3 := h.ol; have h4 := h.n0; have h5 := h.n1
 unfold add
 by_cases hc : size ≤ s.n
 · rw [if_pos hc]
   by_cases he : s.opn = []
   · rw [c3 he]
     exact ⟨by show s.out.length ≤ _; omega, by show s.index.length ≤ _; omega, by show (s.opn ++ [inner r]).length ≤ _; simp; omega, h.ib, fun p hp' => by
       have hp' : p ∈ s.opn ++ [inner r] := hp'
       rw [he] at hp'
       have : p = inner r := by simpa using hp'
       subst this; exact ⟨i1, i2⟩, by show 0 ≤ s.n + _; omega, by show s.n + _ ≤ _; omega⟩
   · have e := c4 he
     have en : (close s).n = 0 := by unfold close; rw [if_neg he]
     exact ⟨by show (close s).out.length ≤ _; omega, by show (close s).index.length ≤ _; omega, by show ((close s).opn ++ [inner r]).length ≤ _; rw [e]; simp, c5, fun p hp' => by
       have hp' : p ∈ (close s).opn ++ [inner r] := hp'
       rw [e] at hp'
       have : p = inner r := by simpa using hp'
       subst this; exact ⟨i1, i2⟩, by show 0 ≤ (close s).n + _; rw [en]; omega, by show (close s).n + _ ≤ _; rw [en]; omega⟩
 · rw [if_neg hc]
   exact ⟨by show s.out.length ≤ _; omega, by show s.index.length ≤ _; omega, by show (s.opn ++ [inner r]).length ≤ _; simp; omega, h.ib, fun p hp' => by
     simp only [List.mem_append, List.mem_singleton] at hp'
     rcases hp' with h6 | h6
     · exact h.ob p h6
     · subst h6; exact ⟨i1, i2⟩, by show 0 ≤ s.n + _; omega, by show s.n + _ ≤ _; omega⟩
theorem run_succ (size : Int) (l : List Rv) (k : Nat) (h : k < l.length) : run size (l.take (k + 1)) = add size (run size (l.take k)) l[k] := by
 unfold run
 rw [List.take_succ_eq_append_getElem h, List.foldl_append]; rfl
theorem run_bnd (size : Int) (l : List Rv) (hr : ∀ r ∈ l, right r = true) (hl : l.length ≤ 20000) (k : Nat) (h : k ≤ l.length) : Bnd k (run size (l.take k)) := by
 induction k with
 | zero => exact ⟨by simp [run], by simp [run], by simp [run], by simp [run], by simp [run], by simp [run], by simp [run]⟩
 | succ k ih =>
   rw [run_succ size l k (by omega)]
   exact bnd_add (ih (by omega)) (by omega) _ (hr _ (List.getElem_mem _))
def lowK (l : List Rv) (k : Nat) : Int := (l.take k).foldl (fun m r => min m r.seq) ((l.head?.map Rv.seq).getD 0)
def highK (l : List Rv) (k : Nat) : Int := (l.take k).foldl (fun m r => max m r.seq) ((l.head?.map Rv.seq).getD 0)
theorem lowK_succ (l : List Rv) (k : Nat) (h : k < l.length) : lowK l (k + 1) = min (lowK l k) l[k].seq := by
 unfold lowK; rw [List.take_succ_eq_append_getElem h, List.foldl_append]; rfl
theorem highK_succ (l : List Rv) (k : Nat) (h : k < l.length) : highK l (k + 1) = max (highK l k) l[k].seq := by
 unfold highK; rw [List.take_succ_eq_append_getElem h, List.foldl_append]; rfl
theorem lowK_all (l : List Rv) : lowK l l.length = low l := by unfold lowK low; rw [List.take_length]
theorem highK_all (l : List Rv) : highK l l.length = high l := by unfold highK high; rw [List.take_length]
theorem lowK_zero (l : List Rv) (h : 0 < l.length) : lowK l 0 = l[0].seq := by
 cases l with
 | nil => simp at h
 | cons a b => rfl
theorem highK_zero (l : List Rv) (h : 0 < l.length) : highK l 0 = l[0].seq := by
 cases l with
 | nil => simp at h
 | cons a b => rfl
theorem lohi_bd (l : List Rv) (hr : ∀ r ∈ l, right r = true) (hp : 0 < l.length) (k : Nat) (h : k ≤ l.length) : 1 ≤ lowK l k ∧ lowK l k ≤ 1099511627776 ∧ 1 ≤ highK l k ∧ highK l k ≤ 1099511627776 := by
 induction k with
 | zero =>
   rw [lowK_zero l hp, highK_zero l hp]
   obtain ⟨_, _, h3, h4, _⟩ := (right_iff _).1 (hr _ (List.getElem_mem hp))
   exact ⟨h3, h4, h3, h4⟩
 | succ k ih =>
   rw [lowK_succ l k (by omega), highK_succ l k (by omega)]
   obtain ⟨_, _, h3, h4, _⟩ := (right_iff _).1 (hr _ (List.getElem_mem (by omega : k < l.length)))
   have := ih (by omega)
   omega
theorem sorted_no {l : List Rv} {i : Nat} (h : i < l.length) (h0 : 0 < i) (hb : ahead (l[i - 1]'(by omega)) l[i] = false) : sorted l = false := by
 cases hs : sorted l with
 | false => rfl
 | true =>
   unfold sorted at hs
   rw [List.all_eq_true] at hs
   have := hs i (List.mem_range.2 h)
   rw [getElem!_pos l (i - 1) (by omega), getElem!_pos l i h, hb] at this
   simp at this
   omega
theorem sorted_yes {l : List Rv} (h : ∀ i (hi : i < l.length), 0 < i → ahead (l[i - 1]'(by omega)) l[i] = true) : sorted l = true := by
 unfold sorted
 rw [List.all_eq_true]
 intro i hi
 have hi' := List.mem_range.1 hi
 rcases Nat.eq_zero_or_pos i with h0 | h0
 · simp [h0]
 · rw [getElem!_pos l (i - 1) (by omega), getElem!_pos l i hi', h i hi' h0]; simp
def mid (size : Int) (s : St) : St := if size ≤ s.n then close s else s
theorem mid_bnd {k : Nat} {s : St} (h : Bnd k s) (hk : k ≤ 50000) (size : Int) : (mid size s).out.length ≤ 100000 * k + 100000 ∧ (mid size s).index.length ≤ k + 1 ∧ (mid size s).opn.length ≤ k ∧ 0 ≤ (mid size s).n ∧ (mid size s).n ≤ 20000 * (k : Int) := by
 obtain ⟨c1, c2, c3, c4, c5⟩ := bnd_close h (by omega)
 have h1 := h.out; have h2 := h.il; have h3 := h.ol; have h4 := h.n0; have h5 := h.n1
 unfold mid
 split
 · by_cases he : s.opn = []
   · rw [c3 he]; exact ⟨by omega, by omega, by omega, by omega, by omega⟩
   · have en : (close s).n = 0 := by unfold close; rw [if_neg he]
     rw [c4 he, en]; exact ⟨by omega, by omega, by simp, by omega, by omega⟩
 · exact ⟨by omega, by omega, by omega, by omega, by omega⟩
theorem add_mid (size : Int) (s : St) (r : Rv) : add size s r = ⟨(mid size s).out, (mid size s).index, (mid size s).opn ++ [inner r], (mid size s).n + plen (inner r), (mid size s).bad⟩ := rfl
end Tb
theorem below_drN {B : Nat} {a w : World} {k : Nat} (h : Below B a w) : Below B a (w.drewN k) := ⟨h.os, h.tape, h.output, h.size, h.block⟩
theorem drewN_any {G : World → Prop} {w : World} {n : Nat} (h : ∀ X, Below w.heap.size w X → X.heap = w.heap → G X) : G (w.drewN n) := h _ ⟨rfl, rfl, rfl, Nat.le_refl _, fun _ _ => rfl⟩ rfl
theorem tb_bad {l : List Rv} {size bits : Int} (h : size < 64 ∨ 32768 < size ∨ bits < 1 ∨ 32 < bits ∨ l.length < 1 ∨ 20000 < l.length ∨ l.any (fun r => !Tb.right r) = true) : Tb.build l size bits = (1, []) := by
 unfold Tb.build; rw [if_pos h]
theorem gives_bad {w w' : World} {l : List Rv} {size bits : Int} (h : size < 64 ∨ 32768 < size ∨ bits < 1 ∨ 32 < bits ∨ l.length < 1 ∨ 20000 < l.length ∨ l.any (fun r => !Tb.right r) = true) (hb : Below w.heap.size w w') :
   GivesR w (Tb.build l size bits).1 (Tb.build l size bits).2 (.returned (.tuple #[.slice none 0 0, .int .i64 1])) w' := by
 rw [tb_bad h]; exact ⟨hb, .inl ⟨by decide, rfl⟩⟩
structure BR (w : World) (l : List Rv) (size : Int) (gw k : Nat) (a : WrA) (s : Wr) (KA : Option Addr) (KC : Nat) (wr : World) : Prop where
 ws : WS w w.heap.size gw s a wr
 st : s.st = Tb.run size (l.take k)
 keys : OwnS Bs.cells 1 wr w.heap.size 22 KA KC ((l.take k).map Rv.bs)
 off : Off (a.R gw) (blk KA)
 kp : ∀ g, WB s g → blk KA ≠ some g
 ord : ∀ i (hi : i < l.length), 0 < i → i < k → Tb.ahead (l[i - 1]'(by omega)) l[i] = true
theorem BR.call {w wr w2 : World} {l : List Rv} {size : Int} {gw k : Nat} {a : WrA} {s : Wr} {KA : Option Addr} {KC : Nat} (h : BR w l size gw k a s KA KC wr) (hb : Below wr.heap.size wr w2) : BR w l size gw k a s KA KC w2 :=
 ⟨h.ws.call hb, h.st, h.keys.below hb, h.off, h.kp, h.ord⟩
theorem wr_new (w w1 : World) (hb : Below w.heap.size w w1) : WS w w.heap.size w1.heap.size ⟨[], [], [], 0, false⟩ ⟨none, 0, none, 0, none, 0⟩ (w1.alloc (.cells #[.slice none 0 0, .slice none 0 0, .slice none 0 0, .int .i64 0, .bool false] 103)) :=
 ⟨heap_alloc_new w1 _, Own.nil _ _ _, OwnS.nil _ _ _, OwnS.nil _ _ _, fun q hq => (by rcases hq with h | h <;> cases h), (fun g hg => (by cases hg)), (fun g hg => (by cases hg)), (fun g hg => (by cases hg)), hb.size, hb.alloc hb.size _, by simp; have := hb.size; omega⟩
theorem WS.wb_lt {w wr : World} {base gw : Nat} {s : Wr} {a : WrA} (h : WS w base gw s a wr) {g : Nat} (hb : WB s g) : g < wr.heap.size := by
 obtain ⟨q, hq, h1 | h1⟩ := hb
 · exact ((h.prs q hq).k.blk_ge g h1).2
 · exact ((h.prs q hq).v.blk_ge g h1).2
theorem key_step {w W8 W9 : World} {base gw : Nat} {s : Wr} {a : WrA} {KA KA' : Option Addr} {KC : Nat} {Q : List Bs} {o : Obj} (h : WS w base gw s a W8) (hk : OwnS Bs.cells 1 W8 base 22 KA KC Q) (hoff : Off (a.R gw) (blk KA)) (hkp : ∀ g, WB s g → blk KA ≠ some g)
   (hg : (W8.alloc o).grownBy W9 (blk KA)) (hat : blk KA' = blk KA ∨ blk KA' = some (W8.heap.size + 1)) : WS w base gw s a W9 ∧ Off (a.R gw) (blk KA') ∧ (∀ g, WB s g → blk KA' ≠ some g) := by
 refine ⟨(h.call ((Below.refl _ _).alloc (Nat.le_refl _) o)).other hg (fun g hgg => ⟨hoff g hgg, fun hb => hkp g hb hgg, (hk.blk_ge g hgg).1⟩), ?_, fun g hb e => ?_⟩
 · intro g hgg hm
   rcases hat with h1 | h1
   · exact hoff g (h1 ▸ hgg) hm
   · rw [h1] at hgg; injection hgg with hgg
     have := h.lts g hm; omega
 · rcases hat with h1 | h1
   · exact hkp g hb (h1 ▸ e)
   · rw [h1] at e; injection e with e
     have := h.wb_lt hb; omega
theorem rec_keep {WA w' : World} {b o rb : Nat} {x0 x1 x2 x3 y0 y1 y2 y3 : Value} (h : WA.cell? ⟨b, o, none⟩ = some x0 ∧ WA.cell? ⟨b, o + 1, none⟩ = some x1 ∧ WA.cell? ⟨b, o + 2, none⟩ = some x2 ∧ WA.cell? ⟨b, o + 3, none⟩ = some x3 ∧
   WA.cell? ⟨rb, 0, none⟩ = some y0 ∧ WA.cell? ⟨rb, 1, none⟩ = some y1 ∧ WA.cell? ⟨rb, 2, none⟩ = some y2 ∧ WA.cell? ⟨rb, 3, none⟩ = some y3) (hb : b < WA.heap.size) (hr : rb < WA.heap.size) (hw : Below WA.heap.size WA w') :
   w'.cell? ⟨b, o, none⟩ = some x0 ∧ w'.cell? ⟨b, o + 1, none⟩ = some x1 ∧ w'.cell? ⟨b, o + 2, none⟩ = some x2 ∧ w'.cell? ⟨b, o + 3, none⟩ = some x3 ∧
   w'.cell? ⟨rb, 0, none⟩ = some y0 ∧ w'.cell? ⟨rb, 1, none⟩ = some y1 ∧ w'.cell? ⟨rb, 2, none⟩ = some y2 ∧ w'.cell? ⟨rb, 3, none⟩ = some y3 ∧ Below WA.heap.size WA w' :=
 ⟨(hw.cell (p := ⟨b, o, none⟩) hb).trans h.1, (hw.cell (p := ⟨b, o + 1, none⟩) hb).trans h.2.1, (hw.cell (p := ⟨b, o + 2, none⟩) hb).trans h.2.2.1, (hw.cell (p := ⟨b, o + 3, none⟩) hb).trans h.2.2.2.1,
   (hw.cell (p := ⟨rb, 0, none⟩) hr).trans h.2.2.2.2.1, (hw.cell (p := ⟨rb, 1, none⟩) hr).trans h.2.2.2.2.2.1, (hw.cell (p := ⟨rb, 2, none⟩) hr).trans h.2.2.2.2.2.2.1, (hw.cell (p := ⟨rb, 3, none⟩) hr).trans h.2.2.2.2.2.2.2, hw⟩
theorem own_keep {w w' : World} {base c : Nat} {e : TypeId} {A : Option Addr} {l : List UInt8} (h : Own w base e A c l) (hb : ∀ g, blk A = some g → w'.heap[g]? = w.heap[g]?) : Own w' base e A c l := by
 unfold Own at h ⊢
 refine ⟨h.1, ?_⟩
 rcases h.2 with h2 | ⟨g, cap, cur, hv, hg, hh, r⟩
 · exact .inl h2
 · refine .inr ⟨g, cap, cur, hv, hg, ?_, r⟩
   injection hv with hv
   rw [hb g (by rw [hv]; rfl)]
   exact hh
theorem tb_end {l : List Rv} {size bits : Int} (hno : ¬ (size < 64 ∨ 32768 < size ∨ bits < 1 ∨ 32 < bits ∨ l.length < 1 ∨ 20000 < l.length ∨ l.any (fun r => !Tb.right r) = true)) (hs : Tb.sorted l = true) (s : Wr) (hst : s.st = Tb.close (Tb.run size l)) (B X N : List UInt8)
   (hB : B = Blm.build bits.toNat (l.map Rv.k)) (hX : X = Tb.blkB 16 (s.index.map Pv.pr)) (hN : N = Tb.nums [size.toNat, bits.toNat, l.length, (Tb.low l).toNat, (Tb.high l).toNat]) :
   Tb.build l size bits = if (((s.bad || !decide (B.length ≤ 65536)) || !decide (X.length ≤ 65536)) || !decide (N.length ≤ 65536)) = true then (2, []) else (0, ((s.out ++ Tb.putL 70 B) ++ Tb.putL 73 X) ++ Tb.putL 90 N) := by
 unfold Tb.build
 rw [if_neg hno, if_neg (by rw [hs]; simp)]
 simp only [← hst, Tb.ends, Wr.st, ← hB, ← hX, ← hN, List.any_cons, List.any_nil, Tb.fits, Bool.or_false, List.flatMap_cons, List.flatMap_nil, List.append_nil, Bool.or_assoc, List.append_assoc]
theorem gives_two {w w' : World} {l : List Rv} {size bits : Int} (h : Tb.build l size bits = (2, [])) (hb : Below w.heap.size w w') : GivesR w (Tb.build l size bits).1 (Tb.build l size bits).2 (.returned (.tuple #[.slice none 0 0, .int .i64 2])) w' := by
 rw [h]; exact ⟨hb, .inl ⟨by decide, rfl⟩⟩
theorem gives_ten {w w' : World} {l : List Rv} {size bits : Int} (hno : ¬ (size < 64 ∨ 32768 < size ∨ bits < 1 ∨ 32 < bits ∨ l.length < 1 ∨ 20000 < l.length ∨ l.any (fun r => !Tb.right r) = true)) (h : Tb.sorted l = false) (hb : Below w.heap.size w w') : GivesR w (Tb.build l size bits).1 (Tb.build l size bits).2 (.returned (.tuple #[.slice none 0 0, .int .i64 10])) w' := by
 have : Tb.build l size bits = (10, []) := by unfold Tb.build; rw [if_neg hno, if_pos h]
 rw [this]; exact ⟨hb, .inl ⟨by decide, rfl⟩⟩
theorem gives_well {w w' : World} {l : List Rv} {size bits : Int} {L : List UInt8} {A : Option Addr} {c : Nat} (h : Tb.build l size bits = (0, L)) (hb : Below w.heap.size w w') (ho : Own w' w.heap.size 5 A c L) : GivesR w (Tb.build l size bits).1 (Tb.build l size bits).2 (.returned (.tuple #[.slice A L.length c, .int .i64 0])) w' := by
 rw [h]; exact ⟨hb, .inr ⟨rfl, A, c, rfl, ho⟩⟩
set_option maxHeartbeats 8000000 in
set_option maxRecDepth 100000 in
theorem tbuild_any (A : Option Addr) (c : Nat) (l : List Rv) (size bits : Int) (w : World) (h : RdRv w w.heap.size A l) (hl : l.length ≤ 1000000) :
   Calls Tryz.prog 13 #[.slice A l.length c, .int .i64 size, .int .i64 bits] w (GivesR w (Tb.build l size bits).1 (Tb.build l size bits).2) := by
 by_cases b1 : size < 64
 · have HG := hid (@gives_bad w w l size bits (by simp [b1]) (Below.refl _ _))
   go_enter Tryz.func13, Tryz.ntmps13
   go_wp2_with fail
   go_ret2
   exact HG.out
 by_cases b2 : 32768 < size
 · have HG := hid (@gives_bad w w l size bits (by simp [b2]) (Below.refl _ _))
   go_enter Tryz.func13, Tryz.ntmps13
   go_wp2_with fail
   go_ret2
   exact HG.out
 by_cases b3 : bits < 1
 · have HG := hid (@gives_bad w w l size bits (by simp [b3]) (Below.refl _ _))
   go_enter Tryz.func13, Tryz.ntmps13
   go_wp2_with fail
   go_ret2
   exact HG.out
 by_cases b4 : 32 < bits
 · have HG := hid (@gives_bad w w l size bits (by simp [b4]) (Below.refl _ _))
   go_enter Tryz.func13, Tryz.ntmps13
   go_wp2_with fail
   go_ret2
   exact HG.out
 by_cases b5 : (l.length : Int) < 1
 · have HG := hid (@gives_bad w w l size bits (by omega) (Below.refl _ _))
   go_enter Tryz.func13, Tryz.ntmps13
   go_wp2_with fail
   go_ret2
   exact HG.out
 by_cases b6 : 20000 < (l.length : Int)
 · have HG := hid (@gives_bad w w l size bits (by omega) (Below.refl _ _))
   go_enter Tryz.func13, Tryz.ntmps13
   go_wp2_with fail
   go_ret2
   exact HG.out
 have KC := hid (hasodd_any l A c hl (by omega) w h)
 rcases hany : l.any (fun r => !Tb.right r) with _ | _
 case true =>
   rw [hany] at KC
   have HG := hid (fun w1 => @gives_bad w w1 l size bits (by simp [hany]))
   clear hany
   go_enter Tryz.func13, Tryz.ntmps13
   go_wp2_with fail
   refine KC.out.mono ?_
   rintro e w1 ⟨rfl, hb1⟩
   go_wp2_with fail
   go_ret2
   exact HG.out _ hb1
 rw [hany] at KC
 have hr : ∀ r ∈ l, Tb.right r = true := fun r hr => by
   cases hx : Tb.right r with
   | true => rfl
   | false =>
     have : l.any (fun r => !Tb.right r) = true := List.any_eq_true.2 ⟨r, hr, by simp [hx]⟩
     rw [hany] at this; cases this
 have hno : ¬ (size < 64 ∨ 32768 < size ∨ bits < 1 ∨ 32 < bits ∨ l.length < 1 ∨ 20000 < l.length ∨ l.any (fun r => !Tb.right r) = true) := by
   rw [hany]
   rintro (h1 | h1 | h1 | h1 | h1 | h1 | h1)
   · exact b1 h1
   · exact b2 h1
   · exact b3 h1
   · exact b4 h1
   · omega
   · omega
   · cases h1
 have HNO := hid hno
 have HR := hid hr
 have hl2 : l.length ≤ 20000 := by omega
 have hp : 0 < l.length := by omega
 have HH := hid h
 obtain ⟨b, off, hA, hbl, hrow⟩ := h.row4 hp
 subst hA
 have HROW := hid hrow
 have q0 := (hrow 0 hp).2.1
 rw [Nat.zero_mul, Nat.add_zero] at q0
 obtain ⟨s0, hs0⟩ : ∃ s0, s0 = l[0].seq := ⟨_, rfl⟩
 rw [← hs0] at q0
 have HLO : Hid (Tb.lowK l 0 = s0 ∧ Tb.highK l 0 = s0) := hid ⟨by rw [hs0]; exact Tb.lowK_zero l hp, by rw [hs0]; exact Tb.highK_zero l hp⟩
 clear hno hr h hrow hany b5 hs0
 go_enter Tryz.func13, Tryz.ntmps13
 go_wp2_with fail
 refine KC.out.mono ?_
 rintro e w1 ⟨rfl, hb1⟩
 have HB1 := hid hb1
 have HW1 := hid (wr_new w w1 hb1)
 have q1 := (hb1.cell (p := ⟨b, off + 1, none⟩) hbl).trans q0
 have q2 : (w1.alloc (.cells #[.slice none 0 0, .slice none 0 0, .slice none 0 0, .int .i64 0, .bool false] 103)).cell? ⟨b, off + 1, none⟩ = some (.int .i64 s0) := (World.cell?_alloc_lt w1 _ ⟨b, off + 1, none⟩ (Nat.lt_of_lt_of_le hbl hb1.size)).trans q1
 have hone : (1 : Int) ≤ (l.length : Int) := by omega
 clear hb1 q0 q1 KC
 go_wp2_with fail
 go_quiet (fail)
 rename_i nq
 go_wp2_with fail
 obtain ⟨gw, hgw⟩ : ∃ gw, w1.heap.size = gw := ⟨_, rfl⟩
 rw [hgw] at HW1 ⊢
 have HGW := hid hgw
 obtain ⟨W2, hW2⟩ : ∃ W2, World.drewN (w1.alloc (.cells #[.slice none 0 0, .slice none 0 0, .slice none 0 0, .int .i64 0, .bool false] 103)) nq = W2 := ⟨_, rfl⟩
 have hbr0 : BR w l size gw 0 ⟨none, 0, none, 0, none, 0⟩ ⟨[], [], [], 0, false⟩ none 0 W2 := ⟨by rw [← hW2]; exact HW1.out.call (below_drN (Below.refl _ _)), rfl, OwnS.nil _ _ _, (fun g hg => by cases hg), (fun g _ h => by cases h), fun i _ h0 h1 => by omega⟩
 rw [hW2]
 have HBR0 := hid hbr0
 clear hgw hW2 hbr0 HW1 q2 hone HB1
 go_loopw [10, 11, 12, 13, 14, 15, 61] (fun ks lo hi _ _ _ i wr => ∃ (k : Nat) (a : WrA) (s : Wr) (KA : Option Addr) (KC : Nat) (L H : Int), k ≤ l.length ∧ i = .int .i64 (k : Int) ∧ ks = .slice KA k KC ∧ lo = .int .i64 L ∧ hi = .int .i64 H ∧ Hid (L = Tb.lowK l k ∧ H = Tb.highK l k) ∧ Hid (BR w l size gw k a s KA KC wr)) (fun _ _ _ _ _ _ i _ => l.length - (intOf i).toNat)
 case atStart => exact ⟨0, _, _, none, 0, s0, s0, by omega, rfl, rfl, rfl, rfl, hid ⟨HLO.out.1.symm, HLO.out.2.symm⟩, HBR0⟩
 case round =>
   obtain ⟨k, a, s, KA, KC, L, H, hk, rfl, rfl, rfl, rfl, HLH, HBR⟩ := hrel
   clear HBR0 HLO
   by_cases hlt : k < l.length
   · obtain ⟨r, hrv⟩ : ∃ r, r = l[k] := ⟨_, rfl⟩
     have hmem : r ∈ l := by rw [hrv]; exact List.getElem_mem hlt
     have hright := HR.out r hmem
     have HRT := hid hright
     have hbb := HBR.out.ws.below
     have hok := (HH.out.ok r hmem).below hbb (Nat.le_refl _)
     have hbz := HBR.out.ws.size
     have HOK := hid hok
     obtain ⟨c0, c1, c2, c3⟩ := HROW.out k hlt
     rw [← hrv] at c0 c1 c2 c3
     have r0 := (hbb.cell (p := ⟨b, off + k * 4, none⟩) hbl).trans c0
     have r1 := (hbb.cell (p := ⟨b, off + k * 4 + 1, none⟩) hbl).trans c1
     have r2 := (hbb.cell (p := ⟨b, off + k * 4 + 2, none⟩) hbl).trans c2
     have r3 := (hbb.cell (p := ⟨b, off + k * 4 + 3, none⟩) hbl).trans c3
     have HRV := hid hrv
     have HMEM := hid hmem
     clear c0 c1 c2 c3 hmem hright hok hrv hbb
     obtain ⟨kA, kc, kk, seq, del, vA, vc, vv⟩ := r
     simp only at r0 r1 r2 r3
     have hal := (Below.refl wr.heap.size wr).alloc (Nat.le_refl _) (.cells #[.slice kA kk.length kc, .int .i64 seq, .bool del, .slice vA vv.length vc] 35)
     have HBRA := hid (HBR.out.call hal)
     have HBOXA : Hid ((wr.alloc (.cells #[.slice kA kk.length kc, .int .i64 seq, .bool del, .slice vA vv.length vc] 35)).heap[wr.heap.size]? = some (.cells #[.slice kA kk.length kc, .int .i64 seq, .bool del, .slice vA vv.length vc] 35)) := hid (heap_alloc_new wr _)
     obtain ⟨rb, hrb⟩ : ∃ rb, wr.heap.size = rb := ⟨_, rfl⟩
     obtain ⟨WA, hWA⟩ : ∃ WA, wr.alloc (.cells #[.slice kA kk.length kc, .int .i64 seq, .bool del, .slice vA vv.length vc] 35) = WA := ⟨_, rfl⟩
     have HRB : Hid (w.heap.size ≤ rb ∧ rb < WA.heap.size ∧ some rb ∉ a.R gw) := hid ⟨by rw [← hrb]; exact hbz, by rw [← hWA, ← hrb]; simp, fun hm => by have := HBR.out.ws.lts rb hm; omega⟩
     have HNRB : Hid (some rb ≠ blk KA) := hid (fun e => by have := (HBR.out.keys.blk_ge rb e.symm).2; omega)
     rw [hWA] at HBRA HBOXA
     rw [hrb] at HBOXA
     have HWA := hid hWA
     have HRBE := hid hrb
     clear hal hWA hrb hbz
     have d0 := cell_of_row WA rb 0 _ _ (0, 0) HBOXA.out
     have d1 := cell_of_row WA rb 1 _ _ (0, 0) HBOXA.out
     have d2 := cell_of_row WA rb 2 _ _ (0, 0) HBOXA.out
     have d3 := cell_of_row WA rb 3 _ _ (0, 0) HBOXA.out
     simp at d0 d1 d2 d3
     by_cases h0 : 0 < k
     case' pos =>
       obtain ⟨j, hj⟩ : ∃ j, k = j + 1 := ⟨k - 1, by omega⟩
       have hjl : j < l.length := by omega
       obtain ⟨r', hr'⟩ : ∃ r', r' = l[j] := ⟨_, rfl⟩
       have hmem' : r' ∈ l := by rw [hr']; exact List.getElem_mem hjl
       obtain ⟨c0, c1, c2, c3⟩ := HROW.out j hjl
       rw [← hr'] at c0 c1 c2 c3
       have hbA := HBRA.out.ws.below
       have p0 := (hbA.cell (p := ⟨b, off + j * 4, none⟩) hbl).trans c0
       have p1 := (hbA.cell (p := ⟨b, off + j * 4 + 1, none⟩) hbl).trans c1
       have p2 := (hbA.cell (p := ⟨b, off + j * 4 + 2, none⟩) hbl).trans c2
       have p3 := (hbA.cell (p := ⟨b, off + j * 4 + 3, none⟩) hbl).trans c3
       have hszA := HBRA.out.ws.size
       have KO : Hid (∀ w', Below WA.heap.size WA w' → Calls Tryz.prog 40 #[r'.val, (⟨kA, kc, kk, seq, del, vA, vc, vv⟩ : Rv).val] w' fun e w'' => e = .returned (.int .i64 (Tb.ordI r' ⟨kA, kc, kk, seq, del, vA, vc, vv⟩)) ∧ Below w'.heap.size w' w'') := hid (fun w' hb' => by
         have hbb : Below w.heap.size w w' := hbA.trans (hb'.mono hszA)
         exact orderT_any _ _ w' (((HH.out.ok r' hmem').below hbb (Nat.le_refl _)).more hbb.size) (((HH.out.ok _ HMEM.out).below hbb (Nat.le_refl _)).more hbb.size))
       have HJ : Hid (j + 1 = k ∧ ∀ (h : j < l.length), r' = l[j]) := hid ⟨hj.symm, fun _ => hr'⟩
       clear hr' hmem' c0 c1 c2 c3
       obtain ⟨o, ho⟩ : ∃ o, o = Tb.ordI r' ⟨kA, kc, kk, seq, del, vA, vc, vv⟩ := ⟨_, rfl⟩
       rw [← ho] at KO
       have HOI := hid ho
       clear ho
       obtain ⟨kA', kc', kk', seq', del', vA', vc', vv'⟩ := r'
       simp only [Rv.val] at p0 p1 p2 p3 KO
       have hbA2 : b < WA.heap.size := Nat.lt_of_lt_of_le hbl hszA
       have HKEEP := hid (fun (w' : World) => rec_keep (w' := w') ⟨p0, p1, p2, p3, d0, d1, d2, d3⟩ hbA2 HRB.out.2.1)
       clear hbA hbA2 hszA
       have hk0 : (0 : Int) < (k : Int) := by omega
       have hk1 : decide ((0 : Int) < (k : Int)) = true := decide_eq_true hk0
       have hsum : IntKind.i64.wrap ((k : Int) - 1) = (j : Int) := by rw [IntKind.wrap_i64]; omega
       have hj0 : (0 : Int) ≤ (j : Int) := by omega
       have hj1 : (j : Int) < (l.length : Int) := by omega
       clear hj
       by_cases ho0 : 0 ≤ o
       case pos =>
         have ho1 : decide (0 ≤ o) = true := decide_eq_true ho0
         have HTEN : Hid (∀ w', Below w.heap.size w w' → GivesR w (Tb.build l size bits).1 (Tb.build l size bits).2 (.returned (.tuple #[.slice none 0 0, .int .i64 10])) w') := hid (fun w' hb' => by
           refine gives_ten HNO.out (Tb.sorted_no (i := k) hlt h0 ?_) hb'
           obtain ⟨e1, e2⟩ := HJ.out
           subst e1
           show Tb.ahead l[j] l[j + 1] = false
           rw [← e2 hjl, ← HRV.out]
           cases hx : Tb.ahead ⟨kA', kc', kk', seq', del', vA', vc', vv'⟩ ⟨kA, kc, kk, seq, del, vA, vc, vv⟩ with
           | false => rfl
           | true => have := (Tb.ordI_neg _ _).2 hx; rw [← HOI.out] at this; omega)
         have HBB := hid HBRA.out.ws.below
         have HSA := hid HBRA.out.ws.size
         clear hjl
         go_wp2_with fail
         rw [HRBE.out, HWA.out]
         go_region_held (fun w' => w'.cell? ⟨b, off + j * 4, none⟩ = some (.slice kA' kk'.length kc') ∧ w'.cell? ⟨b, off + j * 4 + 1, none⟩ = some (.int .i64 seq') ∧ w'.cell? ⟨b, off + j * 4 + 2, none⟩ = some (.bool del') ∧ w'.cell? ⟨b, off + j * 4 + 3, none⟩ = some (.slice vA' vv'.length vc') ∧ w'.cell? ⟨rb, 0, none⟩ = some (.slice kA kk.length kc) ∧ w'.cell? ⟨rb, 1, none⟩ = some (.int .i64 seq) ∧ w'.cell? ⟨rb, 2, none⟩ = some (.bool del) ∧ w'.cell? ⟨rb, 3, none⟩ = some (.slice vA vv.length vc) ∧ Below WA.heap.size WA w')
           (first | exact HKEEP.out _ ((Below.refl _ _).drew) | exact HKEEP.out _ B3)
           (first | (go_at_call 40; refine (KO.out _ (by go_split_ands; assumption)).mono ?_; rintro e w1 ⟨rfl, hb1⟩; have B3 := Below.trans (b := _) (by go_split_ands; assumption : Below WA.heap.size WA _) (hb1.mono (by go_split_ands; exact Below.size (by assumption)))))
         go_wp2_with fail
         go_ret2
         exact HTEN.out _ (HBB.out.trans (B3.mono HSA.out))
       have hlt0 : o < 0 := by omega
       have ho1 : decide (0 ≤ o) = false := decide_eq_false ho0
       have HORD : Hid (∀ i (hi : i < l.length), 0 < i → i < k + 1 → Tb.ahead (l[i - 1]'(by omega)) l[i] = true) := hid (fun i hi h1 h2 => by
         by_cases hik : i = k
         · obtain ⟨e1, e2⟩ := HJ.out
           subst hik
           subst e1
           show Tb.ahead l[j] l[j + 1] = true
           rw [← e2 hjl, ← HRV.out]
           exact (Tb.ordI_neg _ _).1 (by rw [← HOI.out]; exact hlt0)
         · exact HBRA.out.ord i hi h1 (by omega))
       clear hlt0 hjl
       go_wp2_with fail
       rw [HRBE.out, HWA.out]
       go_region_held (fun w' => w'.cell? ⟨b, off + j * 4, none⟩ = some (.slice kA' kk'.length kc') ∧ w'.cell? ⟨b, off + j * 4 + 1, none⟩ = some (.int .i64 seq') ∧ w'.cell? ⟨b, off + j * 4 + 2, none⟩ = some (.bool del') ∧ w'.cell? ⟨b, off + j * 4 + 3, none⟩ = some (.slice vA' vv'.length vc') ∧ w'.cell? ⟨rb, 0, none⟩ = some (.slice kA kk.length kc) ∧ w'.cell? ⟨rb, 1, none⟩ = some (.int .i64 seq) ∧ w'.cell? ⟨rb, 2, none⟩ = some (.bool del) ∧ w'.cell? ⟨rb, 3, none⟩ = some (.slice vA vv.length vc) ∧ Below WA.heap.size WA w')
         (first | exact HKEEP.out _ ((Below.refl _ _).drew) | exact HKEEP.out _ B3)
         (first | (go_at_call 40; refine (KO.out _ (by go_split_ands; assumption)).mono ?_; rintro e w1 ⟨rfl, hb1⟩; have B3 := Below.trans (b := _) (by go_split_ands; assumption : Below WA.heap.size WA _) (hb1.mono (by go_split_ands; exact Below.size (by assumption)))))
       obtain ⟨X, hXw⟩ : ∃ X, X = w1 := ⟨_, rfl⟩
       rw [← hXw] at B3 ⊢
       have HBRX := hid (HBRA.out.call B3)
       have HBOXX : Hid (X.heap[rb]? = some (.cells #[.slice kA kk.length kc, .int .i64 seq, .bool del, .slice vA vv.length vc] 35)) := hid ((B3.block rb HRB.out.2.1).trans HBOXA.out)
       have HRX : Hid (w.heap.size ≤ rb ∧ rb < X.heap.size ∧ some rb ∉ a.R gw) := hid ⟨HRB.out.1, Nat.lt_of_lt_of_le HRB.out.2.1 B3.size, HRB.out.2.2⟩
       have HPROBE := hid B3
       clear B3 hk1 d0 d1 d2 d3 r0 r1 r2 r3 HBRA HBOXA HRB HWA HRBE HBR KO HJ HOI HKEEP p0 p1 p2 p3 hsum hj0 hj1 ho1
       subst hXw
     case' neg =>
       have hk0 : ¬ ((0 : Int) < (k : Int)) := by omega
       have hk1 : decide ((0 : Int) < (k : Int)) = false := decide_eq_false hk0
       have HORD : Hid (∀ i (hi : i < l.length), 0 < i → i < k + 1 → Tb.ahead (l[i - 1]'(by omega)) l[i] = true) := hid (fun i hi h1 h2 => by omega)
       go_wp2_with fail
       rw [HRBE.out, HWA.out]
       go_quiet (fail)
       refine drewN_any ?_
       intro X hbX hXh
       have HBRX := hid (HBRA.out.call hbX)
       have HBOXX : Hid (X.heap[rb]? = some (.cells #[.slice kA kk.length kc, .int .i64 seq, .bool del, .slice vA vv.length vc] 35)) := hid (by rw [hXh]; exact HBOXA.out)
       have HRX : Hid (w.heap.size ≤ rb ∧ rb < X.heap.size ∧ some rb ∉ a.R gw) := hid (by rw [hXh]; exact HRB.out)
       clear hbX hXh hk1 d0 d1 d2 d3 r0 r1 r2 r3 HBRA HBOXA HRB HWA HRBE HBR
     all_goals
       obtain ⟨_, _, _, z3, _, _⟩ := HBRX.out.ws.cells
       have HBND := hid (Tb.run_bnd size l HR.out hl2 k (by omega))
       have hst := HBRX.out.st
       have bn0 : 0 ≤ s.n := by have := HBND.out.n0; rw [← hst] at this; exact this
       have bn1 : s.n ≤ 20000 * (k : Int) := by have := HBND.out.n1; rw [← hst] at this; exact this
       have bo : s.out.length ≤ 100000 * k := by have := HBND.out.out; rw [← hst] at this; exact this
       have bi : s.index.length ≤ k := by have := HBND.out.il; rw [← hst] at this; simpa [Wr.st] using this
       have bp : s.opn.length ≤ k := by have := HBND.out.ol; rw [← hst] at this; simpa [Wr.st] using this
       have bob : ∀ p ∈ s.opn, p.k.length ≤ 100000 ∧ p.v.length ≤ 100000 := fun p hp => by
         have := HBND.out.ob; rw [← hst] at this
         have := this p.pr (List.mem_map.2 ⟨p, hp, rfl⟩)
         exact ⟨Nat.le_trans this.1 (by omega), Nat.le_trans this.2 (by omega)⟩
       have KCL := hid (close_any w w.heap.size gw s a X HBRX.out.ws (by omega) (by omega) bob (by omega))
       have HBN := hid (And.intro bn0 bn1)
       clear hst bob bn0 bn1 bo bi bp
       by_cases hsz : size ≤ s.n
       case' pos =>
         go_wp2_with fail
         refine KCL.out.mono ?_
         rintro e Y ⟨rfl, s2, a2, hws, hmv, hs2, hwb⟩
         have HWS := hid hws
         have HST2 : Hid (s2.st = Tb.mid size (Tb.run size (l.take k))) := hid (by rw [← HBRX.out.st]; unfold Tb.mid; rw [if_pos (by exact hsz)]; exact hs2)
         have HKP : Hid (∀ g, WB s2 g → blk KA ≠ some g) := hid (fun g hg e => by
           rcases hwb g hg with h1 | h1
           · exact HBRX.out.kp g h1 e
           · have := (HBRX.out.keys.blk_ge g e).2; omega)
         have HKEYS : Hid (OwnS Bs.cells 1 Y w.heap.size 22 KA KC ((l.take k).map Rv.bs)) := hid (HBRX.out.keys.keep (fun g hg => hmv.block g (HBRX.out.keys.blk_ge g hg).2 (HBRX.out.off g hg)))
         have HOFF : Hid (Off (a2.R gw) (blk KA)) := hid (fun g hg hm => by
           rcases hmv.rows g hm with h1 | h1
           · exact HBRX.out.off g hg h1
           · have := (HBRX.out.keys.blk_ge g hg).2; omega)
         have HBOX : Hid (Y.heap[rb]? = some (.cells #[.slice kA kk.length kc, .int .i64 seq, .bool del, .slice vA vv.length vc] 35)) := hid ((hmv.block rb HRX.out.2.1 HRX.out.2.2).trans HBOXX.out)
         have HRY : Hid (w.heap.size ≤ rb ∧ rb < Y.heap.size ∧ some rb ∉ a2.R gw) := hid ⟨HRX.out.1, Nat.lt_of_lt_of_le HRX.out.2.1 hmv.size, fun hm => by
           rcases hmv.rows rb hm with h1 | h1
           · exact HRX.out.2.2 h1
           · have := HRX.out.2.1; omega⟩
         clear hws hmv hs2 hwb z3 KCL HBRX HBOXX HRX
       case' neg =>
         obtain ⟨Y, hY⟩ : ∃ Y, Y = X := ⟨_, rfl⟩
         obtain ⟨s2, hs2⟩ : ∃ s2, s2 = s := ⟨_, rfl⟩
         obtain ⟨a2, ha2⟩ : ∃ a2, a2 = a := ⟨_, rfl⟩
         have HWS : Hid (WS w w.heap.size gw s2 a2 Y) := hid (by rw [hY, hs2, ha2]; exact HBRX.out.ws)
         have HST2 : Hid (s2.st = Tb.mid size (Tb.run size (l.take k))) := hid (by rw [← HBRX.out.st]; unfold Tb.mid; rw [if_neg (by exact hsz), hs2])
         have HKP : Hid (∀ g, WB s2 g → blk KA ≠ some g) := hid (by rw [hs2]; exact HBRX.out.kp)
         have HKEYS : Hid (OwnS Bs.cells 1 Y w.heap.size 22 KA KC ((l.take k).map Rv.bs)) := hid (by rw [hY]; exact HBRX.out.keys)
         have HOFF : Hid (Off (a2.R gw) (blk KA)) := hid (by rw [ha2]; exact HBRX.out.off)
         have HBOX : Hid (Y.heap[rb]? = some (.cells #[.slice kA kk.length kc, .int .i64 seq, .bool del, .slice vA vv.length vc] 35)) := hid (by rw [hY]; exact HBOXX.out)
         have HRY : Hid (w.heap.size ≤ rb ∧ rb < Y.heap.size ∧ some rb ∉ a2.R gw) := hid (by rw [hY, ha2]; exact HRX.out)
         clear KCL HBRX HBOXX HRX ha2
         have HS2E := hid hs2
         clear hs2
         subst hY
     all_goals
       have d0 := cell_of_row Y rb 0 _ _ (0, 0) HBOX.out
       have d1 := cell_of_row Y rb 1 _ _ (0, 0) HBOX.out
       have d2 := cell_of_row Y rb 2 _ _ (0, 0) HBOX.out
       have d3 := cell_of_row Y rb 3 _ _ (0, 0) HBOX.out
       simp at d0 d1 d2 d3
       have hrt := (Tb.right_iff _).1 HRT.out
       simp only at hrt
       have KIN := hid (inner_any ⟨kA, kc, kk, seq, del, vA, vc, vv⟩ Y (((HH.out.ok _ HMEM.out).below HWS.out.below (Nat.le_refl _)).more HWS.out.size) (by show kk.length ≤ 100000; omega) (by show vv.length ≤ 100000; omega) hrt.2.2.1 hrt.2.2.2.1)
       unfold Rv.val at KIN
       simp only at KIN
       have HIB := hid (Tb.inner_bd HRT.out)
       clear hrt
       go_wp2_with fail
       refine KIN.out.mono ?_
       rintro e w4 ⟨A1, c1, A2, c2, rfl, ho1, ho2, hb4⟩
       obtain ⟨PR, hPR⟩ : ∃ PR, PR = Tb.inner ⟨kA, kc, kk, seq, del, vA, vc, vv⟩ := ⟨_, rfl⟩
       rw [← hPR] at ho1 ho2 HIB ⊢
       obtain ⟨PK, PV⟩ := PR
       simp only at ho1 ho2 HIB ⊢
       have HPR := hid hPR
       have hbz4 := hb4.size
       have hbZ : Below Y.heap.size Y (w4.alloc (.cells #[.slice A1 PK.length c1, .slice A2 PV.length c2] 77)) := hb4.alloc hbz4 _
       have HWSZ := hid (HWS.out.call hbZ)
       have HKZ := hid (HKEYS.out.below hbZ)
       have HBOXZ := hid ((hbZ.block rb HRY.out.2.1).trans HBOX.out)
       have HPVZ : Hid (PvO (w4.alloc (.cells #[.slice A1 PK.length c1, .slice A2 PV.length c2] 77)) w.heap.size (a2.R gw) ⟨A1, c1, PK, A2, c2, PV⟩) := hid ⟨(ho1.alloc _).mono HWS.out.size, (ho2.alloc _).mono HWS.out.size, Off.fresh (n := Y.heap.size) (fun g hg => (ho1.blk_ge g hg).1) HWS.out.lts, Off.fresh (n := Y.heap.size) (fun g hg => (ho2.blk_ge g hg).1) HWS.out.lts⟩
       have HGPZ : Hid ((w4.alloc (.cells #[.slice A1 PK.length c1, .slice A2 PV.length c2] 77)).heap[w4.heap.size]? = some (.cells #[.slice A1 PK.length c1, .slice A2 PV.length c2] 77)) := hid (heap_alloc_new w4 _)
       obtain ⟨gp, hgp⟩ : ∃ gp, w4.heap.size = gp := ⟨_, rfl⟩
       obtain ⟨Z, hZ⟩ : ∃ Z, w4.alloc (.cells #[.slice A1 PK.length c1, .slice A2 PV.length c2] 77) = Z := ⟨_, rfl⟩
       have HGR : Hid (some gp ∉ a2.R gw ∧ gp ≠ rb ∧ Y.heap.size ≤ gp ∧ gp < Z.heap.size) := hid ⟨fun hm => by have := HWS.out.lts gp hm; omega, by have := HRY.out.2.1; omega, by omega, by rw [← hZ, ← hgp]; simp⟩
       rw [hZ] at HWSZ HKZ HBOXZ HPVZ HGPZ
       rw [hgp] at HGPZ
       have HZE := hid hZ; have HGE := hid hgp
       have hYZ : Y.heap.size ≤ Z.heap.size := by rw [← hZ]; exact hbZ.size
       have HNE : Hid (∀ g, blk KA = some g → blk A1 ≠ some g ∧ blk A2 ≠ some g) := hid (fun g hg => ⟨fun e => by have h1 := (ho1.blk_ge g e).1; have h2 := (HKEYS.out.blk_ge g hg).2; omega, fun e => by have h1 := (ho2.blk_ge g e).1; have h2 := (HKEYS.out.blk_ge g hg).2; omega⟩)
       have HYZ := hid hYZ
       clear ho1 ho2 hb4 hbz4 hbZ hPR hgp hZ hYZ KIN HWS HKEYS HBOX d0 d1 d2 d3
       go_wp2_with fail
       rw [HGE.out, HZE.out]
       obtain ⟨V, hV⟩ : ∃ V, Z.drew = V := ⟨_, rfl⟩
       have hbV : Below Z.heap.size Z V := by rw [← hV]; exact (Below.refl _ _).drew
       have HWSV := hid (HWSZ.out.call hbV)
       have HKV := hid (HKZ.out.below hbV)
       have hzV : Z.heap.size ≤ V.heap.size := hbV.size
       have HBOXV := hid ((hbV.block rb (Nat.lt_of_lt_of_le HRY.out.2.1 HYZ.out)).trans HBOXZ.out)
       have HGPV := hid ((hbV.block gp HGR.out.2.2.2).trans HGPZ.out)
       have HPVV := hid (HPVZ.out.kept (grown_of_below hbV) (.inl rfl))
       have HS0 : V.cell? ⟨gw, 2, none⟩ = some (.slice a2.pA s2.opn.length a2.pc) ∧ V.cell? ⟨gp, 0, none⟩ = some (.slice A1 PK.length c1) ∧ V.cell? ⟨gp, 1, none⟩ = some (.slice A2 PV.length c2) := by
         refine ⟨HWSV.out.cells.2.2.1, ?_, ?_⟩
         · rw [cell_of_row V gp 0 _ _ (0, 0) HGPV.out]; rfl
         · rw [cell_of_row V gp 1 _ _ (0, 0) HGPV.out]; rfl
       have hgwV := HWSV.out.lt
       have hgpV : gp < V.heap.size := Nat.lt_of_lt_of_le HGR.out.2.2.2 hzV
       have HSB : Hid (∀ Y', Below V.heap.size V Y' → Y'.cell? ⟨gw, 2, none⟩ = some (.slice a2.pA s2.opn.length a2.pc) ∧ Y'.cell? ⟨gp, 0, none⟩ = some (.slice A1 PK.length c1) ∧ Y'.cell? ⟨gp, 1, none⟩ = some (.slice A2 PV.length c2)) := hid (fun Y' hb => ⟨(hb.cell (p := ⟨gw, 2, none⟩) hgwV).trans HS0.1, (hb.cell (p := ⟨gp, 0, none⟩) hgpV).trans HS0.2.1, (hb.cell (p := ⟨gp, 1, none⟩) hgpV).trans HS0.2.2⟩)
       refine wp_region_E 10 (fun w' => w'.cell? ⟨gw, 2, none⟩ = some (.slice a2.pA s2.opn.length a2.pc) ∧ w'.cell? ⟨gp, 0, none⟩ = some (.slice A1 PK.length c1) ∧ w'.cell? ⟨gp, 1, none⟩ = some (.slice A2 PV.length c2)) (by kernel_rfl) ?_
       rw [hV]
       clear hV hbV hzV HWSZ HKZ HBOXZ HGPZ HPVZ HZE HGE
       refine wpAnyE_take (i := 0) (v := ?_) rfl (by kernel_rfl) (by kernel_rfl) (by kernel_rfl) (by kernel_rfl) (fun _ _ _ h => h) (Or.inl ⟨by rfl, ?_⟩) HS0 ?_
       rotate_left
       · (intro wy hSw; obtain ⟨s1, s2x, s3⟩ := hSw; go_simp; try with_reducible rfl)
       try simp only [Act.put, List.setIfInBounds_toArray]
       refine wpAnyE_take (i := 1) (v := ?_) rfl (by kernel_rfl) (by kernel_rfl) (by kernel_rfl) (by kernel_rfl) (fun _ _ _ h => h) (Or.inl ⟨by rfl, ?_⟩) HS0 ?_
       rotate_left
       · (intro wy hSw; obtain ⟨s1, s2x, s3⟩ := hSw; go_simp; try with_reducible rfl)
       try simp only [Act.put]
       refine wpAnyE_take (i := 2) (v := ?_) rfl (by kernel_rfl) (by kernel_rfl) (by kernel_rfl) (by kernel_rfl) (fun _ _ _ h => h) (Or.inl ⟨by rfl, ?_⟩) HS0 ?_
       rotate_left
       · (intro wy hSw; obtain ⟨s1, s2x, s3⟩ := hSw; go_simp; try with_reducible rfl)
       try simp only [Act.put]
       refine wpAnyE_take (i := 3) (v := ?_) rfl (by kernel_rfl) (by kernel_rfl) (by kernel_rfl) (by kernel_rfl) (fun _ _ _ h => h) (Or.inl ⟨by rfl, ?_⟩) HS0 ?_
       rotate_left
       · (intro wy hSw; obtain ⟨s1, s2x, s3⟩ := hSw; go_simp; try with_reducible rfl)
       try simp only [Act.put]
       refine wpAnyE_take (i := 4) (v := ?_) rfl (by kernel_rfl) (by kernel_rfl) (by kernel_rfl) (by kernel_rfl) (fun _ _ _ h => h) (Or.inl ⟨by rfl, ?_⟩) HS0 ?_
       rotate_left
       · (intro wy hSw; obtain ⟨s1, s2x, s3⟩ := hSw; go_simp; try with_reducible rfl)
       try simp only [Act.put]
       refine wpAnyE_take (i := 5) (v := ?_) rfl (by kernel_rfl) (by kernel_rfl) (by kernel_rfl) (by kernel_rfl) (fun _ _ _ h => h) (Or.inl ⟨by rfl, ?_⟩) HS0 ?_
       rotate_left
       · (intro wy hSw; obtain ⟨s1, s2x, s3⟩ := hSw; go_simp; try with_reducible rfl)
       try simp only [Act.put]
       refine wpAnyE_one (i := 6) (by kernel_rfl) rfl (fun K hK => ?_)
       go_simp
       have hb6 := (Below.refl V.heap.size V).alloc (Nat.le_refl _) (.cells #[.slice A1 PK.length c1, .slice A2 PV.length c2] 77)
       refine hK _ _ (HSB.out _ hb6) ?_
       try simp only [Act.put]
       have H6 := hid (HWSV.out.call hb6)
       have HP6 := hid (HPVV.out.kept (grown_of_below hb6) (.inl rfl))
       have HK6 := hid (HKV.out.below hb6)
       have HX6 := hid ((hb6.block rb (by have := HRY.out.2.1; have := HYZ.out; have := HGR.out.2.2.1; omega)).trans HBOXV.out)
       have HG6' := hid ((hb6.block gp hgpV).trans HGPV.out)
       have hmb := Tb.mid_bnd HBND.out (by omega) size
       rw [← HST2.out] at hmb
       have hlenO : s2.opn.length ≤ 20000 := by have := hmb.2.2.1; simp [Wr.st] at this; omega
       have HMN : Hid (0 ≤ s2.n ∧ s2.n ≤ 20000 * (k : Int)) := hid ⟨hmb.2.2.2.1, hmb.2.2.2.2⟩
       clear hmb
       refine wpAnyE_one (i := 7) (by kernel_rfl) rfl (fun K hK => ?_)
       refine step_append_sd _ (by rfl) (some 95) (by rfl) (.tmp 92) (.tmp 94) pairT (by rfl) w.heap.size a2.pA a2.pc s2.opn rfl H6.out.opn (V.heap.size + 1) (some ⟨V.heap.size, 0, none⟩) 1 1 [⟨A1, c1, PK, A2, c2, PV⟩] rfl rfl (rd_pair_new V ⟨A1, c1, PK, A2, c2, PV⟩) (by simp; omega) (by unfold maxLen; simp; omega) H6.out.size ?_
       intro A6 c6 LL w6 hL ho6 hg6 hat6
       have HLL : Hid (LL = s2.opn ++ [⟨A1, c1, PK, A2, c2, PV⟩]) := hid hL
       have hne1 : some gw ≠ blk a2.pA := fun e => by
         rcases H6.out.d3.ne (r := some gw) (by simp) with h1 | h1
         · exact absurd (e.trans h1) (by simp)
         · exact h1 e.symm
       have hne2 : some gp ≠ blk a2.pA := fun e => HGR.out.1 (by rw [e]; simp [WrA.R])
       have hne3 : some rb ≠ blk a2.pA := fun e => HRY.out.2.2 (by rw [e]; simp [WrA.R])
       have hgw7 := H6.out.lt
       have hgp7 := (Array.getElem?_eq_some_iff.1 HG6'.out).1
       have hrb7 := (Array.getElem?_eq_some_iff.1 HX6.out).1
       have HBX6 := hid ((hg6.block gw hgw7 hne1).trans H6.out.box)
       have HGP6 := hid ((hg6.block gp hgp7 hne2).trans HG6'.out)
       have HRB6 := hid ((hg6.block rb hrb7 hne3).trans HX6.out)
       have HKK6 := hid (HK6.out.kept hg6 (HOFF.out.ne (by simp [WrA.R])))
       have hS6 : w6.cell? ⟨gw, 2, none⟩ = some (.slice a2.pA s2.opn.length a2.pc) ∧ w6.cell? ⟨gp, 0, none⟩ = some (.slice A1 PK.length c1) ∧ w6.cell? ⟨gp, 1, none⟩ = some (.slice A2 PV.length c2) := by
         refine ⟨?_, ?_, ?_⟩
         · rw [cell_of_row w6 gw 2 _ _ (0, 0) HBX6.out]; rfl
         · rw [cell_of_row w6 gp 0 _ _ (0, 0) HGP6.out]; rfl
         · rw [cell_of_row w6 gp 1 _ _ (0, 0) HGP6.out]; rfl
       have fz6 : w6.frozen? ⟨gw, 2, none⟩ = false := frozen_of_row w6 gw 2 _ _ HBX6.out
       have HO6 := hid ho6; have HG6 := hid hg6; have HT6 := hid hat6
       refine hK _ _ hS6 ?_
       try simp only [Act.put]
       refine wpAnyE_one (i := 8) (by kernel_rfl) rfl (fun K hK => ?_)
       go_simp
       refine hK _ _ hS6 ?_
       try simp only [Act.put]
       refine wpAnyE_one (i := 9) (by kernel_rfl) rfl (fun K hK => ?_)
       go_simp
       refine hK _ _ hS6 ?_
       try simp only [Act.put]
       obtain ⟨g1, g2, g3⟩ := hS6
       refine wpAnyE_last (by kernel_rfl) (by kernel_rfl) rfl (fun K hK => ?_)
       go_simp
       refine hK _ _ ?_
       have hw7 : WS w w.heap.size gw ⟨s2.out, s2.index, LL, s2.n, s2.bad⟩ { a2 with pA := A6, pc := c6 } (w6.setCell ⟨gw, 2, none⟩ (.slice A6 LL.length c6)) := by
         have hLL := HLL.out
         have ho := HO6.out
         subst hLL
         exact H6.out.app_opn HP6.out ho HG6.out HT6.out (heap_set2_ HBX6.out)
       have hgs := grownBy_set w6 ⟨gw, 2, none⟩ (.slice A6 LL.length c6)
       have hk7 := HKK6.out.kept hgs (HOFF.out.ne (by simp [WrA.R]))
       have hoff7 : Off (({ a2 with pA := A6, pc := c6 } : WrA).R gw) (blk KA) := HOFF.out.new (fun g hg => (HK6.out.blk_ge g hg).2) (fun r hr => by
         simp only [WrA.R, List.mem_cons, List.not_mem_nil, or_false] at hr ⊢
         rcases hr with h1 | h1 | h1 | h1
         · exact .inl (.inl h1)
         · exact .inl (.inr (.inl h1))
         · exact .inl (.inr (.inr (.inl h1)))
         · rcases HT6.out with h2 | h2
           · exact .inl (.inr (.inr (.inr (h1.trans h2))))
           · exact .inr (h1.trans h2))
       have hgp8 : (w6.setCell ⟨gw, 2, none⟩ (.slice A6 LL.length c6)).heap[gp]? = some (.cells #[.slice A1 PK.length c1, .slice A2 PV.length c2] 77) := (Below.heap_setCell _ _ _ _ (fun e => HGR.out.1 (by rw [e]; simp [WrA.R]))).trans HGP6.out
       have hrb8 : (w6.setCell ⟨gw, 2, none⟩ (.slice A6 LL.length c6)).heap[rb]? = some (.cells #[.slice kA kk.length kc, .int .i64 seq, .bool del, .slice vA vv.length vc] 35) := (Below.heap_setCell _ _ _ _ (fun e => HRY.out.2.2 (by rw [e]; simp [WrA.R]))).trans HRB6.out
       have hLn : LL.length = s2.opn.length + 1 := by rw [HLL.out]; simp
       rw [hLn] at hw7 hk7 hgp8 hrb8
       obtain ⟨W7, hW7⟩ : ∃ W7, w6.setCell ⟨gw, 2, none⟩ (.slice A6 (s2.opn.length + 1) c6) = W7 := ⟨_, rfl⟩
       rw [hW7] at hw7 hk7 hgp8 hrb8 ⊢
       have HW7 := hid hw7; have HK7 := hid hk7; have HOFF7 := hid hoff7; have HGP7 := hid hgp8; have HRB7 := hid hrb8
       clear hw7 hk7 hoff7 hgp8 hrb8 hgs hW7 g1 g2 g3 fz6 hne1 hne2 hne3 hgw7 hgp7 hrb7 HO6 HG6 HT6 HBX6 HGP6 HRB6 HKK6 hL ho6 hg6 hat6 H6 HP6 HK6 HX6 HG6' HS0 HSB HWSV HKV HBOXV HGPV HPVV hb6 hgwV hgpV hLn hlenO
       obtain ⟨_, _, _, e3, _, ef⟩ := HW7.out.cells
       have ef3 := ef 3
       have e4 : W7.cell? ⟨gp, 0, none⟩ = some (.slice A1 PK.length c1) := by rw [cell_of_row W7 gp 0 _ _ (0, 0) HGP7.out]; rfl
       have e5 : W7.cell? ⟨gp, 1, none⟩ = some (.slice A2 PV.length c2) := by rw [cell_of_row W7 gp 1 _ _ (0, 0) HGP7.out]; rfl
       have e6 : W7.cell? ⟨rb, 0, none⟩ = some (.slice kA kk.length kc) := by rw [cell_of_row W7 rb 0 _ _ (0, 0) HRB7.out]; rfl
       have e7 : W7.cell? ⟨rb, 1, none⟩ = some (.int .i64 seq) := by rw [cell_of_row W7 rb 1 _ _ (0, 0) HRB7.out]; rfl
       obtain ⟨n2, hn2⟩ : ∃ n2, s2.n = n2 := ⟨_, rfl⟩
       have hn20 : 0 ≤ n2 := by rw [← hn2]; exact HMN.out.1
       have hn21 : n2 ≤ 400000000 := by rw [← hn2]; have := HMN.out.2; omega
       have hpk := HIB.out.1
       have hpv := HIB.out.2
       simp only [hn2] at e3
       have HN2 := hid hn2
       clear hn2 ef
       go_wp2_with fail
       go_region
       obtain ⟨W8, hW8⟩ : ∃ W8, (W7.setCell ⟨gw, 3, none⟩ (.int .i64 (n2 + ((PK.length : Int) + (PV.length : Int))))).drew = W8 := ⟨_, rfl⟩
       have hw8 : WS w w.heap.size gw ⟨s2.out, s2.index, LL, n2 + ((PK.length : Int) + (PV.length : Int)), s2.bad⟩ { a2 with pA := A6, pc := c6 } W8 := by rw [← hW8]; exact (HW7.out.setN _).call ((Below.refl _ _).drew)
       have hk8 : OwnS Bs.cells 1 W8 w.heap.size 22 KA KC ((l.take k).map Rv.bs) := by
         rw [← hW8]
         exact (HK7.out.kept (grownBy_set W7 ⟨gw, 3, none⟩ _) (HOFF7.out.ne (by simp [WrA.R]))).below ((Below.refl _ _).drew)
       have hr8 : W8.heap[rb]? = some (.cells #[.slice kA kk.length kc, .int .i64 seq, .bool del, .slice vA vv.length vc] 35) := by
         rw [← hW8]
         exact (Below.heap_setCell _ _ _ _ (fun e => HRY.out.2.2 (by rw [e]; simp [WrA.R]))).trans HRB7.out
       obtain ⟨sE, hsE⟩ : ∃ sE : Wr, sE = ⟨s2.out, s2.index, LL, n2 + ((PK.length : Int) + (PV.length : Int)), s2.bad⟩ := ⟨_, rfl⟩
       obtain ⟨aE, haE⟩ : ∃ aE : WrA, aE = { a2 with pA := A6, pc := c6 } := ⟨_, rfl⟩
       have hst8 : sE.st = Tb.run size (l.take (k + 1)) := by
         rw [Tb.run_succ size l k hlt, Tb.add_mid, ← HST2.out, ← HRV.out, ← HPR.out, hsE, HLL.out, ← HN2.out]
         simp [Wr.st, Tb.plen, Pv.pr]
       have hkp8 : ∀ g, WB sE g → blk KA ≠ some g := by
         rintro g ⟨q, hq, hb⟩ e
         rw [hsE, HLL.out] at hq
         simp only [List.mem_append, List.mem_singleton] at hq
         rcases hq with h1 | h1 | h1
         · exact HKP.out g ⟨q, .inl h1, hb⟩ e
         · exact HKP.out g ⟨q, .inr h1, hb⟩ e
         · subst h1
           rcases hb with h2 | h2
           · exact (HNE.out g e).1 h2
           · exact (HNE.out g e).2 h2
       rw [← hsE, ← haE] at hw8
       have hoff8 : Off (aE.R gw) (blk KA) := by rw [haE]; exact HOFF7.out
       have HW8 := hid hw8; have HK8 := hid hk8; have HR8 := hid hr8; have HOFF8 := hid hoff8; have HKP8 := hid hkp8; have HST8 := hid hst8
       have f6 : W8.cell? ⟨rb, 0, none⟩ = some (.slice kA kk.length kc) := by rw [cell_of_row W8 rb 0 _ _ (0, 0) hr8]; rfl
       rw [hW8]
       clear hw8 hk8 hr8 hoff8 hkp8 hst8 hsE haE hW8 e3 e4 e5 e6 e7 ef3 hn20 hn21 hpk hpv HN2 HW7 HK7 HOFF7 HGP7 HRB7 HLL HNE HKP HST2 HPR HOFF HRY
       have HQL : Hid (((l.take k).map Rv.bs).length = k) := hid (by simp; omega)
       obtain ⟨Q, hQ⟩ : ∃ Q, Q = (l.take k).map Rv.bs := ⟨_, rfl⟩
       rw [← hQ] at HQL HK8
       have HQE := hid hQ
       clear hQ
       have HKL : Hid (kk.length ≤ 100000) := hid (by have h9 := (Tb.right_iff _).1 HRT.out; simp only at h9; omega)
       go_wp2_with (at_builtin; refine wpList_append_s _ rfl _ _ bsT rfl w.heap.size KA KC Q (by show Value.slice KA k KC = Value.slice KA Q.length KC; rw [HQL.out]) (HK8.out.alloc _) (W8.heap.size + 1) (some ⟨W8.heap.size, 0, none⟩) 1 1 [⟨kA, kc, kk⟩] rfl rfl (rd_bs_new W8 ⟨kA, kc, kk⟩) (by rw [HQL.out]; simp; omega) (by rw [HQL.out]; unfold maxLen; simp; omega) (by have := HW8.out.size; simp; omega) ?_)
       intro KA' KC' LK w9 hLK hoK hgK hatK
       obtain ⟨hw9, hoff9, hkp9⟩ := key_step HW8.out HK8.out HOFF8.out HKP8.out hgK hatK
       have hLKn : LK.length = k + 1 := by rw [hLK, List.length_append, HQL.out]; rfl
       have hrk8 : rb < (W8.alloc (.cells #[.slice kA kk.length kc] 22)).heap.size := by
         have h1 := (Array.getElem?_eq_some_iff.1 HR8.out).1
         simp; omega
       have hr9 : w9.heap[rb]? = some (.cells #[.slice kA kk.length kc, .int .i64 seq, .bool del, .slice vA vv.length vc] 35) :=
         (hgK.block rb hrk8 HNRB.out).trans ((((Below.refl W8.heap.size W8).alloc (Nat.le_refl _) _).block rb (Array.getElem?_eq_some_iff.1 HR8.out).1).trans HR8.out)
       have f7 : w9.cell? ⟨rb, 1, none⟩ = some (.int .i64 seq) := by rw [cell_of_row w9 rb 1 _ _ (0, 0) hr9]; rfl
       have hLK2 : LK = (l.take (k + 1)).map Rv.bs := by
         rw [hLK, HQE.out, List.take_succ_eq_append_getElem hlt, ← HRV.out]
         simp [Rv.bs]
       rw [hLK2] at hoK
       have HBRN := hid (BR.mk (l := l) (size := size) (k := k + 1) hw9 HST8.out hoK hoff9 hkp9 HORD.out)
       clear hw9 hoff9 hkp9 hr9 hrk8 hLK hLK2 hoK hgK hatK f6 HW8 HK8 HR8 HOFF8 HKP8 HST8 HQL HQE HORD
       have hLOW := Tb.lowK_succ l k hlt
       have hHIG := Tb.highK_succ l k hlt
       rw [← HRV.out, ← HLH.out.1] at hLOW
       rw [← HRV.out, ← HLH.out.2] at hHIG
       have HLH2 : Hid (min L seq = Tb.lowK l (k + 1) ∧ max H seq = Tb.highK l (k + 1)) := hid ⟨hLOW.symm, hHIG.symm⟩
       clear hLOW hHIG
       go_wp2_with fail
       go_region
       rw [hLKn]
       go_wp2_with fail
       go_roundw
       case rel => exact ⟨k + 1, _, _, KA', KC', _, _, by omega, by go_num, rfl, rfl, rfl, HLH2, hid (HBRN.out.call ((Below.refl _ _).drew))⟩
       case measure => simp [intOf]; omega
   · obtain rfl : k = l.length := by omega
     have hb0 := HBR.out
     have hst := hb0.st
     rw [List.take_length] at hst
     have hbnd := Tb.run_bnd size l HR.out hl2 l.length (Nat.le_refl _)
     rw [List.take_length] at hbnd
     have hcl := Tb.bnd_close hbnd (by omega)
     have hbl := hbnd.out
     have hil := hbnd.il
     have hol := hbnd.ol
     have hob := hbnd.ob
     rw [← hst] at hbl hil hol hob hcl
     have hsorted : Tb.sorted l = true := Tb.sorted_yes (fun i hi h0 => hb0.ord i hi h0 hi)
     have KCL := hid (close_any w w.heap.size gw s a wr hb0.ws (by simp [Wr.st] at hol; omega) (by simp [Wr.st] at hil; omega) (fun p hp => by
       have := hob p.pr (List.mem_map.2 ⟨p, hp, rfl⟩)
       exact ⟨Nat.le_trans this.1 (by omega), Nat.le_trans this.2 (by omega)⟩) (by simp [Wr.st] at hbl; omega))
     have HCB : Hid ((Tb.close s.st).out.length ≤ 100000000000 ∧ (Tb.close s.st).index.length ≤ 100000 ∧ (∀ p ∈ (Tb.close s.st).index, p.k.length ≤ 10000 ∧ p.v.length ≤ 10000)) := hid ⟨by omega, by omega, hcl.2.2.2.2⟩
     have HSO := hid hsorted
     have HST := hid hst
     have HKEYS := hid hb0.keys
     have HOFF := hid hb0.off
     have HWS0 := hid hb0.ws
     have HZB : Hid (64 ≤ size ∧ size ≤ 32768 ∧ 1 ≤ bits ∧ bits ≤ 32) := hid (by omega)
     clear hb0 hst hbnd hcl hbl hil hol hob hsorted HBR
     go_wp2_with fail
     refine KCL.out.mono ?_
     rintro e w2 ⟨rfl, s1, a1, hws1, hmv1, hs1, _⟩
     have HW1 := hid hws1
     have HS1 : Hid (s1.st = Tb.close (Tb.run size l)) := hid (hs1.trans (by rw [HST.out]))
     have hk1 : OwnS Bs.cells 1 w2 w.heap.size 22 KA KC ((l.take l.length).map Rv.bs) := HKEYS.out.keep (fun g hg => hmv1.block g (HKEYS.out.blk_ge g hg).2 (HOFF.out g hg))
     rw [List.take_length] at hk1
     have HRK : Hid (RdBs w2 w2.heap.size KA (l.map Rv.bs)) := hid ⟨hk1.rd, fun p hp => by
       obtain ⟨r, hr, rfl⟩ := List.mem_map.1 hp
       exact ((HH.out.ok r hr).key.below hws1.below (Nat.le_refl _)).more hws1.size⟩
     obtain ⟨B, hB⟩ : ∃ B, B = Blm.build bits.toNat (l.map Rv.k) := ⟨_, rfl⟩
     have hzE : ((bits.toNat : Nat) : Int) = bits := by have := HZB.out; omega
     have KBL := bbuild_any bits.toNat (by have := HZB.out; omega) (by have := HZB.out; omega) KA KC (l.map Rv.bs) w2 HRK.out (by simp; omega) (fun p hp => by
       obtain ⟨r, hr, rfl⟩ := List.mem_map.1 hp
       have := (Tb.right_iff _).1 (HR.out r hr)
       exact ⟨by show 0 < r.k.length; omega, by show r.k.length ≤ 100000; omega⟩)
     rw [hzE, List.length_map, List.map_map, show (Bs.l ∘ Rv.bs) = Rv.k from rfl, ← hB] at KBL
     have hBl : B.length ≤ 1000000 := by
       rw [hB, ← Blm.upto_all, Blm.upto_len]
       have h1 := HZB.out
       unfold Blm.size
       have : bits.toNat * (l.map Rv.k).length ≤ 32 * 20000 := Nat.mul_le_mul (by omega) (by simp; omega)
       omega
     have HKBL := hid KBL
     have HBE := hid hB
     have HBL := hid hBl
     have HMB1 : Hid (s1.out.length ≤ 100000000000 ∧ s1.index.length ≤ 100000 ∧ (∀ p ∈ s1.index, p.k.length ≤ 100000 ∧ p.v.length ≤ 100000)) := hid (by
       have h1 := HCB.out
       rw [← hs1] at h1
       refine ⟨h1.1, by simpa [Wr.st] using h1.2.1, fun p hp => ?_⟩
       have h3 := h1.2.2 p.pr (List.mem_map.2 ⟨p, hp, rfl⟩)
       exact ⟨Nat.le_trans h3.1 (by omega), Nat.le_trans h3.2 (by omega)⟩)
     clear hws1 hmv1 hs1 hk1 hB KBL hBl KCL HKEYS HOFF HST HCB HWS0 hzE
     go_wp2_with fail
     refine HKBL.out.mono ?_
     rintro e w3 ⟨hb3, ⟨hbad, _⟩ | ⟨_, FA, fc, rfl, hoB⟩⟩
     · exact absurd rfl hbad
     have HB3 := hid hb3
     have HOB3 := hid hoB
     have HW3 := hid (HW1.out.call hb3)
     obtain ⟨XX, hXX⟩ : ∃ XX, XX = Tb.blkB 16 (s1.index.map Pv.pr) := ⟨_, rfl⟩
     have hXl : XX.length ≤ 70368744177664 := by
       rw [hXX]
       have hm := HMB1.out
       refine Nat.le_trans (blkB_len 16 _ (fun p hp => ?_)) (by simp; omega)
       obtain ⟨q, hq, rfl⟩ := List.mem_map.1 hp
       exact hm.2.2 q hq
     have KX := hid (blk_bytes a1.xA a1.xc s1.index w3 ⟨HW3.out.idx.rd, fun p hp => (HW3.out.prs p (.inl hp)).ok⟩ (by have := HMB1.out; omega) (fun p hp => HMB1.out.2.2 p hp))
     rw [← hXX] at KX
     obtain ⟨_, x1, _, _, _, _⟩ := HW3.out.cells
     have HXE := hid hXX
     have HXL := hid hXl
     clear hb3 hoB hXX hXl HKBL HW1 HRK
     go_wp2_with fail
     refine KX.out.mono ?_
     rintro e w4 ⟨XA, xc, xe, rfl, hoX, hb4⟩
     have HW4 := hid (HW3.out.call hb4)
     have HOB4 := hid (HOB3.out.below hb4)
     have HOX4 := hid hoX
     have HF1 := hid (wframe_any w w.heap.size gw s1 a1 70 FA fc B w4 HW4.out HOB4.out.rd (by have := HBL.out; omega) (by have := HMB1.out; omega))
     have HOFX : Hid (Off (a1.R gw) (blk XA)) := hid (Off.fresh (n := w3.heap.size) (fun g hg => (hoX.blk_ge g hg).1) HW3.out.lts)
     clear hoX hb4 x1 KX HW3 HOB3
     go_wp2_with fail
     refine HF1.out.mono ?_
     rintro e w5 ⟨a2, rfl, hw5, hm5⟩
     have HOX5 := hid (own_keep HOX4.out (fun g hg => hm5.block g (HOX4.out.blk_ge g hg).2 (HOFX.out g hg)))
     obtain ⟨s5, hs5⟩ : ∃ s5 : Wr, s5 = { s1 with out := s1.out ++ Tb.putL 70 B, bad := s1.bad || !decide (B.length ≤ 65536) } := ⟨_, rfl⟩
     rw [← hs5] at hw5
     have HW5 := hid hw5
     have HS5 := hid hs5
     have HN5 : Hid (s5.out.length ≤ 100000100000) := hid (by rw [hs5]; have := HMB1.out; have := putL_len 70 B; simp; omega)
     have HF2 := hid (wframe_any w w.heap.size gw s5 a2 73 XA xc XX w5 hw5 HOX5.out.rd HXL.out (by have := HN5.out; omega))
     clear hw5 hm5 hs5 HF1 HOX4 HOFX HOB4 HW4
     go_wp2_with fail
     refine HF2.out.mono ?_
     rintro e w6 ⟨a3, rfl, hw6, _⟩
     obtain ⟨s6, hs6⟩ : ∃ s6 : Wr, s6 = { s5 with out := s5.out ++ Tb.putL 73 XX, bad := s5.bad || !decide (XX.length ≤ 65536) } := ⟨_, rfl⟩
     rw [← hs6] at hw6
     have HW6 := hid hw6
     have HS6 := hid hs6
     have HN6 : Hid (s6.out.length ≤ 100000200000) := hid (by rw [hs6]; have := HN5.out; have := putL_len 73 XX; simp; omega)
     have hlh := Tb.lohi_bd l HR.out hp l.length (Nat.le_refl _)
     rw [Tb.lowK_all, Tb.highK_all] at hlh
     have hLH := HLH.out
     rw [Tb.lowK_all, Tb.highK_all] at hLH
     obtain ⟨NL, hNL⟩ : ∃ NL : List Nat, NL = [size.toNat, bits.toNat, l.length, (Tb.low l).toNat, (Tb.high l).toNat] := ⟨_, rfl⟩
     have v0 : ((size.toNat : Nat) : Int) = size := by have := HZB.out; omega
     have v1 : ((bits.toNat : Nat) : Int) = bits := by have := HZB.out; omega
     have v3 : (((Tb.low l).toNat : Nat) : Int) = L := by rw [hLH.1]; omega
     have v4 : (((Tb.high l).toNat : Nat) : Int) = H := by rw [hLH.2]; omega
     have KN := hid (numsT_any w6.heap.size 5 [size.toNat, bits.toNat, l.length, (Tb.low l).toNat, (Tb.high l).toNat] (by simp) (by
         intro n hn
         have := HZB.out
         simp only [List.mem_cons, List.not_mem_nil, or_false] at hn
         rcases hn with h | h | h | h | h <;> omega)
       (w6.alloc (.cells #[.int .i64 size, .int .i64 bits, .int .i64 (l.length : Int), .int .i64 L, .int .i64 H] 3)) (fun k hk => by
         match k, hk with
         | 0, _ => rw [cell_of_row _ w6.heap.size 0 _ _ (0, 0) (heap_alloc_new w6 _)]; show _ = some (Value.int .i64 ((size.toNat : Nat) : Int)); rw [v0]; rfl
         | 1, _ => rw [cell_of_row _ w6.heap.size 1 _ _ (0, 0) (heap_alloc_new w6 _)]; show _ = some (Value.int .i64 ((bits.toNat : Nat) : Int)); rw [v1]; rfl
         | 2, _ => rw [cell_of_row _ w6.heap.size 2 _ _ (0, 0) (heap_alloc_new w6 _)]; rfl
         | 3, _ => rw [cell_of_row _ w6.heap.size 3 _ _ (0, 0) (heap_alloc_new w6 _)]; show _ = some (Value.int .i64 (((Tb.low l).toNat : Nat) : Int)); rw [v3]; rfl
         | 4, _ => rw [cell_of_row _ w6.heap.size 4 _ _ (0, 0) (heap_alloc_new w6 _)]; show _ = some (Value.int .i64 (((Tb.high l).toNat : Nat) : Int)); rw [v4]; rfl) (by simp))
     obtain ⟨N, hN⟩ : ∃ N, N = Tb.nums [size.toNat, bits.toNat, l.length, (Tb.low l).toNat, (Tb.high l).toNat] := ⟨_, rfl⟩
     rw [← hN] at KN
     have hNl : N.length ≤ 70368744177664 := by
       have := Tb.nums_len [size.toNat, bits.toNat, l.length, (Tb.low l).toNat, (Tb.high l).toNat] (by
         intro n hn
         have := HZB.out
         simp only [List.mem_cons, List.not_mem_nil, or_false] at hn
         rcases hn with h | h | h | h | h <;> omega) 5 (by simp)
       rw [List.take_of_length_le (by simp)] at this
       rw [hN]; omega
     have HNE := hid hN
     have HNLn := hid hNl
     clear hw6 hs6 hlh hLH hNL v0 v1 v3 v4 hN hNl HF2 HW5
     go_wp2_with fail
     refine KN.out.mono ?_
     rintro e w7 ⟨NA, nc, rfl, hoN, hb7⟩
     have hb67 : Below w6.heap.size w6 w7 := ((Below.refl _ _).alloc (Nat.le_refl _) _).trans (hb7.mono (by simp))
     have HW7 := hid (HW6.out.call hb67)
     have HF3 := hid (wframe_any w w.heap.size gw s6 a3 90 NA nc N w7 HW7.out hoN.rd HNLn.out (by have := HN6.out; omega))
     clear hoN hb7 hb67 KN HW6
     go_wp2_with fail
     refine HF3.out.mono ?_
     rintro e w8 ⟨a4, rfl, hw8, _⟩
     obtain ⟨s8, hs8⟩ : ∃ s8 : Wr, s8 = { s6 with out := s6.out ++ Tb.putL 90 N, bad := s6.bad || !decide (N.length ≤ 65536) } := ⟨_, rfl⟩
     rw [← hs8] at hw8
     have HW8 := hid hw8
     have hfin := tb_end HNO.out HSO.out s1 HS1.out B XX N HBE.out HXE.out HNE.out
     have hbad : (((s1.bad || !decide (B.length ≤ 65536)) || !decide (XX.length ≤ 65536)) || !decide (N.length ≤ 65536)) = s8.bad := by rw [hs8, HS6.out, HS5.out]
     have hout : ((s1.out ++ Tb.putL 70 B) ++ Tb.putL 73 XX) ++ Tb.putL 90 N = s8.out := by rw [hs8, HS6.out, HS5.out]
     rw [hbad, hout] at hfin
     have HFIN := hid hfin
     obtain ⟨y0, _, _, _, y4, _⟩ := HW8.out.cells
     obtain ⟨bd, hbd⟩ : ∃ bd, bd = s8.bad := ⟨_, rfl⟩
     rw [← hbd] at y4 HFIN
     clear hw8 hs8 hfin hbad hout HF3 HW7 hbd
     rcases bd with _ | _
     · have HG := hid (gives_well HFIN.out HW8.out.below HW8.out.out)
       go_wp2_with fail
       go_ret2
       exact HG.out
     · have HG := hid (gives_two HFIN.out HW8.out.below)
       go_wp2_with fail
       go_ret2
       exact HG.out
structure Gv where
 A : Option Addr
 c : Nat
 ps : List Pv
def Gv.cells (g : Gv) : List Value := [.slice g.A g.ps.length g.c]
def Gv.pr (g : Gv) : List Pr := g.ps.map Pv.pr
theorem gvT : RT Tryz.prog 147 73 Gv.cells 1 24 (.slice none 0 0) :=
 ⟨Tryz.underlying147, by kernel_rfl, fun _ => rfl, fun a u hu => by simp [Gv.cells] at hu; subst hu; rfl, by omega, rfl⟩
theorem rd_gv_new (w : World) (g : Gv) : RdS Gv.cells 1 (w.alloc (.cells #[.slice g.A g.ps.length g.c] 73)) (w.heap.size + 1) (some ⟨w.heap.size, 0, none⟩) [g] := by
 refine RdS.of (f := Gv.cells) (n := 1) (l := [g]) (fun _ => rfl) _ 0 (by omega) (fun k hk j u hj => ?_)
 obtain rfl : k = 0 := by simp at hk; exact hk
 have hj' : g.cells[j]? = some u := hj
 rw [cell_of_row _ w.heap.size _ _ _ (0, 0) (heap_alloc_new w _)]
 simpa [Gv.cells] using hj'
structure GR (w : World) (base : Nat) (A : Option Addr) (c : Nat) (gs : List Gv) (wr : World) : Prop where
 row : OwnS Gv.cells 1 wr base 73 A c gs
 inn : ∀ x ∈ gs, OwnS Pv.cells 2 wr base 77 x.A x.c x.ps
 prs : ∀ x ∈ gs, ∀ q ∈ x.ps, PvO wr base [blk A] q
 offr : ∀ x ∈ gs, Off [blk A] (blk x.A)
 below : Below base w wr
 size : base ≤ wr.heap.size
structure GS (w : World) (base : Nat) (A : Option Addr) (c : Nat) (P : List Gv) (g : Gv) (wr : World) : Prop where
 row : OwnS Gv.cells 1 wr base 73 A c (P ++ [g])
 inn : ∀ x, x ∈ P ∨ x = g → OwnS Pv.cells 2 wr base 77 x.A x.c x.ps
 prs : ∀ x, x ∈ P ∨ x = g → ∀ q ∈ x.ps, PvO wr base [blk A, blk g.A] q
 offP : ∀ x ∈ P, Off [blk A, blk g.A] (blk x.A)
 offg : Off [blk A] (blk g.A)
 below : Below base w wr
 size : base ≤ wr.heap.size
section
variable {w wr w2 : World} {base : Nat} {A : Option Addr} {c : Nat} {P gs : List Gv} {g : Gv}
theorem Off.sub {R R' : List (Option Nat)} {b : Option Nat} (h : Off R b) (hs : ∀ g, some g ∈ R' → some g ∈ R) : Off R' b := fun g hg hm => h g hg (hs g hm)
theorem PvO.sub {R R' : List (Option Nat)} {q : Pv} (h : PvO wr base R q) (hs : ∀ g, some g ∈ R' → some g ∈ R) : PvO wr base R' q := ⟨h.k, h.v, h.ko.sub hs, h.vo.sub hs⟩
theorem GS.gr (h : GS w base A c P g wr) : GR w base A c (P ++ [g]) wr :=
 ⟨h.row, fun x hx => h.inn x (by simpa using hx), fun x hx q hq => (h.prs x (by simpa using hx) q hq).sub (fun g hg => by simp at hg ⊢; exact .inl hg), fun x hx => by
   have hx : x ∈ P ∨ x = g := by simpa using hx
   rcases hx with h1 | h1
   · exact (h.offP x h1).sub (fun g hg => by simp at hg ⊢; exact .inl hg)
   · rw [h1]; exact h.offg, h.below, h.size⟩
theorem GR.call (h : GR w base A c gs wr) (hb : Below wr.heap.size wr w2) : GR w base A c gs w2 :=
 ⟨h.row.below hb, fun x hx => (h.inn x hx).below hb, fun x hx q hq => (h.prs x hx q hq).kept (grown_of_below hb) (.inl rfl), h.offr, h.below.trans (hb.mono h.size), Nat.le_trans h.size hb.size⟩
theorem GS.call (h : GS w base A c P g wr) (hb : Below wr.heap.size wr w2) : GS w base A c P g w2 :=
 ⟨h.row.below hb, fun x hx => (h.inn x hx).below hb, fun x hx q hq => (h.prs x hx q hq).kept (grown_of_below hb) (.inl rfl), h.offP, h.offg, h.below.trans (hb.mono h.size), Nat.le_trans h.size hb.size⟩
theorem GR.more (h : GR w base A c gs wr) {A' : Option Addr} {c' : Nat} (ho : OwnS Gv.cells 1 w2 base 73 A' c' (gs ++ [⟨none, 0, []⟩])) (hg : wr.grownBy w2 (blk A)) (hat : blk A' = blk A ∨ blk A' = some wr.heap.size) : GS w base A' c' gs ⟨none, 0, []⟩ w2 := by
 have hR : ∀ r ∈ ([blk A', blk (none : Option Addr)] : List (Option Nat)), r ∈ ([blk A, none] : List (Option Nat)) ∨ r = some wr.heap.size := fun r hr => by
   simp only [List.mem_cons, List.not_mem_nil, or_false] at hr ⊢
   rcases hr with h1 | h1
   · rcases hat with h2 | h2
     · exact .inl (.inl (h1.trans h2))
     · exact .inr (h1.trans h2)
   · exact .inl (.inr h1)
 have hn : ∀ {b}, Off [blk A] b → Off [blk A, none] b := fun hb g hg hm => hb g hg (by simp at hm ⊢; exact hm)
 refine ⟨ho, fun x hx => ?_, fun x hx q hq => ?_, fun x hx => ?_, (fun k hk => by cases hk), h.below.grown hg h.size (fun k hk => (h.row.blk_ge k hk).1), Nat.le_trans h.size hg.size⟩
 · rcases hx with h1 | h1
   · exact (h.inn x h1).kept hg ((h.offr x h1).ne (by simp))
   · subst h1; exact OwnS.nil _ _ _
 · rcases hx with h1 | h1
   · have h2 := h.prs x h1 q hq
     have h3 := h2.kept hg (.inr (by simp))
     exact ⟨h3.k, h3.v, (hn h2.ko).new (fun g hgg => (h2.k.blk_ge g hgg).2) hR, (hn h2.vo).new (fun g hgg => (h2.v.blk_ge g hgg).2) hR⟩
   · subst h1; cases hq
 · exact (hn (h.offr x hx)).new (fun g hgg => ((h.inn x hx).blk_ge g hgg).2) hR
theorem cells_len (l : List Gv) : (l.flatMap Gv.cells).length = l.length := by
 induction l with
 | nil => rfl
 | cons a l ih => rw [List.flatMap_cons, List.length_append, ih]; simp [Gv.cells]; omega
theorem GS.app {gA : Nat} (h : GS w base (some ⟨gA, 0, none⟩) c P g wr) {q : Pv} (hq : PvO wr base [some gA, blk g.A] q) {A' : Option Addr} {c' : Nat} (ho : OwnS Pv.cells 2 w2 base 77 A' c' (g.ps ++ [q])) (hg : wr.grownBy w2 (blk g.A)) (hat : blk A' = blk g.A ∨ blk A' = some wr.heap.size) :
   GS w base (some ⟨gA, 0, none⟩) c P ⟨A', c', g.ps ++ [q]⟩ (w2.setCell ⟨gA, P.length, none⟩ (.slice A' (g.ps ++ [q]).length c')) := by
 have hgs := grownBy_set w2 ⟨gA, P.length, none⟩ (.slice A' (g.ps ++ [q]).length c')
 have hltA : gA < wr.heap.size := (h.row.blk_ge gA rfl).2
 have hAne : blk (some (⟨gA, 0, none⟩ : Addr)) = none ∨ blk (some (⟨gA, 0, none⟩ : Addr)) ≠ blk g.A := .inr (fun e => h.offg gA e.symm (by simp [blk]))
 have hofA' : Off [some gA] (blk A') := fun k hk hm => by
   rcases hat with h1 | h1
   · exact h.offg k (h1 ▸ hk) (by simpa [blk] using hm)
   · rw [h1] at hk; injection hk with hk; simp at hm; omega
 have hR : ∀ r ∈ ([some gA, blk A'] : List (Option Nat)), r ∈ ([some gA, blk g.A] : List (Option Nat)) ∨ r = some wr.heap.size := fun r hr => by
   simp only [List.mem_cons, List.not_mem_nil, or_false] at hr ⊢
   rcases hr with h1 | h1
   · exact .inl (.inl h1)
   · rcases hat with h2 | h2
     · exact .inl (.inr (h1.trans h2))
     · exact .inr (h1.trans h2)
 have hpr : ∀ q', PvO wr base [some gA, blk g.A] q' → PvO (w2.setCell ⟨gA, P.length, none⟩ (.slice A' (g.ps ++ [q]).length c')) base [some gA, blk A'] q' := fun q' h0 => by
   have h1 := (h0.kept hg (.inr (by simp))).kept hgs (.inr (by simp))
   exact ⟨h1.k, h1.v, h1.ko.new (fun k hk => (h0.k.blk_ge k hk).2) hR, h1.vo.new (fun k hk => (h0.v.blk_ge k hk).2) hR⟩
 refine ⟨?_, fun x hx => ?_, fun x hx q' hq' => ?_, fun x hx => ?_, fun k hk hm => hofA' k hk (by simpa [blk] using hm), (h.below.grown hg h.size (fun k hk => ((h.inn g (.inr rfl)).blk_ge k hk).1)).setCell ((h.row.blk_ge gA rfl).1) _, Nat.le_trans h.size (Nat.le_trans hg.size (by simp [World.setCell]))⟩
 · have h1 := (World.ownsRow.stored (h.row.kept hg hAne) P.length (.slice A' (g.ps ++ [q]).length c')).1
   unfold OwnS
   have e1 : (P ++ [(⟨A', c', g.ps ++ [q]⟩ : Gv)]).length = (P ++ [g]).length := by simp
   have e2 : (P ++ [(⟨A', c', g.ps ++ [q]⟩ : Gv)]).flatMap Gv.cells = ((P ++ [g]).flatMap Gv.cells).set P.length (.slice A' (g.ps ++ [q]).length c') := by
     simp only [List.flatMap_append, List.flatMap_cons, List.flatMap_nil, List.append_nil]
     rw [List.set_append_right _ _ (by rw [cells_len]; omega), cells_len]
     simp [Gv.cells]
   rw [e1, e2]
   exact h1
 · rcases hx with h1 | h1
   · have h2 := h.offP x h1
     exact ((h.inn x (.inl h1)).kept hg (h2.ne (by simp))).kept hgs (h2.ne (by simp [blk]))
   · subst h1; exact ho.kept hgs (hofA'.ne (by simp))
 · rcases hx with h1 | h1
   · exact hpr q' (h.prs x (.inl h1) q' hq')
   · subst h1
     have hq' : q' ∈ g.ps ++ [q] := hq'
     simp only [List.mem_append, List.mem_singleton] at hq'
     rcases hq' with h2 | h2
     · exact hpr q' (h.prs g (.inr rfl) q' h2)
     · subst h2; exact hpr q' hq
 · exact (h.offP x hx).new (fun k hk => ((h.inn x (.inl hx)).blk_ge k hk).2) hR
theorem GR.lts (h : GR w base A c gs wr) : ∀ k, some k ∈ ([blk A] : List (Option Nat)) → k < wr.heap.size := fun k hk => by
 simp only [List.mem_cons, List.not_mem_nil, or_false] at hk
 exact (h.row.blk_ge k hk.symm).2
theorem GS.lts (h : GS w base A c P g wr) : ∀ k, some k ∈ ([blk A, blk g.A] : List (Option Nat)) → k < wr.heap.size := fun k hk => by
 simp only [List.mem_cons, List.not_mem_nil, or_false] at hk
 rcases hk with h1 | h1
 · exact (h.row.blk_ge k h1.symm).2
 · exact ((h.inn g (.inr rfl)).blk_ge k h1.symm).2
theorem GS.at_ (h : GS w base A c P g wr) : ∃ gA cur, A = some ⟨gA, 0, none⟩ ∧ wr.heap[gA]? = some (.cells cur 73) ∧ wr.cell? ⟨gA, P.length, none⟩ = some (.slice g.A g.ps.length g.c) := by
 obtain ⟨gA, cur, rfl, _, _, hh⟩ := h.row.form (by simp)
 refine ⟨gA, cur, rfl, hh, ?_⟩
 have h1 := World.ownsRow.cells (h.row) (g := gA) rfl P.length (.slice g.A g.ps.length g.c) (by
   simp only [List.flatMap_append, List.flatMap_cons, List.flatMap_nil, List.append_nil]
   rw [List.getElem?_append_right (by rw [cells_len]; omega), cells_len]
   simp [Gv.cells])
 rw [← h1]
 congr 1
 unfold Addr.add
 split
 · rename_i h0; rw [h0]
 · simp
end
namespace Tb
def pst (size : Int) (s : List (List Pr) × Int) (r : Rv) : List (List Pr) × Int :=
 if s.1 = [] ∨ size ≤ s.2 then (s.1 ++ [[inner r]], plen (inner r)) else (s.1.dropLast ++ [(s.1.getLast?.getD []) ++ [inner r]], s.2 + plen (inner r))
def parts (size : Int) (l : List Rv) : List (List Pr) × Int := l.foldl (pst size) ([], 0)
theorem parts_succ (size : Int) (l : List Rv) (k : Nat) (h : k < l.length) : parts size (l.take (k + 1)) = pst size (parts size (l.take k)) l[k] := by
 unfold parts
 rw [List.take_succ_eq_append_getElem h, List.foldl_append]; rfl
end Tb
namespace Tb
theorem parts_bd (size : Int) (l : List Rv) (hr : ∀ r ∈ l, right r = true) (k : Nat) (h : k ≤ l.length) : 0 ≤ (parts size (l.take k)).2 ∧ (parts size (l.take k)).2 ≤ 20000 * (k : Int) := by
 induction k with
 | zero => simp [parts]
 | succ k ih =>
   rw [parts_succ size l k (by omega)]
   have := ih (by omega)
   obtain ⟨i1, i2⟩ := inner_bd (hr _ (List.getElem_mem (by omega : k < l.length)))
   unfold pst plen
   split <;> simp only <;> omega
theorem parts_len (size : Int) (l : List Rv) (k : Nat) (h : k ≤ l.length) : (parts size (l.take k)).1.length ≤ k := by
 induction k with
 | zero => simp [parts]
 | succ k ih =>
   rw [parts_succ size l k (by omega)]
   have := ih (by omega)
   unfold pst
   split
   · simp; omega
   · rename_i hn
     have : 0 < (parts size (l.take k)).1.length := List.length_pos_iff.2 (fun e => hn (.inl e))
     simp; omega
theorem parts_last (size : Int) (l : List Rv) (k : Nat) (h : k ≤ l.length) : ((parts size (l.take k)).1.getLast?.getD []).length ≤ k := by
 induction k with
 | zero => simp [parts]
 | succ k ih =>
   rw [parts_succ size l k (by omega)]
   have := ih (by omega)
   unfold pst
   split
   · simp
   · simp; omega
end Tb
def PartP (w : World) (l : List Rv) (size : Int) (e : Ending) (w' : World) : Prop := ∃ A c gs, e = .returned (.slice A gs.length c) ∧ GR w w.heap.size A c gs w' ∧ gs.map Gv.pr = (Tb.parts size l).1
def GO (w : World) (A : Option Addr) (c : Nat) (gs : List Gv) (wr : World) : Prop := (gs = [] ∧ GR w w.heap.size A c gs wr) ∨ ∃ P g, gs = P ++ [g] ∧ GS w w.heap.size A c P g wr
theorem GO.gr {w wr : World} {A : Option Addr} {c : Nat} {gs : List Gv} (h : GO w A c gs wr) : GR w w.heap.size A c gs wr := by
 rcases h with ⟨_, h⟩ | ⟨P, g, rfl, h⟩
 · exact h
 · exact h.gr
theorem GO.call {w wr w2 : World} {A : Option Addr} {c : Nat} {gs : List Gv} (h : GO w A c gs wr) (hb : Below wr.heap.size wr w2) : GO w A c gs w2 := by
 rcases h with ⟨e, h⟩ | ⟨P, g, rfl, h⟩
 · exact .inl ⟨e, h.call hb⟩
 · exact .inr ⟨P, g, rfl, h.call hb⟩
structure Fr (base n : Nat) (q : Pv) (wr : World) : Prop where
 k : Own wr base 5 q.kA q.kc q.k
 v : Own wr base 5 q.vA q.vc q.v
 kf : ∀ g, blk q.kA = some g → n ≤ g
 vf : ∀ g, blk q.vA = some g → n ≤ g
theorem Fr.pv {base n : Nat} {q : Pv} {wr : World} {R : List (Option Nat)} (h : Fr base n q wr) (hR : ∀ g, some g ∈ R → g < n) : PvO wr base R q := ⟨h.k, h.v, Off.fresh h.kf hR, Off.fresh h.vf hR⟩
theorem Fr.call {base n : Nat} {q : Pv} {wr w2 : World} (h : Fr base n q wr) (hb : Below wr.heap.size wr w2) : Fr base n q w2 := ⟨h.k.below hb, h.v.below hb, h.kf, h.vf⟩
theorem PvO.new {wr : World} {base : Nat} {q : Pv} {R R' : List (Option Nat)} {n : Nat} (h : PvO wr base R q) (hlt : wr.heap.size ≤ n) (hR : ∀ r ∈ R', r ∈ R ∨ r = none ∨ r = some n) : PvO wr base R' q := by
 have key : ∀ b, Off R b → (∀ g, b = some g → g < n) → Off R' b := fun b hb hl g hg hm => by
   rcases hR _ hm with h1 | h1 | h1
   · exact hb g hg h1
   · cases h1
   · injection h1 with h1
     have := hl g hg; omega
 exact ⟨h.k, h.v, key _ h.ko (fun g hg => Nat.lt_of_lt_of_le (h.k.blk_ge g hg).2 hlt), key _ h.vo (fun g hg => Nat.lt_of_lt_of_le (h.v.blk_ge g hg).2 hlt)⟩
theorem cell_of_block {w w' : World} {g i : Nat} (h : w'.heap[g]? = w.heap[g]?) : w'.cell? ⟨g, i, none⟩ = w.cell? ⟨g, i, none⟩ := by
 unfold World.cell?
 simp only [h]
theorem Fr.grow {base n : Nat} {q : Pv} {Z Z2 w9 : World} {A' A3 : Option Addr} (hF : Fr base n q Z) (hb : Below Z.heap.size Z Z2) (hg : Z2.grownBy w9 (blk A')) (hA : ∀ k, blk A' = some k → k < n) (hat : blk A3 = blk A' ∨ blk A3 = some Z2.heap.size) : PvO w9 base [blk A3, none] q := by
 have h1 : PvO Z2 base [blk A'] q := (hF.call hb).pv (fun k hk => hA k (by simp only [List.mem_cons, List.not_mem_nil, or_false] at hk; exact hk.symm))
 have h2 : PvO Z2 base [blk A3, none, blk A'] q := h1.new (n := Z2.heap.size) (Nat.le_refl _) (fun r hr => by
   simp only [List.mem_cons, List.not_mem_nil, or_false] at hr ⊢
   rcases hr with h | h | h
   · rcases hat with h3 | h3
     · exact .inl (h.trans h3)
     · exact .inr (.inr (h.trans h3))
   · exact .inr (.inl h)
   · exact .inl h)
 exact (h2.kept hg (.inr (by simp))).sub (fun k hk => by simp at hk ⊢; exact .inl hk)
set_option maxHeartbeats 4000000 in
set_option maxRecDepth 100000 in
theorem part_any (A : Option Addr) (c : Nat) (l : List Rv) (size : Int) (w : World) (h : RdRv w w.heap.size A l) (hl : l.length ≤ 20000) (hr : ∀ r ∈ l, Tb.right r = true) :
   Calls Tryz.prog 68 #[.slice A l.length c, .int .i64 size] w (PartP w l size) := by
 have HH := hid h
 have HR := hid hr
 rcases Nat.eq_zero_or_pos l.length with hz | hp
 · have hn := List.eq_nil_of_length_eq_zero hz
   subst hn
   have HG : Hid (PartP w [] size (.returned (.slice none 0 0)) w) := hid ⟨none, 0, [], rfl, ⟨OwnS.nil _ _ _, (fun x hx => by cases hx), (fun x hx => by cases hx), (fun x hx => by cases hx), Below.refl _ _, Nat.le_refl _⟩, rfl⟩
   clear h hr
   go_enter Tryz.func68, Tryz.ntmps68
   go_wp2_with fail
   go_loopw [5, 6, 7, 8, 9] (fun o n i _ _ wr => o = .slice none 0 0 ∧ i = .int .i64 0 ∧ wr = w) (fun _ _ _ _ _ _ => 0)
   case atStart => exact ⟨rfl, rfl, rfl⟩
   case round =>
     obtain ⟨rfl, rfl, rfl⟩ := hrel
     go_wp2_with fail
     go_ret
     exact HG.out
 obtain ⟨b, off, hA, hbl, hrow⟩ := h.row4 hp
 subst hA
 have HROW := hid hrow
 have HG0 : Hid (GO w none 0 [] w) := hid (.inl ⟨rfl, OwnS.nil _ _ _, (fun x hx => by cases hx), (fun x hx => by cases hx), (fun x hx => by cases hx), Below.refl _ _, Nat.le_refl _⟩)
 clear h hr hrow
 go_enter Tryz.func68, Tryz.ntmps68
 go_wp2_with fail
 go_loopw [5, 6, 7, 8, 9] (fun o n i _ _ wr => ∃ (k m : Nat) (A' : Option Addr) (c' : Nat) (gs : List Gv) (N : Int), k ≤ l.length ∧ i = .int .i64 (k : Int) ∧ o = .slice A' m c' ∧ n = .int .i64 N ∧ Hid (m = gs.length ∧ gs.map Gv.pr = (Tb.parts size (l.take k)).1 ∧ N = (Tb.parts size (l.take k)).2) ∧ Hid (GO w A' c' gs wr)) (fun _ _ i _ _ _ => l.length - (intOf i).toNat)
 case atStart => exact ⟨0, 0, none, 0, [], 0, by omega, rfl, rfl, rfl, hid ⟨rfl, rfl, rfl⟩, HG0⟩
 case round =>
   obtain ⟨k, m, A', c', gs, N, hk, rfl, rfl, rfl, HC, HG⟩ := hrel
   clear HG0
   by_cases hlt : k < l.length
   · obtain ⟨r, hrv⟩ : ∃ r, r = l[k] := ⟨_, rfl⟩
     have hmem : r ∈ l := by rw [hrv]; exact List.getElem_mem hlt
     have HRT := hid (HR.out r hmem)
     have hbb := HG.out.gr.below
     obtain ⟨c0, c1, c2, c3⟩ := HROW.out k hlt
     rw [← hrv] at c0 c1 c2 c3
     have r0 := (hbb.cell (p := ⟨b, off + k * 4, none⟩) hbl).trans c0
     have r1 := (hbb.cell (p := ⟨b, off + k * 4 + 1, none⟩) hbl).trans c1
     have r2 := (hbb.cell (p := ⟨b, off + k * 4 + 2, none⟩) hbl).trans c2
     have r3 := (hbb.cell (p := ⟨b, off + k * 4 + 3, none⟩) hbl).trans c3
     have hrt := (Tb.right_iff _).1 HRT.out
     have KIN := hid (rinner_any r wr (((HH.out.ok r hmem).below hbb (Nat.le_refl _)).more HG.out.gr.size) (by omega) (by omega) hrt.2.2.1 hrt.2.2.2.1)
     have HIB := hid (Tb.inner_bd HRT.out)
     have HNB := hid (Tb.parts_bd size l HR.out k (by omega))
     have HPS : Hid (Tb.parts size (l.take (k + 1)) = Tb.pst size (Tb.parts size (l.take k)) r) := hid (by rw [hrv]; exact Tb.parts_succ size l k hlt)
     obtain ⟨PR, hPR⟩ : ∃ PR, PR = Tb.inner r := ⟨_, rfl⟩
     rw [← hPR] at KIN HIB
     have HPR := hid hPR
     clear c0 c1 c2 c3 hmem hrv hbb hrt hPR
     obtain ⟨kA, kc, kk, seq, del, vA, vc, vv⟩ := r
     obtain ⟨PK, PV⟩ := PR
     simp only [Rv.val] at r0 r1 r2 r3 KIN HIB
     go_wp2_with fail
     refine KIN.out.mono ?_
     rintro e w4 ⟨A1, c1, A2, c2, rfl, ho1, ho2, hb4⟩
     have hbZ : Below wr.heap.size wr (w4.alloc (.cells #[.slice A1 PK.length c1, .slice A2 PV.length c2] 77)) := hb4.alloc hb4.size _
     have HGZ := hid (HG.out.call hbZ)
     have hbs := HG.out.gr.size
     have HFZ : Hid (Fr w.heap.size wr.heap.size ⟨A1, c1, PK, A2, c2, PV⟩ (w4.alloc (.cells #[.slice A1 PK.length c1, .slice A2 PV.length c2] 77))) := hid ⟨(ho1.alloc _).mono hbs, (ho2.alloc _).mono hbs, fun g hg => (ho1.blk_ge g hg).1, fun g hg => (ho2.blk_ge g hg).1⟩
     have HPZ : Hid ((w4.alloc (.cells #[.slice A1 PK.length c1, .slice A2 PV.length c2] 77)).heap[w4.heap.size]? = some (.cells #[.slice A1 PK.length c1, .slice A2 PV.length c2] 77)) := hid (heap_alloc_new w4 _)
     have HGP : Hid (wr.heap.size ≤ w4.heap.size ∧ w4.heap.size < (w4.alloc (.cells #[.slice A1 PK.length c1, .slice A2 PV.length c2] 77)).heap.size) := hid ⟨hb4.size, by simp⟩
     have HSZ : Hid (∀ k, blk A' = some k → k < wr.heap.size) := hid (fun k hk => HG.out.gr.lts k (by simp [hk]))
     have hN0 : 0 ≤ N := by rw [HC.out.2.2]; exact HNB.out.1
     have hN1 : N ≤ 400000000 := by rw [HC.out.2.2]; have := HNB.out.2; omega
     have hpk := HIB.out.1
     have hpv := HIB.out.2
     have HBZ := hid hbZ
     clear ho1 ho2 hb4 hbZ hbs KIN r0 r1 r2 r3
     by_cases h0 : gs = [] ∨ size ≤ N
     case' pos =>
       have HNX : Hid (Tb.pst size (Tb.parts size (l.take k)) ⟨kA, kc, kk, seq, del, vA, vc, vv⟩ = (gs.map Gv.pr ++ [([] : List Pr) ++ [⟨PK, PV⟩]], 0 + Tb.plen ⟨PK, PV⟩)) := hid (by
         unfold Tb.pst
         rw [if_pos (by rw [← HC.out.2.1, ← HC.out.2.2]; rcases h0 with h1 | h1; exact .inl (by simp [h1]); exact .inr h1), HC.out.2.1, ← HPR.out]
         simp)
       have hgl : m = gs.length := HC.out.1
       have hcond : (m = 0 ∧ ((m : Int) == 0) = true ∧ decide ((m : Int) = 0) = true) ∨ (((m : Int) == 0) = false ∧ decide ((m : Int) = 0) = false ∧ size ≤ N) := by
         by_cases hz : m = 0
         · exact .inl ⟨hz, by simp [hz], by simp [hz]⟩
         · rcases h0 with h1 | h1
           · exact absurd (by rw [hgl, h1]; rfl) hz
           · exact .inr ⟨by simp; omega, by simp; omega, h1⟩
       have hgm : m ≤ 20000 := by
         have h1 := congrArg List.length HC.out.2.1
         have h2 := Tb.parts_len size l k (by omega)
         rw [List.length_map] at h1; omega
       clear h0
       have HGL := hid hgl
       clear hgl
       rcases hcond with ⟨hz0, hz1, hz2⟩ | ⟨hz1, hz2, hz0⟩
       case' inl => clear hz0
     case' neg =>
       have hne : gs ≠ [] := fun e => h0 (.inl e)
       have hsz : ¬ size ≤ N := fun e => h0 (.inr e)
       have hGS : ∃ P g, gs = P ++ [g] ∧ GS w w.heap.size A' c' P g wr := by
         rcases HG.out with ⟨e, _⟩ | h1
         · exact absurd e hne
         · exact h1
       obtain ⟨P, g, hgs, hG⟩ := hGS
       have hgl : m = P.length + 1 := by rw [HC.out.1, hgs]; simp
       have hgm : m ≤ 20000 := by
         have h1 := congrArg List.length HC.out.2.1
         have h2 := Tb.parts_len size l k (by omega)
         rw [List.length_map, ← HC.out.1] at h1; omega
       have HNX : Hid (Tb.pst size (Tb.parts size (l.take k)) ⟨kA, kc, kk, seq, del, vA, vc, vv⟩ = (P.map Gv.pr ++ [g.pr ++ [⟨PK, PV⟩]], N + Tb.plen ⟨PK, PV⟩)) := hid (by
         have e1 := HC.out.2.1
         rw [hgs] at e1
         unfold Tb.pst
         rw [← HPR.out, ← HC.out.2.2, ← e1]
         rw [if_neg (by rintro (h1 | h1); · simp at h1
                        · exact hsz h1)]
         simp)
       obtain ⟨pl, hpl⟩ : ∃ pl, pl = P.length := ⟨_, rfl⟩
       have HPLN := hid hpl
       have HGX := hid (hG.call HBZ.out)
       have HQX : Hid (PvO (w4.alloc (.cells #[.slice A1 PK.length c1, .slice A2 PV.length c2] 77)) w.heap.size [blk A', blk g.A] ⟨A1, c1, PK, A2, c2, PV⟩) := hid (HFZ.out.pv hG.lts)
       have HGPO : Hid (some w4.heap.size ∉ ([blk A', blk g.A] : List (Option Nat))) := hid (fun hm => by have h1 := hG.lts _ hm; have h2 := HGP.out.1; omega)
       have HPX := hid HPZ.out
       have hsum : IntKind.i64.wrap ((m : Int) - 1) = (pl : Int) := by rw [IntKind.wrap_i64]; omega
       have hpl0 : (0 : Int) ≤ (pl : Int) := by omega
       have hpl1 : (pl : Int) < (m : Int) := by omega
       have hme : ((m : Int) == 0) = false := by simp; omega
       have hmd : decide ((m : Int) = 0) = false := by simp; omega
       have hpg : pl ≤ 20000 := by omega
       have HMQ : Hid (m = pl + 1) := hid (by omega)
       clear h0 hne hG hgl hpl hgs HGZ HFZ HPZ HG hgm
       go_wp2_with fail
       obtain ⟨gp, hgp⟩ : ∃ gp, w4.heap.size = gp := ⟨_, rfl⟩
       obtain ⟨X, hX⟩ : ∃ X, (w4.alloc (.cells #[.slice A1 PK.length c1, .slice A2 PV.length c2] 77)) = X := ⟨_, rfl⟩
       rw [hX] at HGX HQX HPX ⊢
       rw [hgp] at HGPO HPX ⊢
       have HGPX : Hid (gp < X.heap.size) := hid (by have := HGP.out.2; rw [hX, hgp] at this; exact this)
       obtain ⟨A3, hA3e⟩ : ∃ A3, A' = A3 := ⟨_, rfl⟩
       subst hA3e
       obtain ⟨A3, hA3e⟩ : ∃ A3, A3 = A' := ⟨_, rfl⟩
       rw [← hA3e] at HGX HQX HGPO ⊢
       clear hA3e hme hmd hX hgp HGP HBZ HSZ
       obtain ⟨c3, hc3⟩ : ∃ c3, c3 = c' := ⟨_, rfl⟩
       subst hc3
       obtain ⟨mq, hmq⟩ : ∃ mq, mq = m := ⟨_, rfl⟩
       subst hmq
     case' inl | inr =>
       go_wp2_with (at_builtin; refine wpList_append_s _ rfl _ _ gvT rfl w.heap.size A' c' gs (by show Value.slice A' m c' = Value.slice A' gs.length c'; rw [HGL.out]) (HGZ.out.gr.row.alloc _) (w4.heap.size + 1 + 1) (some ⟨w4.heap.size + 1, 0, none⟩) 1 1 [⟨none, 0, []⟩] rfl rfl (by have := rd_gv_new (w4.alloc (.cells #[.slice A1 PK.length c1, .slice A2 PV.length c2] 77)) ⟨none, 0, []⟩; simpa using this) (by rw [← HGL.out]; simp; omega) (by rw [← HGL.out]; unfold maxLen; simp; omega) (by have := HGZ.out.gr.size; simp at this ⊢; omega) ?_)
       intro A3 c3 LK w9 hLK hoK hgK hatK
       have hLKn : LK.length = m + 1 := by rw [hLK, List.length_append, HGL.out]; rfl
       have hatK' : blk A3 = blk A' ∨ blk A3 = some (((w4.alloc (.cells #[.slice A1 PK.length c1, .slice A2 PV.length c2] 77)).alloc (.cells #[.slice none 0 0] 73)).heap.size) := by simpa using hatK
       have hbal : Below (w4.alloc (.cells #[.slice A1 PK.length c1, .slice A2 PV.length c2] 77)).heap.size (w4.alloc (.cells #[.slice A1 PK.length c1, .slice A2 PV.length c2] 77)) ((w4.alloc (.cells #[.slice A1 PK.length c1, .slice A2 PV.length c2] 77)).alloc (.cells #[.slice none 0 0] 73)) := (Below.refl _ _).alloc (Nat.le_refl _) _
       have HGX : Hid (GS w w.heap.size A3 c3 gs ⟨none, 0, []⟩ w9) := hid ((HGZ.out.gr.call hbal).more (by rw [← hLK]; exact hoK) hgK hatK')
       have HQX : Hid (PvO w9 w.heap.size [blk A3, none] ⟨A1, c1, PK, A2, c2, PV⟩) := hid (HFZ.out.grow hbal hgK HSZ.out hatK')
       have hgpne : some w4.heap.size ≠ blk A' := fun e => by have h1 := HSZ.out _ e.symm; have h2 := HGP.out.1; omega
       have HPX : Hid (w9.heap[w4.heap.size]? = some (.cells #[.slice A1 PK.length c1, .slice A2 PV.length c2] 77)) := hid ((hgK.block _ (Nat.lt_of_lt_of_le HGP.out.2 hbal.size) hgpne).trans ((hbal.block _ HGP.out.2).trans HPZ.out))
       have HGPO : Hid (some w4.heap.size ∉ ([blk A3, none] : List (Option Nat))) := hid (fun hm => by
         simp only [List.mem_cons, List.not_mem_nil, or_false] at hm
         rcases hm with h1 | h1
         · rcases hatK' with h2 | h2
           · exact hgpne (h1.trans h2)
           · have := h1.trans h2
             simp at this; omega
         · cases h1)
       have HGPX : Hid (w4.heap.size < w9.heap.size) := hid (Nat.lt_of_lt_of_le (Nat.lt_of_lt_of_le HGP.out.2 hbal.size) hgK.size)
       obtain ⟨g, hg⟩ : ∃ g : Gv, g = ⟨none, 0, []⟩ := ⟨_, rfl⟩
       have hgA : (none : Option Nat) = blk g.A := by rw [hg]; rfl
       have HNY := HNX
       have HNX : Hid (Tb.pst size (Tb.parts size (l.take k)) ⟨kA, kc, kk, seq, del, vA, vc, vv⟩ = (gs.map Gv.pr ++ [g.pr ++ [⟨PK, PV⟩]], 0 + Tb.plen ⟨PK, PV⟩)) := hid (by rw [HNY.out, hg]; rfl)
       rw [← hg] at HGX
       rw [hgA] at HQX HGPO
       obtain ⟨P, hP⟩ : ∃ P, gs = P := ⟨_, rfl⟩
       rw [hP] at HGX HNX HGL
       obtain ⟨pl, hpl⟩ : ∃ pl, m = pl := ⟨_, rfl⟩
       rw [hpl] at HGL hLKn
       have HPLN := HGL
       obtain ⟨mq, hmq⟩ : ∃ mq, LK.length = mq := ⟨_, rfl⟩
       rw [hmq] at hLKn ⊢
       have hsum : IntKind.i64.wrap ((mq : Int) - 1) = (pl : Int) := by rw [IntKind.wrap_i64]; omega
       have hpl0 : (0 : Int) ≤ (pl : Int) := by omega
       have hpl1 : (pl : Int) < (mq : Int) := by omega
       have hpg : pl ≤ 20000 := by omega
       have HMQ : Hid (mq = pl + 1) := hid hLKn
       clear hLK hoK hgK hatK hatK' hbal hgpne hg hgA HNY hP hpl hmq hLKn hz1 hz2 HGZ HFZ HPZ HG hgm HGL
       go_wp2_with fail
       obtain ⟨X, hX⟩ : ∃ X, w9 = X := ⟨_, rfl⟩
       obtain ⟨gp, hgp⟩ : ∃ gp, w4.heap.size = gp := ⟨_, rfl⟩
       subst hX
       obtain ⟨X, hX⟩ : ∃ X, X = w9 := ⟨_, rfl⟩
       rw [← hX] at HGX HQX HPX HGPX ⊢
       rw [hgp] at HGPO HPX HGPX ⊢
       clear hX hgp HGP HBZ HSZ
     all_goals
       obtain ⟨gA, cur, hA3, _, hcell⟩ := HGX.out.at_
       subst hA3
       rw [← HPLN.out] at hcell
       obtain ⟨V, hV⟩ : ∃ V, X.drew = V := ⟨_, rfl⟩
       have hbV : Below X.heap.size X V := by rw [← hV]; exact (Below.refl _ _).drew
       have HGV := hid (HGX.out.call hbV)
       have HPV := hid ((hbV.block gp HGPX.out).trans HPX.out)
       have HQV := hid (HQX.out.kept (grown_of_below hbV) (.inl rfl))
       have hgpV : gp < V.heap.size := Nat.lt_of_lt_of_le HGPX.out hbV.size
       have hgAV : gA < V.heap.size := (HGV.out.row.blk_ge gA rfl).2
       have HS0 : V.cell? ⟨gA, pl, none⟩ = some (.slice g.A g.ps.length g.c) ∧ V.cell? ⟨gp, 0, none⟩ = some (.slice A1 PK.length c1) ∧ V.cell? ⟨gp, 1, none⟩ = some (.slice A2 PV.length c2) := by
         refine ⟨(hbV.cell (p := ⟨gA, pl, none⟩) (HGX.out.row.blk_ge gA rfl).2).trans hcell, ?_, ?_⟩
         · rw [cell_of_row V gp 0 _ _ (0, 0) HPV.out]; rfl
         · rw [cell_of_row V gp 1 _ _ (0, 0) HPV.out]; rfl
       have HSB : Hid (∀ w', Below V.heap.size V w' → w'.cell? ⟨gA, pl, none⟩ = some (.slice g.A g.ps.length g.c) ∧ w'.cell? ⟨gp, 0, none⟩ = some (.slice A1 PK.length c1) ∧ w'.cell? ⟨gp, 1, none⟩ = some (.slice A2 PV.length c2)) := hid (fun Y' hb => ⟨(hb.cell (p := ⟨gA, pl, none⟩) hgAV).trans HS0.1, (hb.cell (p := ⟨gp, 0, none⟩) hgpV).trans HS0.2.1, (hb.cell (p := ⟨gp, 1, none⟩) hgpV).trans HS0.2.2⟩)
       refine wp_region_E 10 (fun w' => w'.cell? ⟨gA, pl, none⟩ = some (.slice g.A g.ps.length g.c) ∧ w'.cell? ⟨gp, 0, none⟩ = some (.slice A1 PK.length c1) ∧ w'.cell? ⟨gp, 1, none⟩ = some (.slice A2 PV.length c2)) (by kernel_rfl) ?_
       rw [hV]
       clear hV hbV hcell HPX HQX HGX HGPX
       refine wpAnyE_take (i := 0) (v := ?_) rfl (by kernel_rfl) (by kernel_rfl) (by kernel_rfl) (by kernel_rfl) (fun _ _ _ h => h) (Or.inl ⟨by rfl, ?_⟩) HS0 ?_
       rotate_left
       · (intro wy hSw; obtain ⟨s1, s2x, s3⟩ := hSw; go_simp; try with_reducible rfl)
       try simp only [Act.put, List.setIfInBounds_toArray]
       refine wpAnyE_take (i := 1) (v := ?_) rfl (by kernel_rfl) (by kernel_rfl) (by kernel_rfl) (by kernel_rfl) (fun _ _ _ h => h) (Or.inl ⟨by rfl, ?_⟩) HS0 ?_
       rotate_left
       · (intro wy hSw; obtain ⟨s1, s2x, s3⟩ := hSw; go_simp; try with_reducible rfl)
       try simp only [Act.put]
       refine wpAnyE_take (i := 2) (v := ?_) rfl (by kernel_rfl) (by kernel_rfl) (by kernel_rfl) (by kernel_rfl) (fun _ _ _ h => h) (Or.inl ⟨by rfl, ?_⟩) HS0 ?_
       rotate_left
       · (intro wy hSw; obtain ⟨s1, s2x, s3⟩ := hSw; go_simp; try with_reducible rfl)
       try simp only [Act.put]
       refine wpAnyE_take (i := 3) (v := ?_) rfl (by kernel_rfl) (by kernel_rfl) (by kernel_rfl) (by kernel_rfl) (fun _ _ _ h => h) (Or.inl ⟨by rfl, ?_⟩) HS0 ?_
       rotate_left
       · (intro wy hSw; obtain ⟨s1, s2x, s3⟩ := hSw; go_simp; try with_reducible rfl)
       try simp only [Act.put]
       refine wpAnyE_take (i := 4) (v := ?_) rfl (by kernel_rfl) (by kernel_rfl) (by kernel_rfl) (by kernel_rfl) (fun _ _ _ h => h) (Or.inl ⟨by rfl, ?_⟩) HS0 ?_
       rotate_left
       · (intro wy hSw; obtain ⟨s1, s2x, s3⟩ := hSw; go_simp; try with_reducible rfl)
       try simp only [Act.put]
       refine wpAnyE_take (i := 5) (v := ?_) rfl (by kernel_rfl) (by kernel_rfl) (by kernel_rfl) (by kernel_rfl) (fun _ _ _ h => h) (Or.inl ⟨by rfl, ?_⟩) HS0 ?_
       rotate_left
       · (intro wy hSw; obtain ⟨s1, s2x, s3⟩ := hSw; go_simp; try with_reducible rfl)
       try simp only [Act.put]
       refine wpAnyE_take (i := 6) (v := ?_) rfl (by kernel_rfl) (by kernel_rfl) (by kernel_rfl) (by kernel_rfl) (fun _ _ _ h => h) (Or.inl ⟨by rfl, ?_⟩) HS0 ?_
       rotate_left
       · (intro wy hSw; obtain ⟨s1, s2x, s3⟩ := hSw; go_simp; try with_reducible rfl)
       try simp only [Act.put]
       refine wpAnyE_one (i := 7) (by kernel_rfl) rfl (fun K hK => ?_)
       go_simp
       have hb6 := (Below.refl V.heap.size V).alloc (Nat.le_refl _) (.cells #[.slice A1 PK.length c1, .slice A2 PV.length c2] 77)
       refine hK _ _ (HSB.out _ hb6) ?_
       try simp only [Act.put]
       have HG6 := hid (HGV.out.call hb6)
       have HQ6 := hid (HQV.out.kept (grown_of_below hb6) (.inl rfl))
       have HP6 := hid ((hb6.block gp hgpV).trans HPV.out)
       have HIN := hid (HG6.out.inn g (.inr rfl))
       have hgsl : g.ps.length ≤ 1000000 := by
         have h1 := Tb.parts_last size l (k + 1) (by omega)
         rw [HPS.out, HNX.out] at h1
         simp [Gv.pr] at h1; omega
       refine wpAnyE_one (i := 8) (by kernel_rfl) rfl (fun K hK => ?_)
       refine step_append_sd _ (by rfl) (some 43) (by rfl) (.tmp 40) (.tmp 42) pairT (by rfl) w.heap.size g.A g.c g.ps rfl HIN.out (V.heap.size + 1) (some ⟨V.heap.size, 0, none⟩) 1 1 [⟨A1, c1, PK, A2, c2, PV⟩] rfl rfl (rd_pair_new V ⟨A1, c1, PK, A2, c2, PV⟩) (by simp; omega) (by unfold maxLen; simp; omega) HG6.out.size ?_
       intro A6 c6 LL w6 hL ho6 hg6 hat6
       have HLL : Hid (LL = g.ps ++ [⟨A1, c1, PK, A2, c2, PV⟩]) := hid hL
       have hne2 : some gp ≠ blk g.A := fun e => HGPO.out (by rw [e]; simp)
       have hneA : some gA ≠ blk g.A := fun e => HG6.out.offg gA e.symm (by simp [blk])
       have hgp7 := (Array.getElem?_eq_some_iff.1 HP6.out).1
       have HPW := hid ((hg6.block gp hgp7 hne2).trans HP6.out)
       have hrowA := HG6.out.row
       obtain ⟨gA', cur', hAe, _, hltA, hrA⟩ := hrowA.form (by simp)
       have hAe' : gA = gA' := by injection hAe with hAe; injection hAe
       subst hAe'
       have HRW := hid ((hg6.block gA hltA hneA).trans hrA)
       have hcA : w6.cell? ⟨gA, pl, none⟩ = some (.slice g.A g.ps.length g.c) := by
         have h1 := (HSB.out _ hb6).1
         rw [← h1]
         exact cell_of_block (hg6.block gA hltA hneA)
       have hS6 : w6.cell? ⟨gA, pl, none⟩ = some (.slice g.A g.ps.length g.c) ∧ w6.cell? ⟨gp, 0, none⟩ = some (.slice A1 PK.length c1) ∧ w6.cell? ⟨gp, 1, none⟩ = some (.slice A2 PV.length c2) := by
         refine ⟨hcA, ?_, ?_⟩
         · rw [cell_of_row w6 gp 0 _ _ (0, 0) HPW.out]; rfl
         · rw [cell_of_row w6 gp 1 _ _ (0, 0) HPW.out]; rfl
       have fz6 : w6.frozen? ⟨gA, pl, none⟩ = false := frozen_of_row w6 gA pl _ _ HRW.out
       have HO6 := hid ho6; have HGR6 := hid hg6; have HT6 := hid hat6
       refine hK _ _ hS6 ?_
       try simp only [Act.put]
       refine wpAnyE_one (i := 9) (by kernel_rfl) rfl (fun K hK => ?_)
       go_simp
       refine hK _ _ hS6 ?_
       try simp only [Act.put]
       obtain ⟨g1, g2, g3⟩ := hS6
       refine wpAnyE_last (by kernel_rfl) (by kernel_rfl) rfl (fun K hK => ?_)
       go_simp
       refine hK _ _ ?_
       have hLn : LL.length = g.ps.length + 1 := by rw [HLL.out]; simp
       have hG7 : GS w w.heap.size (some ⟨gA, 0, none⟩) c3 P ⟨A6, c6, g.ps ++ [⟨A1, c1, PK, A2, c2, PV⟩]⟩ (w6.setCell ⟨gA, pl, none⟩ (.slice A6 (g.ps.length + 1) c6)) := by
         have ho := HO6.out
         have hL := HLL.out
         subst hL
         have := HG6.out.app HQ6.out ho HGR6.out HT6.out
         rw [List.length_append] at this
         rw [HPLN.out]
         exact this
       have hne3 : gp ≠ gA := fun e => HGPO.out (by rw [e]; simp [blk])
       have hp7 : (w6.setCell ⟨gA, pl, none⟩ (.slice A6 (g.ps.length + 1) c6)).heap[gp]? = some (.cells #[.slice A1 PK.length c1, .slice A2 PV.length c2] 77) := (Below.heap_setCell _ _ _ _ hne3).trans HPW.out
       obtain ⟨W7, hW7⟩ : ∃ W7, w6.setCell ⟨gA, pl, none⟩ (.slice A6 (g.ps.length + 1) c6) = W7 := ⟨_, rfl⟩
       have e4 : W7.cell? ⟨gp, 0, none⟩ = some (.slice A1 PK.length c1) := by rw [hW7] at hp7; rw [cell_of_row W7 gp 0 _ _ (0, 0) hp7]; rfl
       have e5 : W7.cell? ⟨gp, 1, none⟩ = some (.slice A2 PV.length c2) := by rw [hW7] at hp7; rw [cell_of_row W7 gp 1 _ _ (0, 0) hp7]; rfl
       rw [hW7] at hG7
       have HREL : Hid (GO w (some ⟨gA, 0, none⟩) c3 (P ++ [⟨A6, c6, g.ps ++ [⟨A1, c1, PK, A2, c2, PV⟩]⟩]) W7) := hid (.inr ⟨P, _, rfl, hG7⟩)
       have HML : Hid (pl + 1 = (P ++ [(⟨A6, c6, g.ps ++ [⟨A1, c1, PK, A2, c2, PV⟩]⟩ : Gv)]).length) := hid (by rw [HPLN.out]; simp)
       have HPRS : Hid ((P ++ [(⟨A6, c6, g.ps ++ [⟨A1, c1, PK, A2, c2, PV⟩]⟩ : Gv)]).map Gv.pr = (Tb.parts size (l.take (k + 1))).1) := hid (by
         rw [HPS.out, HNX.out]
         simp [Gv.pr, Pv.pr])
       try rw [hLn]
       try rw [hW7]
       clear hG7 hp7 hW7 hLn hne2 hne3 hneA hgp7 hrowA hltA hrA hAe hcA fz6 HO6 HGR6 HT6 HLL HPW HRW HIN hL ho6 hg6 hat6 HG6 HQ6 HP6 HS0 HSB HGV HPV HQV hb6 hgpV hgAV g1 g2 g3 hgsl
       go_wp2_with fail
       go_roundw
       case rel => exact ⟨k + 1, mq, _, c3, P ++ [⟨A6, c6, g.ps ++ [⟨A1, c1, PK, A2, c2, PV⟩]⟩], _, by omega, by go_num, rfl, rfl, hid ⟨HMQ.out.trans HML.out, HPRS.out, by rw [HPS.out, HNX.out]; simp only [Tb.plen]; omega⟩, HREL⟩
       case measure => simp [intOf]; omega
   · obtain rfl : k = l.length := by omega
     have HFIN : Hid (PartP w l size (.returned (.slice A' m c')) wr) := hid (by
       obtain ⟨e1, e2, _⟩ := HC.out
       rw [List.take_length] at e2
       exact ⟨A', c', gs, by rw [e1], HG.out.gr, e2⟩)
     go_wp2_with fail
     go_ret
     exact HFIN.out
namespace Tb
def emit (s : St) (g : List Pr) : St := close { s with opn := g }
def emits (gs : List (List Pr)) : St := gs.foldl emit ⟨[], [], [], 0, false⟩
theorem emit_eq (s : St) (g : List Pr) (h : g ≠ []) : emit s g = ⟨s.out ++ putL 68 (blkB 16 g), s.index ++ [⟨((g.getLast?).map Pr.k).getD [], nums [s.out.length, (putL 68 (blkB 16 g)).length]⟩], [], 0, s.bad || !fits (blkB 16 g)⟩ := by
 unfold emit close
 rw [if_neg h]
theorem close_any_n (s : St) (g : List Pr) (n : Int) (h : g ≠ []) : close { s with opn := g, n := n } = emit s g := by
 rw [emit_eq s g h]
 unfold close
 rw [if_neg h]
theorem emits_snoc (P : List (List Pr)) (g : List Pr) : emits (P ++ [g]) = emit (emits P) g := by unfold emits; rw [List.foldl_append]; rfl
theorem emits_succ (gs : List (List Pr)) (k : Nat) (h : k < gs.length) : emits (gs.take (k + 1)) = emit (emits (gs.take k)) gs[k] := by
 rw [List.take_succ_eq_append_getElem h, emits_snoc]
theorem run_parts (size : Int) (hs : 64 ≤ size) (l : List Rv) (k : Nat) (h : k ≤ l.length) :
   (k = 0) ∨ ∃ P g, g ≠ [] ∧ (∀ x ∈ P, x ≠ []) ∧ (parts size (l.take k)).1 = P ++ [g] ∧ run size (l.take k) = { emits P with opn := g, n := (parts size (l.take k)).2 } := by
 induction k with
 | zero => exact .inl rfl
 | succ k ih =>
   refine .inr ?_
   rw [parts_succ size l k (by omega), run_succ size l k (by omega)]
   rcases ih (by omega) with h0 | ⟨P, g, hg, hP, hp, hr⟩
   · subst h0
     refine ⟨[], [inner l[0]], by simp, by simp, ?_, ?_⟩
     · simp [pst, parts]
     · simp only [List.take_zero, run, parts, List.foldl_nil, pst, emits]
       unfold add
       rw [if_neg (by show ¬ size ≤ (0 : Int); omega)]
       simp
   · rw [hr]
     unfold pst add
     simp only [hp]
     by_cases hn : size ≤ (parts size (l.take k)).2
     · rw [if_pos (.inr hn), if_pos hn, close_any_n _ _ _ hg, ← emits_snoc]
       refine ⟨P ++ [g], [inner l[k]], by simp, fun x hx => ?_, by simp, ?_⟩
       · simp only [List.mem_append, List.mem_singleton] at hx
         rcases hx with h1 | h1
         · exact hP x h1
         · rw [h1]; exact hg
       · have e1 : (emits (P ++ [g])).opn = [] ∧ (emits (P ++ [g])).n = 0 := by rw [emits_snoc, emit_eq _ _ hg]; exact ⟨rfl, rfl⟩
         simp [e1.1, e1.2]
     · rw [if_neg (by simp; exact Int.not_le.1 hn), if_neg hn]
       exact ⟨P, g ++ [inner l[k]], by simp, hP, by simp, by simp⟩
theorem close_run (size : Int) (hs : 64 ≤ size) (l : List Rv) (hl : 0 < l.length) : close (run size l) = emits (parts size l).1 ∧ (∀ x ∈ (parts size l).1, x ≠ []) := by
 rcases run_parts size hs l l.length (Nat.le_refl _) with h0 | ⟨P, g, hg, hP, hp, hr⟩
 · omega
 · rw [List.take_length] at hp hr
   rw [hr, close_any_n _ _ _ hg, ← emits_snoc, hp]
   refine ⟨rfl, fun x hx => ?_⟩
   simp only [List.mem_append, List.mem_singleton] at hx
   rcases hx with h1 | h1
   · exact hP x h1
   · rw [h1]; exact hg
theorem emits_bad (gs : List (List Pr)) (h : ∀ x ∈ gs, x ≠ []) : (emits gs).bad = gs.any (fun g => !fits (blkB 16 g)) := by
 have key : ∀ k, k ≤ gs.length → (emits (gs.take k)).bad = (gs.take k).any (fun g => !fits (blkB 16 g)) := fun k => by
   induction k with
   | zero => intro _; rfl
   | succ k ih =>
     intro hk
     rw [emits_succ gs k (by omega), emit_eq _ _ (h _ (List.getElem_mem _)), List.take_succ_eq_append_getElem (by omega), List.any_append, ← ih (by omega)]
     simp
 have := key gs.length (Nat.le_refl _)
 rwa [List.take_length] at this
theorem emits_form (gs : List (List Pr)) (hne : gs ≠ []) (h : ∀ x ∈ gs, x ≠ []) (hf : ∀ x ∈ gs, fits (blkB 16 x) = true) : emits gs = ⟨(emits gs).out, (emits gs).index, [], 0, false⟩ := by
 have hb := emits_bad gs h
 rw [List.any_eq_false.2 (fun x hx => by simp [hf x hx])] at hb
 obtain ⟨P, g, rfl⟩ : ∃ P g, gs = P ++ [g] := ⟨gs.dropLast, gs.getLast hne, (List.dropLast_concat_getLast hne).symm⟩
 rw [emits_snoc, emit_eq _ _ (h g (by simp))] at hb ⊢
 simp only at hb ⊢
 rw [hb]
theorem build_over {l : List Rv} {size bits : Int} (hno : ¬ (size < 64 ∨ 32768 < size ∨ bits < 1 ∨ 32 < bits ∨ l.length < 1 ∨ 20000 < l.length ∨ l.any (fun r => !right r) = true)) (hs : sorted l = true) {g : List Pr} (hg : g ∈ (parts size l).1) (hf : fits (blkB 16 g) = false) : build l size bits = (2, []) := by
 obtain ⟨h1, h2⟩ := close_run size (by omega) l (by omega)
 unfold build
 rw [if_neg hno, if_neg (by rw [hs]; simp)]
 simp only
 rw [if_pos]
 rw [h1, emits_bad _ h2]
 have : (parts size l).1.any (fun g => !fits (blkB 16 g)) = true := List.any_eq_true.2 ⟨g, hg, by simp [hf]⟩
 rw [this]; rfl
theorem emits_bd (gs : List (List Pr)) (h : ∀ x ∈ gs, x ≠ []) (hb : ∀ x ∈ gs, ∀ p ∈ x, p.k.length ≤ 10000 ∧ p.v.length ≤ 10000) (hl : gs.length ≤ 20000) (k : Nat) (hk : k ≤ gs.length) :
   (emits (gs.take k)).out.length ≤ 100000 * k ∧ (emits (gs.take k)).index.length = k ∧ (∀ p ∈ (emits (gs.take k)).index, p.k.length ≤ 10000 ∧ p.v.length ≤ 10000) := by
 induction k with
 | zero => exact ⟨Nat.zero_le _, rfl, fun p hp => by cases hp⟩
 | succ k ih =>
   obtain ⟨i1, i2, i3⟩ := ih (by omega)
   have hm := List.getElem_mem (by omega : k < gs.length)
   rw [emits_succ gs k (by omega), emit_eq _ _ (h _ hm)]
   have hp := putL_len 68 (blkB 16 gs[k])
   refine ⟨by simp; omega, by simp [i2], fun p hp' => ?_⟩
   simp only [List.mem_append, List.mem_singleton] at hp'
   rcases hp' with h1 | h1
   · exact i3 p h1
   · subst h1
     refine ⟨?_, ?_⟩
     · show (((gs[k].getLast?).map Pr.k).getD []).length ≤ 10000
       rcases hl : gs[k].getLast? with _ | q
       · simp
       · have := hb _ hm q (List.mem_of_getLast? hl)
         simp; exact this.1
     · have := nums2_len (emits (gs.take k)).out.length (putL 68 (blkB 16 gs[k])).length (by omega) (by omega)
       show (nums _).length ≤ 10000
       omega
theorem parts_bytes (size : Int) (l : List Rv) (hr : ∀ r ∈ l, right r = true) (k : Nat) (h : k ≤ l.length) : ∀ x ∈ (parts size (l.take k)).1, ∀ p ∈ x, p.k.length ≤ 10000 ∧ p.v.length ≤ 10000 := by
 induction k with
 | zero => intro x hx; simp [parts] at hx
 | succ k ih =>
   rw [parts_succ size l k (by omega)]
   have hi := ih (by omega)
   have hin := inner_bd (hr _ (List.getElem_mem (by omega : k < l.length)))
   unfold pst
   split
   · intro x hx p hp
     simp only [List.mem_append, List.mem_singleton] at hx
     rcases hx with h1 | h1
     · exact hi x h1 p hp
     · subst h1
       have : p = inner l[k] := by simpa using hp
       subst this; exact hin
   · intro x hx p hp
     simp only [List.mem_append, List.mem_singleton] at hx
     rcases hx with h1 | h1
     · exact hi x (List.dropLast_subset _ h1) p hp
     · subst h1
       simp only [List.mem_append, List.mem_singleton] at hp
       rcases hp with h2 | h2
       · rcases hl : (parts size (l.take k)).1.getLast? with _ | q
         · rw [hl] at h2; simp at h2
         · rw [hl] at h2
           exact hi q (List.mem_of_getLast? hl) p h2
       · subst h2; exact hin
theorem parts_lens (size : Int) (l : List Rv) (k : Nat) (h : k ≤ l.length) : ∀ x ∈ (parts size (l.take k)).1, x.length ≤ k := by
 induction k with
 | zero => intro x hx; simp [parts] at hx
 | succ k ih =>
   rw [parts_succ size l k (by omega)]
   have hi := ih (by omega)
   have hla := parts_last size l k (by omega)
   unfold pst
   split
   · intro x hx
     simp only [List.mem_append, List.mem_singleton] at hx
     rcases hx with h1 | h1
     · have := hi x h1; omega
     · subst h1; simp
   · intro x hx
     simp only [List.mem_append, List.mem_singleton] at hx
     rcases hx with h1 | h1
     · have := hi x (List.dropLast_subset _ h1); omega
     · subst h1; simp; omega
theorem parts_pos (size : Int) (hs : 64 ≤ size) (l : List Rv) (hl : 0 < l.length) : (parts size l).1 ≠ [] := by
 rcases run_parts size hs l l.length (Nat.le_refl _) with h0 | ⟨P, g, _, _, hp, _⟩
 · omega
 · rw [List.take_length] at hp
   rw [hp]; simp
end Tb
theorem rblk_bytes (A : Option Addr) (c : Nat) (l : List Pv) (w : World) (h : RdPv w w.heap.size A l) (hln : l.length ≤ 1000000) (hsz : ∀ p ∈ l, p.k.length ≤ 100000 ∧ p.v.length ≤ 100000) :
   Calls Tryz.prog 64 #[.slice A l.length c, .int .i64 16] w fun e w' => ∃ A1 c1 x, e = .returned (.tuple #[.slice A1 (Tb.blkB 16 (l.map Pv.pr)).length c1, .int .i64 x]) ∧ Own w' w.heap.size 5 A1 c1 (Tb.blkB 16 (l.map Pv.pr)) ∧ Below w.heap.size w w' :=
 (rblkbuild_any 16 (by omega) A c l w h hln hsz).mono fun e w' h => by
   obtain ⟨hbe, ⟨hn, he⟩ | ⟨hy, A1, c1, he, ho⟩⟩ := h
   · have hn' : ¬ Blk.err 16 (l.map Pv.pr) = 0 := hn
     unfold Tb.blkB
     rw [if_neg hn']
     exact ⟨none, 0, _, he, Own.nil _ _ _, hbe⟩
   · have hy' : Blk.err 16 (l.map Pv.pr) = 0 := hy
     unfold Tb.blkB
     rw [if_pos hy']
     exact ⟨A1, c1, 0, he, ho, hbe⟩
structure ER (w2 : World) (B : Nat) (OA : Option Addr) (OC : Nat) (out : List UInt8) (XA : Option Addr) (XC : Nat) (IX : List Pv) (wr : World) : Prop where
 out : Own wr B 5 OA OC out
 idx : OwnS Pv.cells 2 wr B 77 XA XC IX
 key : ∀ q ∈ IX, RdB w2 B q.kA q.k ∧ q.k.length ≤ q.kc ∧ q.kc ≤ 9223372036854775807
 val : ∀ q ∈ IX, Own wr B 5 q.vA q.vc q.v ∧ Off [blk OA, blk XA] (blk q.vA)
 dis : Off [blk XA] (blk OA)
 below : Below B w2 wr
 size : B ≤ wr.heap.size
section
variable {w2 wr w9 : World} {B : Nat} {OA XA : Option Addr} {OC XC : Nat} {out : List UInt8} {IX : List Pv}
theorem ER.call (h : ER w2 B OA OC out XA XC IX wr) (hb : Below wr.heap.size wr w9) : ER w2 B OA OC out XA XC IX w9 :=
 ⟨h.out.below hb, h.idx.below hb, h.key, fun q hq => ⟨(h.val q hq).1.below hb, (h.val q hq).2⟩, h.dis, h.below.trans (hb.mono h.size), Nat.le_trans h.size hb.size⟩
theorem ER.dis2 (h : ER w2 B OA OC out XA XC IX wr) : blk XA = none ∨ blk XA ≠ blk OA := by
 rcases hx : blk XA with _ | g
 · exact .inl rfl
 · refine .inr (fun e => h.dis g e.symm (by simp [hx]))
theorem ER.rdpv (h : ER w2 B OA OC out XA XC IX wr) : RdPv wr wr.heap.size XA IX :=
 ⟨h.idx.rd, fun q hq => ⟨((h.key q hq).1.below h.below (Nat.le_refl _)).more h.size, (h.val q hq).1.rd, (h.key q hq).2.1, (h.val q hq).1.cap, (h.key q hq).2.2, (h.val q hq).1.cap_le⟩⟩
theorem ER.app_out (h : ER w2 B OA OC out XA XC IX wr) {A' : Option Addr} {c' : Nat} {L : List UInt8} (ho : Own w9 B 5 A' c' L) (hg : wr.grownBy w9 (blk OA)) (hat : blk A' = blk OA ∨ blk A' = some wr.heap.size) : ER w2 B A' c' L XA XC IX w9 := by
 refine ⟨ho, h.idx.kept hg h.dis2, h.key, fun q hq => ?_, fun g hgg hm => ?_, h.below.grown hg h.size (fun k hk => (h.out.blk_ge k hk).1), Nat.le_trans h.size hg.size⟩
 · obtain ⟨v1, v2⟩ := h.val q hq
   refine ⟨v1.kept hg (v2.ne (by simp)), v2.new (fun g hgg => (v1.blk_ge g hgg).2) (fun r hr => ?_)⟩
   simp only [List.mem_cons, List.not_mem_nil, or_false] at hr ⊢
   rcases hr with h1 | h1
   · rcases hat with h2 | h2
     · exact .inl (.inl (h1.trans h2))
     · exact .inr (h1.trans h2)
   · exact .inl (.inr h1)
 · rcases hat with h1 | h1
   · exact h.dis g (h1 ▸ hgg) hm
   · rw [h1] at hgg; injection hgg with hgg
     have hm' : some g = blk XA := by simpa using hm
     have := (h.idx.blk_ge g hm'.symm).2
     omega
theorem ER.app_idx (h : ER w2 B OA OC out XA XC IX wr) {q : Pv} (hk : RdB w2 B q.kA q.k ∧ q.k.length ≤ q.kc ∧ q.kc ≤ 9223372036854775807) (hv : Own wr B 5 q.vA q.vc q.v) (hvo : Off [blk OA, blk XA] (blk q.vA))
   {A' : Option Addr} {c' : Nat} (ho : OwnS Pv.cells 2 w9 B 77 A' c' (IX ++ [q])) (hg : wr.grownBy w9 (blk XA)) (hat : blk A' = blk XA ∨ blk A' = some wr.heap.size) : ER w2 B OA OC out A' c' (IX ++ [q]) w9 := by
 have hd : blk OA = none ∨ blk OA ≠ blk XA := h.dis.ne (by simp)
 have hR : ∀ r ∈ ([blk OA, blk A'] : List (Option Nat)), r ∈ ([blk OA, blk XA] : List (Option Nat)) ∨ r = some wr.heap.size := fun r hr => by
   simp only [List.mem_cons, List.not_mem_nil, or_false] at hr ⊢
   rcases hr with h1 | h1
   · exact .inl (.inl h1)
   · rcases hat with h2 | h2
     · exact .inl (.inr (h1.trans h2))
     · exact .inr (h1.trans h2)
 refine ⟨h.out.kept hg hd, ho, fun p hp => ?_, fun p hp => ?_, fun g hgg hm => ?_, h.below.grown hg h.size (fun k hk => (h.idx.blk_ge k hk).1), Nat.le_trans h.size hg.size⟩
 · simp only [List.mem_append, List.mem_singleton] at hp
   rcases hp with h1 | h1
   · exact h.key p h1
   · rw [h1]; exact hk
 · simp only [List.mem_append, List.mem_singleton] at hp
   rcases hp with h1 | h1
   · obtain ⟨v1, v2⟩ := h.val p h1
     exact ⟨v1.kept hg (v2.ne (by simp)), v2.new (fun g hgg => (v1.blk_ge g hgg).2) hR⟩
   · rw [h1]; exact ⟨hv.kept hg (hvo.ne (by simp)), hvo.new (fun g hgg => (hv.blk_ge g hgg).2) hR⟩
 · have hm' : some g = blk A' := by simpa using hm
   rcases hat with h1 | h1
   · exact h.dis g hgg (by simp [hm'.trans h1])
   · have := hm'.trans h1
     injection this with this
     have := (h.out.blk_ge g hgg).2
     omega
end
theorem gv_fm (gs : List Gv) : gs.flatMap Gv.cells = gs.map (fun g => Value.slice g.A g.ps.length g.c) := by
 induction gs with
 | nil => rfl
 | cons a t ih => rw [List.flatMap_cons, ih]; rfl
theorem GR.at_ {w wr : World} {base : Nat} {A : Option Addr} {c : Nat} {gs : List Gv} (h : GR w base A c gs wr) (hl : 0 < gs.length) : ∃ gA, A = some ⟨gA, 0, none⟩ ∧ gA < wr.heap.size ∧ ∀ k (hk : k < gs.length), wr.cell? ⟨gA, k, none⟩ = some (.slice gs[k].A gs[k].ps.length gs[k].c) := by
 obtain ⟨gA, cur, rfl, _, hlt, hh⟩ := h.row.form hl
 refine ⟨gA, rfl, hlt, fun k hk => ?_⟩
 have h1 := World.ownsRow.cells (h.row) (g := gA) rfl k (.slice gs[k].A gs[k].ps.length gs[k].c) (by
   rw [gv_fm, List.getElem?_map, List.getElem?_eq_getElem hk]; rfl)
 rw [← h1]
 congr 1
 unfold Addr.add
 split
 · rename_i h0; rw [h0]
 · simp
theorem GR.rdp {w wr : World} {base : Nat} {A : Option Addr} {c : Nat} {gs : List Gv} (h : GR w base A c gs wr) {g : Gv} (hg : g ∈ gs) : RdPv wr wr.heap.size g.A g.ps := ⟨(h.inn g hg).rd, fun q hq => (h.prs g hg q hq).ok⟩
structure FR (w7 : World) (B n : Nat) (OA : Option Addr) (OC : Nat) (out : List UInt8) (wr : World) : Prop where
 out : Own wr B 5 OA OC out
 keep : ∀ g, n ≤ g → g < w7.heap.size → wr.heap[g]? = w7.heap[g]?
 off : ∀ g, blk OA = some g → g < n ∨ w7.heap.size ≤ g
 below : Below B w7 wr
 base : B ≤ w7.heap.size
 size : w7.heap.size ≤ wr.heap.size
theorem FR.call {w7 wr w9 : World} {B n : Nat} {OA : Option Addr} {OC : Nat} {out : List UInt8} (h : FR w7 B n OA OC out wr) (hb : Below wr.heap.size wr w9) : FR w7 B n OA OC out w9 :=
 ⟨h.out.below hb, fun g h1 h2 => (hb.block g (Nat.lt_of_lt_of_le h2 h.size)).trans (h.keep g h1 h2), h.off, h.below.trans (hb.mono (Nat.le_trans h.base h.size)), h.base, Nat.le_trans h.size hb.size⟩
theorem FR.app {w7 wr w9 : World} {B n : Nat} {OA A' : Option Addr} {OC c' : Nat} {out L : List UInt8} (h : FR w7 B n OA OC out wr) (ho : Own w9 B 5 A' c' L) (hg : wr.grownBy w9 (blk OA)) (hat : blk A' = blk OA ∨ blk A' = some wr.heap.size) : FR w7 B n A' c' L w9 := by
 refine ⟨ho, fun g h1 h2 => (hg.block g (Nat.lt_of_lt_of_le h2 h.size) (fun e => ?_)).trans (h.keep g h1 h2), fun g hgg => ?_, h.below.grown hg (Nat.le_trans h.base h.size) (fun k hk => (h.out.blk_ge k hk).1), h.base, Nat.le_trans h.size hg.size⟩
 · rcases h.off g e.symm with h3 | h3 <;> omega
 · rcases hat with h1 | h1
   · exact h.off g (h1 ▸ hgg)
   · rw [h1] at hgg; injection hgg with hgg
     have := h.size
     exact .inr (by omega)
theorem FR.own {w7 wr : World} {B n c : Nat} {OA A : Option Addr} {OC base : Nat} {out l : List UInt8} (h : FR w7 B n OA OC out wr) (ho : Own w7 base 5 A c l) (hn : n ≤ base) : Own wr base 5 A c l :=
 own_keep ho (fun g hg => h.keep g (Nat.le_trans hn (ho.blk_ge g hg).1) (ho.blk_ge g hg).2)
theorem four_cells {w7 w8 : World} {B n H b0 b1 b2 fc xc nc : Nat} {OA FA XB NA : Option Addr} {OC : Nat} {out BB XX N : List UInt8} (h : FR w7 B n OA OC out w8) (hn : n ≤ H) (hz : w7.heap.size = H + 2)
   (hp : w7.heap[H]? = some (.cells #[.slice FA BB.length fc, .slice XB XX.length xc, .slice NA N.length nc] 22)) (hk : w7.heap[H + 1]? = some (.cells #[.int .u8 70, .int .u8 73, .int .u8 90] 5))
   (o0 : Own w7 b0 5 FA fc BB) (o1 : Own w7 b1 5 XB xc XX) (o2 : Own w7 b2 5 NA nc N) (h0 : n ≤ b0) (h1 : n ≤ b1) (h2 : n ≤ b2) (k : Nat) (hlt : k < 3) :
   ∃ d : UInt8 × Bs, [((70, ⟨FA, fc, BB⟩) : UInt8 × Bs), (73, ⟨XB, xc, XX⟩), (90, ⟨NA, nc, N⟩)][k]? = some d ∧ w8.cell? ⟨H, k, none⟩ = some (.slice d.2.A d.2.l.length d.2.c) ∧ w8.cell? ⟨H + 1, k, none⟩ = some (.int .u8 (d.1.toNat : Int)) ∧ RdB w8 w8.heap.size d.2.A d.2.l := by
 have e0 := (h.keep H hn (by omega)).trans hp
 have e1 := (h.keep (H + 1) (by omega) (by omega)).trans hk
 match k, hlt with
 | 0, _ => exact ⟨_, rfl, by rw [cell_of_row _ H 0 _ _ (0, 0) e0]; rfl, by rw [cell_of_row _ (H + 1) 0 _ _ (0, 0) e1]; rfl, (h.own o0 h0).rd⟩
 | 1, _ => exact ⟨_, rfl, by rw [cell_of_row _ H 1 _ _ (0, 0) e0]; rfl, by rw [cell_of_row _ (H + 1) 1 _ _ (0, 0) e1]; rfl, (h.own o1 h1).rd⟩
 | 2, _ => exact ⟨_, rfl, by rw [cell_of_row _ H 2 _ _ (0, 0) e0]; rfl, by rw [cell_of_row _ (H + 1) 2 _ _ (0, 0) e1]; rfl, (h.own o2 h2).rd⟩
theorem four_end {R : Int × List UInt8} {out BB XX N : List UInt8} {FA XB NA : Option Addr} {fc xc nc : Nat} (hf : R = if (((false || !decide (BB.length ≤ 65536)) || !decide (XX.length ≤ 65536)) || !decide (N.length ≤ 65536)) = true then (2, []) else (0, ((out ++ Tb.putL 70 BB) ++ Tb.putL 73 XX) ++ Tb.putL 90 N))
   (D : List (UInt8 × Bs)) (hD : D = [(70, ⟨FA, fc, BB⟩), (73, ⟨XB, xc, XX⟩), (90, ⟨NA, nc, N⟩)]) :
   ((∀ j (hj : j < D.length), j < 3 → Tb.fits D[j].2.l = true) → R = (0, out ++ (D.take 3).flatMap (fun p => Tb.putL p.1 p.2.l))) ∧ (∀ p ∈ D, ¬ p.2.l.length ≤ 65536 → R = (2, [])) := by
 subst hD
 refine ⟨fun h => ?_, fun p hp hn => ?_⟩
 · have g0 : Tb.fits BB = true := h 0 (by simp) (by omega)
   have g1 : Tb.fits XX = true := h 1 (by simp) (by omega)
   have g2 : Tb.fits N = true := h 2 (by simp) (by omega)
   unfold Tb.fits at g0 g1 g2
   rw [hf, g0, g1, g2]
   simp
 · simp only [List.mem_cons, List.not_mem_nil, or_false] at hp
   rw [hf, if_pos]
   rcases hp with rfl | rfl | rfl
   · simp only [Bool.or_eq_true, Bool.not_eq_true', decide_eq_false_iff_not]; exact .inl (.inl (.inr hn))
   · simp only [Bool.or_eq_true, Bool.not_eq_true', decide_eq_false_iff_not]; exact .inl (.inr hn)
   · simp only [Bool.or_eq_true, Bool.not_eq_true', decide_eq_false_iff_not]; exact .inr hn
theorem len_flat {α : Type} {f : α → List UInt8} {c : Nat} : ∀ (l : List α), (∀ p ∈ l, (f p).length ≤ c) → (l.flatMap f).length ≤ l.length * c
 | [], _ => by simp
 | a :: l, h => by
   rw [List.flatMap_cons, List.length_append, List.length_cons, Nat.succ_mul]
   have h1 := len_flat l (fun p hp => h p (by simp [hp]))
   have h2 := h a (by simp)
   omega
theorem rfput_yes (k : UInt8) (A : Option Addr) (c : Nat) (b : List UInt8) (w : World) (h : RdB w w.heap.size A b) (hl : b.length ≤ 65536) :
   Calls Tryz.prog 69 #[.int .u8 (k.toNat : Int), .slice A b.length c] w fun e w' => ∃ A c, e = .returned (.tuple #[.slice A (Frm.put k b).length c, .int .i64 0]) ∧ Own w' w.heap.size 5 A c (Frm.put k b) ∧ Below w.heap.size w w' :=
 (rfput_any k A c b w h (by omega)).mono fun e w' h => by
   obtain ⟨hb, ⟨h1, _⟩ | ⟨_, A, c, he, ho⟩⟩ := h
   · rw [decide_eq_false_iff_not] at h1; omega
   · exact ⟨A, c, he, ho, hb⟩
theorem rfput_no (k : UInt8) (A : Option Addr) (c : Nat) (b : List UInt8) (w : World) (h : RdB w w.heap.size A b) (hl : b.length ≤ 70368744177664) (hn : ¬ b.length ≤ 65536) :
   Calls Tryz.prog 69 #[.int .u8 (k.toNat : Int), .slice A b.length c] w fun e w' => e = .returned (.tuple #[.slice none 0 0, .int .i64 1]) ∧ Below w.heap.size w w' :=
 (rfput_any k A c b w h hl).mono fun e w' h => by
   obtain ⟨hb, ⟨_, he⟩ | ⟨h1, _⟩⟩ := h
   · exact ⟨he, hb⟩
   · rw [decide_eq_true_eq] at h1; exact absurd h1 hn
theorem rframe_size : (Tryz.prog.info? 96).map (fun x => x.size) = some 2 := by kernel_rfl
theorem rtakeTextS_cut (A : Option Addr) (n c : Nat) (b : List UInt8) (w : World) (hn : n = b.length) (h : RdB w w.heap.size A b) (hl : b.length ≤ 140737488355328) (hc : b.length ≤ c) (hcc : c ≤ 9223372036854775807) :
   Calls Tryz.prog 63 #[.slice A n c] w (TakenS w A (cutT (Cod.take b))) := by subst hn; exact rtakeTextS_any A c b w h hl hc hcc
set_option maxHeartbeats 2000000 in
set_option maxRecDepth 100000 in
theorem rftake_any (A : Option Addr) (c : Nat) (b : List UInt8) (w : World) (h : RdB w w.heap.size A b) (hl : b.length ≤ 140737488355328) (hc : b.length ≤ c) (hcc : c ≤ 9223372036854775807) :
   Calls Tryz.prog 62 #[.slice A b.length c] w (TakenR w A (Frm.take b)) := by
 have HAL : Hid (∀ o, Below w.heap.size w (w.alloc o)) := hid (fun o => (Below.refl _ _).alloc (Nat.le_refl _) o)
 rcases b with _ | ⟨k, b⟩
 · go_enter Tryz.func62, Tryz.ntmps62
   go_wp2_with fail
   refine bodyPost_ret (results_c3 rfl _ _ w.heap.size 96 #[.int .u8 0, .slice none 0 0] _ _ rfl (heap_alloc_new _ _) Tryz.underlying96 rfl rframe_size) rfl ?_
   exact takenR_no rfl (HAL.out _)
 · obtain ⟨g, off, rfl, hab, hcell⟩ := h.at_ (k := 0) (by simp)
   have hcut := h.cut (k := 1) (c := c) (by simp) hc
   simp only [List.drop_succ_cons, List.drop_zero] at hcut
   have HH := hid h
   obtain ⟨n, hn⟩ : ∃ n, n = b.length := ⟨_, rfl⟩
   have hcell0 : w.cell? ⟨g, off, none⟩ = some (.int .u8 (k.toNat : Int)) := by simpa using hcell
   have hln : (k :: b).length = n + 1 := by rw [hn]; rfl
   rw [hln] at hl hc ⊢
   have h1c : (1 : Int) ≤ (c : Int) := by omega
   obtain ⟨kn, hkn⟩ : ∃ kn, kn = k.toNat := ⟨_, rfl⟩
   rw [← hkn] at hcell0
   have HC0 := hid hcell0
   have HKN := hid hkn
   by_cases hc1 : c = 1
   · subst hc1
     have hn0 : n = 0 := by omega
     subst hn0
     have hb0 : b = [] := List.eq_nil_of_length_eq_zero hn.symm
     subst hb0
     have hx : cutT (Cod.take []) = none := rfl
     have HE := hid (take_cons_none (k := k) hx)
     have KT : Hid (∀ A w, Calls Tryz.prog 63 #[.slice A 0 0] w (TakenS w A none)) := hid (fun A w => by
       have := rtakeTextS_cut A 0 0 [] w rfl RdB.nil (by simp) (by simp) (by omega)
       rwa [hx] at this)
     clear hcell hcut h hn hln hkn hx
     go_enter Tryz.func62, Tryz.ntmps62
     go_wp2_with fail
     refine (KT.out _ _).mono ?_
     intro e w1 hh
     obtain ⟨hb1, rfl⟩ := takenS_none hh
     have hcw : w1.heap[w.heap.size]? = some (.cells #[.int .u8 0, .slice none 0 0] 96) := (hb1.block _ (by simp)).trans (heap_alloc_new _ _)
     have HCW := hid hcw
     have HB1 : Hid (Below w.heap.size w w1) := hid ((HAL.out _).trans (hb1.mono (by simp)))
     have q0 := cell_of_row w1 w.heap.size 0 _ _ (0, 0) hcw
     have q1 := cell_of_row w1 w.heap.size 1 _ _ (0, 0) hcw
     have f0 := frozen_of_row w1 w.heap.size 0 _ _ hcw
     have f1 := frozen_of_row w1 w.heap.size 1 _ _ hcw
     simp only [List.getElem?_toArray, List.getElem?_cons_zero, List.getElem?_cons_succ] at q0 q1
     clear hh hcw hb1
     go_wp2_with fail
     refine bodyPost_ret (results_c3 rfl _ _ w.heap.size 96 #[.int .u8 0, .slice none 0 0] _ _ rfl (heap_set2 HCW.out) Tryz.underlying96 rfl rframe_size) rfl ?_
     exact takenR_no HE.out ((HB1.out.setCell (by simp) _).setCell (by simp) _)
   · rw [if_neg hc1] at hcut
     have HCUT := hid hcut
     have HN := hid hn
     clear hcell hcut h hn hln hcell0 hkn
     go_enter Tryz.func62, Tryz.ntmps62
     go_wp2_with fail
     refine (rtakeTextS_cut _ _ _ b _ HN.out ((HCUT.out.alloc (Nat.le_refl _) _).more (by simp)) (by have := HN.out; omega) (by have := HN.out; omega) (by omega)).mono ?_
     cases hx : cutT (Cod.take b) with
     | none =>
       intro e w1 hh
       obtain ⟨hb1, rfl⟩ := takenS_none hh
       have HE := hid (take_cons_none (k := k) hx)
       have hcw : w1.heap[w.heap.size]? = some (.cells #[.int .u8 0, .slice none 0 0] 96) := (hb1.block _ (by simp)).trans (heap_alloc_new _ _)
       have HCW := hid hcw
       have HB1 : Hid (Below w.heap.size w w1) := hid ((HAL.out _).trans (hb1.mono (by simp)))
       have q0 := cell_of_row w1 w.heap.size 0 _ _ (0, 0) hcw
       have q1 := cell_of_row w1 w.heap.size 1 _ _ (0, 0) hcw
       have f0 := frozen_of_row w1 w.heap.size 0 _ _ hcw
       have f1 := frozen_of_row w1 w.heap.size 1 _ _ hcw
       simp only [List.getElem?_toArray, List.getElem?_cons_zero, List.getElem?_cons_succ] at q0 q1
       clear hx hh hcw hb1
       go_wp2_with fail
       refine bodyPost_ret (results_c3 rfl _ _ w.heap.size 96 #[.int .u8 0, .slice none 0 0] _ _ rfl (heap_set2 HCW.out) Tryz.underlying96 rfl rframe_size) rfl ?_
       exact takenR_no HE.out ((HB1.out.setCell (by simp) _).setCell (by simp) _)
     | some v =>
       obtain ⟨t, r⟩ := v
       intro e w1 hh
       obtain ⟨hb1, A1, c1, B1, d1, rfl, ho1, hr1, hd1, hdd1, hf1⟩ := takenS_some hh
       have hcw : w1.heap[w.heap.size]? = some (.cells #[.int .u8 0, .slice none 0 0] 96) := (hb1.block _ (by simp)).trans (heap_alloc_new _ _)
       have HCW := hid hcw
       have HB1 : Hid (Below w.heap.size w w1) := hid ((HAL.out _).trans (hb1.mono (by simp)))
       have HO1 : Hid (Own w1 (w.heap.size + 1) 5 A1 c1 t) := hid (by simpa using ho1)
       have HFG : Hid (∀ x, blk B1 = some x → x ≠ w.heap.size) := hid (fun x hx => by
         rcases hf1 x hx with h1 | ⟨h1, _⟩
         · have : g = x := by simpa [blk] using h1
           omega
         · have : w.heap.size + 1 ≤ x := (by simpa using h1); omega)
       have HR1 := hid hr1
       have q0 := cell_of_row w1 w.heap.size 0 _ _ (0, 0) hcw
       have q1 := cell_of_row w1 w.heap.size 1 _ _ (0, 0) hcw
       have f0 := frozen_of_row w1 w.heap.size 0 _ _ hcw
       have f1 := frozen_of_row w1 w.heap.size 1 _ _ hcw
       simp only [List.getElem?_toArray, List.getElem?_cons_zero, List.getElem?_cons_succ] at q0 q1
       have htx := Frm.cutT_text hx
       have HX := hid hx
       have HTX := hid htx
       clear hx hh hcw hb1 hf1 hr1 ho1 htx
       by_cases hr : (r.length : Int) < 4
       · have HE := hid (take_cons_no (k := k) HX.out (fun h => by have := h.2.1; omega))
         go_wp2_with fail
         refine bodyPost_ret (results_c3 rfl _ _ w.heap.size 96 #[.int .u8 0, .slice none 0 0] _ _ rfl (heap_set2 HCW.out) Tryz.underlying96 rfl rframe_size) rfl ?_
         exact takenR_no HE.out ((HB1.out.setCell (by simp) _).setCell (by simp) _)
       by_cases ht : (65536 : Int) < (t.length : Int)
       · have HE := hid (take_cons_no (k := k) HX.out (fun h => by have := h.1; omega))
         go_wp2_with fail
         refine bodyPost_ret (results_c3 rfl _ _ w.heap.size 96 #[.int .u8 0, .slice none 0 0] _ _ rfl (heap_set2 HCW.out) Tryz.underlying96 rfl rframe_size) rfl ?_
         exact takenR_no HE.out ((HB1.out.setCell (by simp) _).setCell (by simp) _)
       have hz1 : w.heap.size < w1.heap.size := by have := HCW.out; rw [Array.getElem?_eq_some_iff] at this; exact this.1
       have HZ1 := hid hz1
       have c0 := (HB1.out.cell (p := ⟨g, off, none⟩) hab).trans HC0.out
       have KP := hid (rfput_yes k A1 c1 t w1 (HO1.out.rd) (by omega))
       rw [← HKN.out] at KP
       obtain ⟨F, hF⟩ : ∃ F, F = Frm.put k t := ⟨_, rfl⟩
       rw [← hF] at KP
       have htk : (k :: b).take (n + 1 - r.length + 4) = Frm.head k t ++ r.take 4 ∧ (k :: b).drop (n + 1 - r.length + 4) = r.drop 4 ∧ r.length ≤ n := by
         have h1 := HTX.out
         have h2 := HN.out
         have h3 : n = (Cod.text t).length + r.length := by rw [h2, h1, List.length_append]
         have h4 : n + 1 - r.length + 4 = (Frm.head k t).length + 4 := by unfold Frm.head; rw [List.length_cons]; omega
         have h5 : k :: b = Frm.head k t ++ r := by rw [h1]; rfl
         refine ⟨?_, ?_, by omega⟩
         · rw [h4, h5, List.take_append, List.take_of_length_le (by omega)]; congr 2; omega
         · rw [h4, h5, List.drop_append, List.drop_eq_nil_of_le (by omega)]; simp
       obtain ⟨X, hX⟩ : ∃ X, X = n + 1 - r.length + 4 := ⟨_, rfl⟩
       rw [← hX] at htk
       have hXn : X ≤ n + 1 := by omega
       have HTK := hid htk
       have HFI : Hid (F = (k :: b).take X ↔ r.take 4 = Frm.be4 (Chk.sum (Frm.head k t))) := hid (by
         rw [hF, HTK.out.1, Frm.put]
         constructor
         · intro h; exact (List.append_cancel_left h).symm
         · intro h; rw [h])
       have hrn := htk.2.2
       have hsum : IntKind.i64.wrap ((n : Int) + 1 - (r.length : Int) + 4) = (X : Int) := by rw [IntKind.wrap_i64]; omega
       have hsum2 : (n : Int) + 1 - (r.length : Int) + 4 = (X : Int) := by omega
       have HRT : Hid (RdB w w.heap.size (some ⟨g, off, none⟩) ((k :: b).take X)) := hid (HH.out.take (by have := HN.out; rw [List.length_cons]; omega))
       have HLT : Hid (((k :: b).take X).length = X) := hid (by have := HN.out; rw [List.length_take, List.length_cons]; omega)
       clear htk hX hF
       go_wp2_with fail
       refine KP.out.mono ?_
       rintro e w3 ⟨PA, pc, rfl, hoP, hb3⟩
       have hcw3 := (hb3.block _ HZ1.out).trans HCW.out
       have HCW3 := hid hcw3
       have HB3 := hid (HB1.out.trans (hb3.mono HB1.out.size))
       have c03 := (HB3.out.cell (p := ⟨g, off, none⟩) hab).trans HC0.out
       have q0 := cell_of_row w3 w.heap.size 0 _ _ (0, 0) hcw3
       have q1 := cell_of_row w3 w.heap.size 1 _ _ (0, 0) hcw3
       have f0 := frozen_of_row w3 w.heap.size 0 _ _ hcw3
       have f1 := frozen_of_row w3 w.heap.size 1 _ _ hcw3
       simp only [List.getElem?_toArray, List.getElem?_cons_zero, List.getElem?_cons_succ] at q0 q1
       have HO3 := hid (HO1.out.below hb3)
       obtain ⟨SF, hSF⟩ : ∃ SF : ByteArray, SF = ⟨F.toArray⟩ := ⟨_, rfl⟩
       obtain ⟨SB, hSB⟩ : ∃ SB : ByteArray, SB = ⟨((k :: b).take X).toArray⟩ := ⟨_, rfl⟩
       have HS : Hid (∀ w', Below w3.heap.size w3 w' → (convert 22 9 (.slice PA F.length pc)).run Tryz.prog w' = .ok (.string SF) w' ∧ (convert 22 9 (.slice (some ⟨g, off, none⟩) X c)).run Tryz.prog w' = .ok (.string SB) w' ∧ Below w3.heap.size w3 w') := hid (fun w' hb => by
         have s1 := strB_of (c := pc) (hoP.rd.below hb (Nat.le_refl _))
         have s2 := strB_of (c := c) (HRT.out.below (HB3.out.trans (hb.mono HB3.out.size)) (Nat.le_refl _))
         unfold StrB at s1 s2
         rw [HLT.out, ← hSB] at s2
         rw [← hSF] at s1
         exact ⟨s1, s2, hb⟩)
       have hX0 : (0 : Int) ≤ (X : Int) := by omega
       have hX1 : (X : Int) ≤ (c : Int) := by omega
       have hk0 : (0 : Int) < (n : Int) + 1 := by omega
       clear hcw3 hb3 hoP KP hsum hsum2 c0
       by_cases hfx : F = (k :: b).take X
       · have HE := hid (take_cons_yes (k := k) HX.out ⟨by omega, by omega, HFI.out.1 hfx⟩)
         have hss : SB = SF := by rw [hSB, hSF, ← hfx]
         subst hss
         clear hSF hSB hfx
         go_wp2_with fail
         go_region_held (fun w' => (convert 22 9 (.slice PA F.length pc)).run Tryz.prog w' = .ok (.string SB) w' ∧ (convert 22 9 (.slice (some ⟨g, off, none⟩) X c)).run Tryz.prog w' = .ok (.string SB) w' ∧ Below w3.heap.size w3 w') (first | exact HS.out _ ((Below.refl _ _).drew) | exact HS.out _ (Below.refl _ _)) (fail)
         have hr4 := HH.out.cut (k := X) (c := c) (by have := HN.out; rw [List.length_cons]; omega) (by have := HN.out; rw [List.length_cons]; omega)
         rw [HTK.out.2.1] at hr4
         have HRL : Hid ((r.drop 4).length = n + 1 - X) := hid (by rw [← HTK.out.2.1, List.length_drop, List.length_cons, ← HN.out])
         have HK : Hid (((w3.setCell ⟨w.heap.size, 0, none⟩ (.int .u8 (kn : Int))).setCell ⟨w.heap.size, 1, none⟩ (.slice A1 t.length c1)).cell? ⟨g, off, none⟩ = some (.int .u8 (kn : Int))) := hid (by
           rw [World.cell?_setCell_other _ _ _ _ (fun e => by injection e with e1; omega), World.cell?_setCell_other _ _ _ _ (fun e => by injection e with e1; omega)]
           exact c03)
         have hX2 : (X : Int) ≤ (n : Int) + 1 := by omega
         by_cases hcX : c = X
         · subst hcX
           rw [if_pos rfl] at hr4
           have HR4 := hid ((hr4.below HB3.out (Nat.le_refl _)).more HB3.out.size)
           clear hr4
           go_wp2_with fail
           go_region_held (fun w' => w'.cell? ⟨g, off, none⟩ = some (.int .u8 (kn : Int))) (first | exact c03 | exact HK.out) (fail)
           go_wp2_with fail
           refine bodyPost_ret (results_c3 rfl _ _ w.heap.size 96 #[.int .u8 (kn : Int), .slice A1 t.length c1] _ _ rfl (heap_set2 HCW3.out) Tryz.underlying96 rfl rframe_size) rfl ?_
           rw [HE.out]
           refine ⟨((HB3.out.setCell (by simp) _).setCell (by simp) _).drew.drew, A1, c1, some ⟨g, off, none⟩, 0, ?_, own_le2 (own_sets HO3.out (by omega) _ _), (rdB_sets2 HR4.out (fun x hx => by have : g = x := (by simpa [blk] using hx); omega) _ _).more (by simp), by have := HRL.out; omega, by omega, fun x hx => .inl hx⟩
           rw [HKN.out, show (r.drop 4).length = 0 by have := HRL.out; omega]; rfl
         · have hcX2 : (X : Int) < (c : Int) := by omega
           rw [if_neg hcX] at hr4
           have HR4 := hid ((hr4.below HB3.out (Nat.le_refl _)).more HB3.out.size)
           clear hr4
           go_wp2_with fail
           go_region_held (fun w' => w'.cell? ⟨g, off, none⟩ = some (.int .u8 (kn : Int))) (first | exact c03 | exact HK.out) (fail)
           go_wp2_with fail
           refine bodyPost_ret (results_c3 rfl _ _ w.heap.size 96 #[.int .u8 (kn : Int), .slice A1 t.length c1] _ _ rfl (heap_set2 HCW3.out) Tryz.underlying96 rfl rframe_size) rfl ?_
           rw [HE.out]
           refine ⟨((HB3.out.setCell (by simp) _).setCell (by simp) _).drew.drew, A1, c1, some ⟨g, off + X, none⟩, c - X, ?_, own_le2 (own_sets HO3.out (by omega) _ _), (rdB_sets2 HR4.out (fun x hx => by have : g = x := (by simpa [blk] using hx); omega) _ _).more (by simp), by have := HRL.out; omega, by omega, fun x hx => .inl hx⟩
           rw [HKN.out, HRL.out]; rfl
       · have HE := hid (take_cons_no (k := k) HX.out (fun h => hfx (HFI.out.2 h.2.2)))
         have hne := str_ne hSF.symm hSB.symm hfx
         clear hSF hSB hfx
         go_wp2_with fail
         go_region_held (fun w' => (convert 22 9 (.slice PA F.length pc)).run Tryz.prog w' = .ok (.string SF) w' ∧ (convert 22 9 (.slice (some ⟨g, off, none⟩) X c)).run Tryz.prog w' = .ok (.string SB) w' ∧ Below w3.heap.size w3 w') (first | exact HS.out _ ((Below.refl _ _).drew) | exact HS.out _ (Below.refl _ _)) (fail)
         go_wp2_with fail
         refine bodyPost_ret (results_c3 rfl _ _ w.heap.size 96 #[.int .u8 0, .slice none 0 0] _ _ rfl (heap_set2 HCW3.out) Tryz.underlying96 rfl rframe_size) rfl ?_
         exact takenR_no HE.out ((HB3.out.setCell (by simp) _).setCell (by simp) _).drew
namespace Frm
def flat (l : List (UInt8 × List UInt8)) : List UInt8 := l.flatMap (fun p => put p.1 p.2)
theorem flat_snoc (l : List (UInt8 × List UInt8)) (k : UInt8) (t : List UInt8) : flat (l ++ [(k, t)]) = flat l ++ put k t := by simp [flat]
theorem put_pos (k : UInt8) (t : List UInt8) : 0 < (put k t).length := by unfold put head; simp
theorem flat_len (l : List (UInt8 × List UInt8)) : l.length ≤ (flat l).length := by
 induction l with
 | nil => simp
 | cons p l ih =>
   have := put_pos p.1 p.2
   have e : flat (p :: l) = put p.1 p.2 ++ flat l := by simp [flat]
   rw [e, List.length_append, List.length_cons]; omega
structure Scans (b : List UInt8) (l : List (UInt8 × List UInt8)) (r : List UInt8) : Prop where
 eq : b = flat l ++ r
 fit : ∀ p ∈ l, p.2.length ≤ 65536
theorem Scans.nil (b : List UInt8) : Scans b [] b := ⟨rfl, fun p hp => by cases hp⟩
theorem Scans.step {b r r' t : List UInt8} {k : UInt8} {l : List (UInt8 × List UInt8)} (h : Scans b l r) (ht : take r = some (k, t, r')) : Scans b (l ++ [(k, t)]) r' := by
 obtain ⟨e, hf⟩ := of_take ht
 refine ⟨by rw [h.eq, e, flat_snoc, List.append_assoc], fun p hp => ?_⟩
 simp only [List.mem_append, List.mem_singleton] at hp
 rcases hp with hp | hp
 · exact h.fit p hp
 · rw [hp]; exact hf
theorem Scans.len {b r : List UInt8} {l : List (UInt8 × List UInt8)} (h : Scans b l r) : l.length ≤ b.length ∧ r.length ≤ b.length := by
 have := flat_len l
 rw [h.eq, List.length_append]; omega
theorem scans_uniq : ∀ (l m : List (UInt8 × List UInt8)) (b r s : List UInt8), Scans b l r → take r = none → Scans b m s → take s = none → l = m ∧ r = s := by
 intro l
 induction l with
 | nil =>
   intro m b r s h hr h2 hs
   cases m with
   | nil =>
     have e1 : b = r := h.eq
     have e2 : b = s := h2.eq
     exact ⟨rfl, e1.symm.trans e2⟩
   | cons p m =>
     have e1 : b = r := h.eq
     have e2 := h2.eq
     have e : flat (p :: m) = put p.1 p.2 ++ flat m := by simp [flat]
     rw [e, List.append_assoc] at e2
     rw [← e1, e2, take_put _ _ _ (h2.fit p (by simp))] at hr
     cases hr
 | cons p l ih =>
   intro m b r s h hr h2 hs
   have ep : flat (p :: l) = put p.1 p.2 ++ flat l := by simp [flat]
   have e1 := h.eq
   rw [ep, List.append_assoc] at e1
   have t1 : take b = some (p.1, p.2, flat l ++ r) := by rw [e1]; exact take_put _ _ _ (h.fit p (by simp))
   cases m with
   | nil =>
     have e2 : b = s := h2.eq
     rw [← e2, t1] at hs; cases hs
   | cons q m =>
     have eq : flat (q :: m) = put q.1 q.2 ++ flat m := by simp [flat]
     have e2 := h2.eq
     rw [eq, List.append_assoc] at e2
     have t2 : take b = some (q.1, q.2, flat m ++ s) := by rw [e2]; exact take_put _ _ _ (h2.fit q (by simp))
     rw [t1] at t2
     injection t2 with t2
     injection t2 with u1 t2
     injection t2 with u2 u3
     obtain ⟨v1, v2⟩ := ih m (flat l ++ r) r s ⟨rfl, fun x hx => h.fit x (by simp [hx])⟩ hr ⟨u3, fun x hx => h2.fit x (by simp [hx])⟩ hs
     refine ⟨?_, v2⟩
     rw [v1]
     obtain ⟨a, b'⟩ := p
     obtain ⟨c, d⟩ := q
     simp only at u1 u2
     rw [u1, u2]
end Frm
structure Fv where
 k : UInt8
 A : Option Addr
 c : Nat
 b : List UInt8
def Fv.cells (f : Fv) : List Value := [.int .u8 (f.k.toNat : Int), .slice f.A f.b.length f.c]
def Fv.pr (f : Fv) : UInt8 × List UInt8 := (f.k, f.b)
theorem frT : RT Tryz.prog 56 60 Fv.cells 2 32 (.agg #[.int .u8 0, .slice none 0 0]) :=
 ⟨Tryz.underlying56, by kernel_rfl, fun _ => rfl, fun _ u hu => by simp [Fv.cells] at hu; rcases hu with h | h <;> (subst h; rfl), by omega, rfl⟩
theorem rfrT : RT Tryz.prog 93 96 Fv.cells 2 32 (.agg #[.int .u8 0, .slice none 0 0]) :=
 ⟨Tryz.underlying93, by kernel_rfl, fun _ => rfl, fun _ u hu => by simp [Fv.cells] at hu; rcases hu with h | h <;> (subst h; rfl), by omega, rfl⟩
structure RdFv (w : World) (B : Nat) (A : Option Addr) (l : List Fv) : Prop where
 row : RdS Fv.cells 2 w B A l
 ok : ∀ f ∈ l, RdB w B f.A f.b ∧ f.b.length ≤ f.c ∧ f.c ≤ 9223372036854775807
theorem RdFv.below {w w' : World} {B D : Nat} {A : Option Addr} {l : List Fv} (h : RdFv w B A l) (hb : Below D w w') (hD : B ≤ D) : RdFv w' B A l := ⟨h.row.below hb hD, fun f hf => ⟨(h.ok f hf).1.below hb hD, (h.ok f hf).2⟩⟩
theorem RdFv.more {w : World} {B B' : Nat} {A : Option Addr} {l : List Fv} (h : RdFv w B A l) (hB : B ≤ B') : RdFv w B' A l := ⟨h.row.more hB, fun f hf => ⟨(h.ok f hf).1.more hB, (h.ok f hf).2⟩⟩
theorem RdFv.row2 {w : World} {B : Nat} {A : Option Addr} {l : List Fv} (h : RdFv w B A l) (hl : 0 < l.length) : ∃ b off, A = some ⟨b, off, none⟩ ∧ b < B ∧ ∀ k (hk : k < l.length), w.cell? ⟨b, off + k * 2, none⟩ = some (.int .u8 (l[k].k.toNat : Int)) ∧
   w.cell? ⟨b, off + k * 2 + 1, none⟩ = some (.slice l[k].A l[k].b.length l[k].c) := by
 obtain ⟨b, off, hA, hb, hc⟩ := RdS.row (f := Fv.cells) (n := 2) (fun _ => rfl) (by omega) h.row hl
 exact ⟨b, off, hA, hb, fun k hk => ⟨hc k hk 0 _ rfl, hc k hk 1 _ rfl⟩⟩
structure OwnFv (T : TypeId) (w : World) (base : Nat) (A : Option Addr) (c : Nat) (l : List Fv) : Prop where
 row : OwnS Fv.cells 2 w base T A c l
 own : ∀ f ∈ l, Own w base 5 f.A f.c f.b ∧ Off [blk A] (blk f.A)
section
variable {T : TypeId} {w w' : World} {base c c' : Nat} {A A' : Option Addr} {l : List Fv} {f : Fv}
theorem OwnFv.nil : OwnFv T w base none 0 [] := ⟨OwnS.nil _ _ _, fun f hf => by cases hf⟩
theorem OwnFv.call (h : OwnFv T w base A c l) (hb : Below w.heap.size w w') : OwnFv T w' base A c l := ⟨h.row.below hb, fun f hf => ⟨(h.own f hf).1.below hb, (h.own f hf).2⟩⟩
theorem OwnFv.lts (h : OwnFv T w base A c l) : ∀ g, some g ∈ [blk A] → g < w.heap.size := fun g hg => by
 have h1 : some g = blk A := by simpa using hg
 exact (h.row.blk_ge g h1.symm).2
theorem OwnFv.app (h : OwnFv T w base A c l) (hf : Own w base 5 f.A f.c f.b) (hof : Off [blk A] (blk f.A)) (ho : OwnS Fv.cells 2 w' base T A' c' (l ++ [f])) (hg : w.grownBy w' (blk A)) (hat : blk A' = blk A ∨ blk A' = some w.heap.size) : OwnFv T w' base A' c' (l ++ [f]) := by
 have hR : ∀ r ∈ ([blk A'] : List (Option Nat)), r ∈ ([blk A] : List (Option Nat)) ∨ r = some w.heap.size := fun r hr => by
   simp only [List.mem_singleton] at hr ⊢
   rcases hat with h1 | h1
   · exact .inl (hr.trans h1)
   · exact .inr (hr.trans h1)
 refine ⟨ho, fun q hq => ?_⟩
 simp only [List.mem_append, List.mem_singleton] at hq
 rcases hq with hq | hq
 · obtain ⟨h1, h2⟩ := h.own q hq
   exact ⟨h1.kept hg (h2.ne (by simp)), h2.new (fun g hg => (h1.blk_ge g hg).2) hR⟩
 · rw [hq]
   exact ⟨hf.kept hg (hof.ne (by simp)), hof.new (fun g hg => (hf.blk_ge g hg).2) hR⟩
theorem OwnFv.rd (h : OwnFv T w base A c l) : RdFv w w.heap.size A l := ⟨h.row.rd, fun f hf => ⟨(h.own f hf).1.rd, (h.own f hf).1.cap, (h.own f hf).1.cap_le⟩⟩
end
theorem off_frs {R : List (Option Nat)} {w : World} {n : Nat} {A B : Option Addr} (h : Off R (blk A)) (hR : ∀ g, some g ∈ R → g < n) (hf : Frs w n A B) : Off R (blk B) := fun g hg hm => by
 rcases hf g hg with h1 | ⟨h1, _⟩
 · exact h g h1 hm
 · have := hR g hm; omega
theorem ownS_cap_le {α : Type} {f : α → List Value} {n base c : Nat} {w : World} {e : TypeId} {A : Option Addr} {l : List α} (h : OwnS f n w base e A c l) : c ≤ 9223372036854775807 := by
 rcases h.2 with ⟨hv, _⟩ | ⟨g, cap, cur, hv, _, _, _, hc, _⟩
 · injection hv with _ _ h3; omega
 · injection hv with _ _ h3; unfold maxLen at hc; omega
theorem off_row {w : World} {n : Nat} {OA OA' B : Option Addr} {r : List UInt8} (h : Off [blk OA] (blk B)) (hat : blk OA' = blk OA ∨ blk OA' = some n) (hr : RdB w w.heap.size B r) (hw : w.heap.size ≤ n) : r ≠ [] → Off [blk OA'] (blk B) := fun hne => by
 refine h.new (n := n) (fun g hg => ?_) (fun x hx => ?_)
 · obtain ⟨ad, e, h1, _⟩ := hr.2 (List.length_pos_iff.2 hne)
   subst e
   have hg' : ad.block = g := by simpa [blk] using hg
   omega
 · simp only [List.mem_singleton] at hx ⊢
   rcases hat with h1 | h1
   · exact .inl (hx.trans h1)
   · exact .inr (hx.trans h1)
theorem rdB_kept {w w' : World} {A : Option Addr} {l : List UInt8} {row : Option Nat} (h : RdB w w.heap.size A l) (hg : w.grownBy w' row) (hne : blk A = none ∨ blk A ≠ row) : RdB w' w'.heap.size A l := by
 refine ⟨h.1, fun hn => ?_⟩
 obtain ⟨ad, e, hb, hc⟩ := h.2 hn
 subst e
 refine ⟨ad, rfl, Nat.lt_of_lt_of_le hb hg.size, fun j u hu => ?_⟩
 rw [World.cell?_of_block (hg.block _ (by rw [block_of_add]; exact hb) (by rw [block_of_add]; exact hne.resolve_left (by simp [blk])))]
 exact hc j u hu
theorem rd_frame_new (T : TypeId) (w : World) (f : Fv) : RdS Fv.cells 2 (w.alloc (.cells #[.int .u8 (f.k.toNat : Int), .slice f.A f.b.length f.c] T)) (w.heap.size + 1) (some ⟨w.heap.size, 0, none⟩) [f] := by
 refine RdS.of (f := Fv.cells) (n := 2) (l := [f]) (fun _ => rfl) _ 0 (by omega) (fun k hk j u hj => ?_)
 obtain rfl : k = 0 := by simp at hk; exact hk
 have hj' : f.cells[j]? = some u := hj
 rw [cell_of_row _ w.heap.size _ _ _ (0, 0) (heap_alloc_new w _)]
 simpa [Fv.cells] using hj'
theorem rd_frame_new2 (T : TypeId) (w : World) (o : Obj) (f : Fv) : RdS Fv.cells 2 ((w.alloc o).alloc (.cells #[.int .u8 (f.k.toNat : Int), .slice f.A f.b.length f.c] T)) (w.heap.size + 2) (some ⟨w.heap.size + 1, 0, none⟩) [f] := by
 have := rd_frame_new T (w.alloc o) f
 simpa using this
theorem below_al2 (w : World) (o p : Obj) : Below w.heap.size w ((w.alloc o).alloc p) := ((Below.refl _ _).alloc (Nat.le_refl _) _).alloc (by simp) _
def Scanned (w : World) (b : List UInt8) (e : Ending) (w' : World) : Prop := ∃ (l : List Fv) (r : List UInt8) (A : Option Addr) (c : Nat), Frm.Scans b (l.map Fv.pr) r ∧ Frm.take r = none ∧
 e = .returned (.tuple #[.slice A l.length c, .int .i64 ((b.length : Int) - (r.length : Int))]) ∧ RdFv w' w'.heap.size A l ∧ l.length ≤ c ∧ c ≤ 9223372036854775807 ∧ Below w.heap.size w w'
end Go.Proofs.YtgafionfojnieaaGreatDoor
namespace Go.Proofs.YtgafionfojnieaaGreatDoor
open Go.RowKit Go.Shelf
open Lib (hid)
attribute [local go_sem] Oper.semAt_some
structure Fx where
 f : Fv
 n : Nat
def Fx.encs (x : Fx) : Array Value := #[.agg #[.int .u8 (x.f.k.toNat : Int), .slice x.f.A x.f.b.length x.f.c], .int .i64 (x.n : Int)]
structure KpF (base : Nat) (W W' : World) : Prop where
 size : W.heap.size ≤ W'.heap.size
 low : ∀ k, k < base → k < W.heap.size → W'.heap[k]? = W.heap[k]?
 tag : ∀ (k : Nat) (cs : Array Value) (T : TypeId) (fr : Nat × Nat), T = 5 ∨ T = 22 → W.heap[k]? = some (.cells cs T fr) → W'.heap[k]? = some (.cells cs T fr)
theorem KpF.trans {base : Nat} {A B C : World} (h : KpF base A B) (h2 : KpF base B C) : KpF base A C :=
 ⟨Nat.le_trans h.size h2.size, fun k hk hz => (h2.low k hk (Nat.lt_of_lt_of_le hz h.size)).trans (h.low k hk hz), fun k cs T fr ht hk => h2.tag k cs T fr ht (h.tag k cs T fr ht hk)⟩
structure HBs (w : World) (base : Nat) (B : Option Addr) (r : List UInt8) : Prop where
 rd : RdB w w.heap.size B r
 at_ : r ≠ [] → ∀ g, blk B = some g → g < base ∨ ∃ cs fr, w.heap[g]? = some (.cells cs 5 fr)
theorem HBs.keep {w w' : World} {base : Nat} {B : Option Addr} {r : List UInt8} (h : HBs w base B r) (hz : w.heap.size ≤ w'.heap.size) (hk : r ≠ [] → ∀ g, blk B = some g → g < w.heap.size → w'.heap[g]? = w.heap[g]?) : HBs w' base B r := by
 by_cases hr : r = []
 · subst hr; exact ⟨RdB.nil, fun h => absurd rfl h⟩
 · obtain ⟨ad, e, hlt, hc⟩ := h.rd.2 (List.length_pos_iff.2 hr)
   have hb := hk hr ad.block (by rw [e]; rfl) hlt
   refine ⟨⟨h.rd.1, fun _ => ⟨ad, e, Nat.lt_of_lt_of_le hlt hz, fun j u hu => ?_⟩⟩, fun _ g hg => ?_⟩
   · have h1 : w'.cell? (ad.add j) = w.cell? (ad.add j) := World.cell?_of_block (by rw [block_of_add]; exact hb)
     rw [h1]; exact hc j u hu
   · have hg' : ad.block = g := by rw [e] at hg; simpa [blk] using hg
     subst hg'
     rcases h.at_ hr ad.block (by rw [e]; rfl) with h1 | ⟨cs, fr, h1⟩
     · exact .inl h1
     · exact .inr ⟨cs, fr, hb.trans h1⟩
theorem HBs.below {w w' : World} {base : Nat} {B : Option Addr} {r : List UInt8} (h : HBs w base B r) (hb : Below w.heap.size w w') : HBs w' base B r := h.keep hb.size (fun _ g _ hlt => hb.block g hlt)
theorem HBs.kp {w w' : World} {base : Nat} {B : Option Addr} {r : List UInt8} (h : HBs w base B r) (hk : KpF base w w') : HBs w' base B r := h.keep hk.size (fun hr g hg hz => by
 rcases h.at_ hr g hg with h1 | ⟨cs, fr, h1⟩
 · exact hk.low g h1 hz
 · rw [h1]; exact hk.tag g cs _ fr (.inl rfl) h1)
theorem HBs.set {w : World} {base b0 : Nat} {B : Option Addr} {r : List UInt8} {v u : Value} (h : HBs w base B r) (hb : base ≤ b0) (hbox : w.heap[b0]? = some (.cells #[v] 22)) : HBs (w.setCell ⟨b0, 0, none⟩ u) base B r := h.keep (by simp) (fun hr g hg _ => by
 refine Below.heap_setCell _ _ _ _ (fun e => ?_)
 simp only at e
 subst e
 rcases h.at_ hr _ hg with h1 | ⟨cs, fr, h1⟩
 · omega
 · rw [hbox] at h1; injection h1 with h1; injection h1 with _ h2; exact absurd h2 (by decide))
theorem HBs.frs {w w' : World} {base n : Nat} {A B : Option Addr} {r r' : List UInt8} (h : HBs w base A r) (hr : r ≠ []) (hb : Below w.heap.size w w') (hf : Frs w' n A B) (hr' : RdB w' w'.heap.size B r') : HBs w' base B r' :=
 ⟨hr', fun _ g hg => by
   rcases hf g hg with h1 | ⟨_, h1⟩
   · exact (h.below hb).at_ hr g h1
   · exact .inr h1⟩
def lastN (b : List UInt8) (ys : List Fx) : Nat := (ys.getLast?.map Fx.n).getD b.length
theorem lastN_snoc (b : List UInt8) (ys : List Fx) (x : Fx) : lastN b (ys ++ [x]) = x.n := by simp [lastN]
def Fx.pr (x : Fx) : UInt8 × List UInt8 := x.f.pr
def ScanS (b : List UInt8) (ys : List Fx) : Prop := ∃ r, Frm.Scans b (ys.map Fx.pr) r ∧ Frm.take r = none ∧ lastN b ys = r.length
def boxLen (b0 : Nat) (w : World) : Nat := match w.cell? ⟨b0, 0, none⟩ with | some (.slice _ n _) => n | _ => 0
set_option maxHeartbeats 2000000 in
set_option maxRecDepth 100000 in
theorem frames1_in (l b0 base : Nat) (b : List UInt8) (hbl : b.length ≤ 1000000000) (A : Option Addr) (c : Nat) (hbase : base ≤ b0) (J Jx : List Fx → World → Prop) (hJ : AbO (fun r => r = b0) J)
   (hY : ∀ pre x W1, J pre W1 → (Own W1 base 5 x.f.A x.f.c x.f.b ∧ blk x.f.A ≠ some b0) → pre.length < b.length + 1 → YieldAt Fence.wide 3 Tryz.prog l x.encs W1 fun e W' => (e = .returned (.bool true) ∧ J (pre ++ [x]) W' ∧ KpF base W1 W') ∨ (e = .returned (.bool false) ∧ Jx (pre ++ [x]) W'))
   (W : World) (hbox : W.heap[b0]? = some (.cells #[.slice A b.length c] 22)) (hh : HBs W base A b) (hc : b.length ≤ c) (hcc : c ≤ 9223372036854775807) (h0 : J [] W) :
   CallsIn Fence.wide 4 Tryz.prog 90 #[.func (.yield l) #[] #[], .pointer (some ⟨b0, 0, none⟩)] W fun e W' => (∃ v, e = .returned v) ∧
     ((∃ ys, ScanS b ys ∧ J ys W') ∨ (∃ pre, True ∧ Jx pre W')) := by
 have HX := hid hbox
 have HH := hid hh
 have HY := hid hY
 have HJ0 := hid h0
 clear hbox hh hY h0
 refine callsIn_of_wp Tryz.func90 rfl trivial ?_ rfl
 simp only [Tryz.ntmps90, List.size_toArray, List.length_cons, List.length_nil, Nat.reduceAdd, Nat.reduceSub, Array.replicate_succ, Array.replicate_zero, List.push_toArray, List.append_toArray, List.nil_append, List.cons_append]
 gi_wp2
 gi_loopw [4] (fun _ wr => ∃ (pre : List Fx) (B : Option Addr) (d : Nat) (r : List UInt8), r.length ≤ d ∧ d ≤ 9223372036854775807 ∧ Hid (wr.heap[b0]? = some (.cells #[.slice B r.length d] 22)) ∧ Hid (Frm.Scans b (pre.map Fx.pr) r ∧ lastN b pre = r.length) ∧ Hid (J pre wr) ∧ Hid (HBs wr base B r)) (fun _ wr => boxLen b0 wr)
 case atStart => exact ⟨[], A, c, b, hc, hcc, HX, hid ⟨Frm.Scans.nil b, rfl⟩, HJ0, HH⟩
 case round =>
   obtain ⟨pre, B, d, r, hrd, hdd, HBX, HS, HJ, HB⟩ := hrel
   have q0 := box_cell HBX.out
   have hlen := HS.out.1.len
   rw [List.length_map] at hlen
   have KT := ftake_any B d r wr HB.out.rd (by omega) hrd hdd
   have hbz : b0 < wr.heap.size := (Array.getElem?_eq_some_iff.1 HBX.out).1
   cases ht : Frm.take r with
   | none =>
     rw [ht] at KT
     have HK := hid KT
     have HT := hid ht
     clear KT ht
     gi_wp2_with fail
     refine ⟨trivial, ?_⟩
     refine (callsIn_wide.2 HK.out).mono ?_
     rintro e w1 ⟨hb1, rfl⟩
     have HJ1 := hid (hJ _ _ _ none HJ.out (grown_of_below hb1) (fun r e => by cases e))
     clear hb1
     gi_wp2_with fail
     refine ⟨fun f hf => (by cases hf), ?_⟩
     have HJ2 := hid (hJ.alloc HJ1.out (.cells #[.int .u8 0, .slice none 0 0] 60))
     gi_wp2_with fail
     refine bodyPost_ret (results_none rfl _ _ _) rfl ?_
     exact ⟨⟨_, rfl⟩, .inl ⟨pre, ⟨r, HS.out.1, HT.out, HS.out.2⟩, HJ2.out⟩⟩
   | some v =>
     obtain ⟨k, t, r'⟩ := v
     rw [ht] at KT
     have HK := hid KT
     have HT := hid ht
     clear KT ht
     gi_wp2_with fail
     refine ⟨trivial, ?_⟩
     refine (callsIn_wide.2 HK.out).mono ?_
     have ht2 := HT.out
     rintro e w1 ⟨hb1, A1, c1, B1, d1, rfl, ho1, hr1, hd1, hdd1, hf1⟩
     obtain ⟨W1, hW1⟩ : ∃ W1, W1 = w1.alloc (.cells #[.int .u8 (k.toNat : Int), .slice A1 t.length c1] 60) := ⟨_, rfl⟩
     have hba : Below w1.heap.size w1 W1 := by rw [hW1]; exact (Below.refl _ _).alloc (Nat.le_refl _) _
     have hbW : Below wr.heap.size wr W1 := hb1.trans (hba.mono hb1.size)
     have HJ1 := hid (hJ _ _ _ none HJ.out (grown_of_below hbW) (fun r e => by cases e))
     have HB1 := hid ((HB.out.frs (fun e => by rw [e] at ht2; cases ht2) hb1 hf1 hr1).below hba)
     have HBX1 : Hid (W1.heap[b0]? = some (.cells #[.slice B r.length d] 22)) := hid ((hbW.block _ hbz).trans HBX.out)
     have HS1 := hid (HS.out.1.step HT.out)
     obtain ⟨x, hx⟩ : ∃ x : Fx, x = ⟨⟨k, A1, c1, t⟩, r'.length⟩ := ⟨_, rfl⟩
     obtain ⟨fn, tmps, assign, body, hy, hR⟩ := HY.out pre x W1 HJ1.out (by rw [hx]; exact ⟨(ho1.mono (by omega)).below hba, fun e => by have := (ho1.blk_ge _ e).1; omega⟩) (by omega)
     have HXE := hid hx
     have hen : x.encs = #[.agg #[.int .u8 (k.toNat : Int), .slice A1 t.length c1], .int .i64 (r'.length : Int)] := by rw [hx]; rfl
     rw [hen] at hy
     have HR := hid hR
     clear hR hx hen hb1 ho1 hr1 hf1 hba hbW ht2
     subst hW1
     gi_wp2_with fail
     refine HR.out.mono ?_
     rintro e W3 (⟨rfl, hJ3, hk3⟩ | ⟨rfl, hJx3⟩)
     · have HB3 := hid (HB1.out.kp hk3)
       have hbx3 := hk3.tag b0 _ _ _ (.inr rfl) HBX1.out
       have HBX3 := hid hbx3
       have t1 := box_cell hbx3
       have tf := box_frozen hbx3
       have HJ3 := hid hJ3
       clear hk3 hJ3 hbx3 q0 hy
       gi_wp2_with fail
       have HBX4 : Hid ((W3.setCell ⟨b0, 0, none⟩ (.slice B1 r'.length d1)).heap[b0]? = some (.cells #[.slice B1 r'.length d1] 22)) := hid (box_set HBX3.out _)
       refine ⟨⟨pre ++ [x], B1, d1, r', hd1, hdd1, HBX4, hid ⟨?_, ?_⟩, hid (hJ.setCell HJ3.out _ _ rfl), hid (HB3.out.set hbase HBX3.out)⟩, ?_⟩
       · rw [List.map_append]
         have e1 : [x].map Fx.pr = [(k, t)] := by rw [HXE.out]; rfl
         rw [e1]; exact HS1.out
       · rw [lastN_snoc, HXE.out]
       · have e1 : boxLen b0 (W3.setCell ⟨b0, 0, none⟩ (.slice B1 r'.length d1)) = r'.length := by unfold boxLen; rw [box_cell HBX4.out]
         have e2 : boxLen b0 wr = r.length := by unfold boxLen; rw [box_cell HBX.out]
         rw [e1, e2]
         have h1 := (Frm.of_take HT.out).1
         have h2 := Frm.put_pos k t
         rw [h1, List.length_append]; omega
     · have HJX : Hid (Jx (pre ++ [x]) W3) := hid hJx3
       clear hJx3 hy q0
       gi_wp2_with fail
       refine bodyPost_ret (results_none rfl _ _ _) rfl ?_
       exact ⟨⟨_, rfl⟩, .inr ⟨_, trivial, HJX.out⟩⟩
end Go.Proofs.YtgafionfojnieaaGreatDoor
namespace Go.Proofs.YtgafionfojnieaaGreatDoor
open Go.RowKit Go.Shelf
open Lib (hid)
attribute [local go_sem] Oper.semAt_some
theorem wpListIn_append_s {F : Fence} {fn : Nat} {P : Program} {t e : TypeId} {α : Type} {f : α → List Value} {n bytes : Nat} {z : Value} (w : World) {ops : Array Oper} {rest : List Oper} {o : Oper} {a : Act} {Q : Exit → Act → World → Prop} (hgd : o.guard = none) (s x : Operand) (T : RT P t e f n bytes z)
   (ho : o.op = .call { callee := .builtin .append, args := #[s, x], argTypes := #[t, t] })
   (base : Nat) (A : Option Addr) (c : Nat) (l : List α) (hs : a.eval s = .slice A l.length c) (hown : OwnS f n w base e A c l)
   (B : Nat) (A2 : Option Addr) (m c2 : Nat) (l2 : List α) (hx : a.eval x = .slice A2 m c2) (hm : m = l2.length) (hr : RdS f n w B A2 l2) (hlen : (l.length + l2.length) * bytes ≤ 140737488355328) (hl2 : l.length + l2.length ≤ maxLen) (hbase : base ≤ w.heap.size)
   (h : ∀ A' c' L w', L = l ++ l2 → OwnS f n w' base e A' c' L → w.grownBy w' (blk A) → (blk A' = blk A ∨ blk A' = some w.heap.size) → wpListIn F fn P ops Q rest (a.put o.dst (.slice A' L.length c')) w') : wpListIn F fn P ops Q (o :: rest) a w := by
 refine wpListIn_plain hgd fun K hK' => ?_
 obtain ⟨A', c', w', hrun, h2, h3, h4⟩ := run_append_s (P := P) w T o.type base A c l hown B A2 m c2 l2 hm hr hlen hl2 hbase
 unfold Oper.wpIn
 refine ⟨?_, ?_⟩
 · simp [Oper.about, ho, resolve, Target.leads, Sem.run_pure]
 · rw [Oper.semAt_plain F _ _ (by rw [ho]; intro c hc'; cases hc')]
   simp [execOp, ho, resolve, invoke, builtin, hs, hx, hrun, Result.andThen]
   have h9 := h A' c' _ w' rfl h2 h3 h4
   rw [List.length_append] at h9
   exact hK' _ _ h9
theorem frames_any (A : Option Addr) (n c : Nat) (w : World) :
   Calls Tryz.prog 56 #[.slice A n c] w fun e w' => e = .returned (.func (.func 90) #[] #[.pointer (some ⟨w.heap.size, 0, none⟩)]) ∧ w' = w.alloc (.cells #[.slice A n c] 22) := by
 go_enter Tryz.func56, Tryz.ntmps56
 go_wp2_with fail
 go_ret
 exact ⟨rfl, rfl⟩
structure SI (w : World) (b : List UInt8) (pre : List Fx) (W : World) : Prop where
 ex : ∃ OA OC, W.heap[w.heap.size]? = some (.cells #[.slice OA pre.length OC] 56) ∧ OwnFv 60 W w.heap.size OA OC (pre.map Fx.f) ∧ blk OA ≠ some (w.heap.size + 2)
 bx : W.heap[w.heap.size + 1]? = some (.cells #[.int .i64 (lastN b pre : Int)] 3)
 off : ∀ x ∈ pre, blk x.f.A ≠ some (w.heap.size + 2)
 below : Below w.heap.size w W
 lt : w.heap.size + 2 < W.heap.size
theorem tag_ne {W : World} {k r : Nat} {cs : Array Value} {T : TypeId} {fr : Nat × Nat} {o : Obj} (h : W.heap[k]? = some (.cells cs T fr)) (hr : W.heap[r]? = some o) (ho : o.isCells = false) : k ≠ r := fun e => by
 subst e; rw [h] at hr; injection hr with hr; subst hr; cases ho
theorem SI.grown {w W W' : World} {b : List UInt8} {pre : List Fx} {row : Option Nat} (h : SI w b pre W) (hg : W.grownBy W' row) (hr : ∀ r, row = some r → r = w.heap.size + 2 ∨ (w.heap.size ≤ r ∧ ∃ o : Obj, W.heap[r]? = some o ∧ o.isCells = false)) : SI w b pre W' := by
 obtain ⟨OA, OC, e1, e2, e3⟩ := h.ex
 have keep : ∀ k cs T fr, k ≠ w.heap.size + 2 → W.heap[k]? = some (.cells cs T fr) → some k ≠ row := fun k cs T fr hk hc e => by
   rcases hr k e.symm with h1 | ⟨_, o, h1, h2⟩
   · exact hk h1
   · exact tag_ne hc h1 h2 rfl
 have blks : ∀ {T : TypeId} {A : Option Addr} {c : Nat} {l : List UInt8}, Own W w.heap.size T A c l → blk A ≠ some (w.heap.size + 2) → blk A = none ∨ blk A ≠ row := fun {T A c l} ho hn => by
   rcases hA : blk A with _ | g
   · exact .inl rfl
   · obtain ⟨_, cs, fr, hc⟩ := own_tag ho hA
     exact .inr (keep g cs _ fr (fun e => hn (by rw [hA, e])) hc)
 have hlt1 : w.heap.size < W.heap.size := by have := h.lt; omega
 refine ⟨⟨OA, OC, (hg.block _ hlt1 (keep _ _ _ _ (by omega) e1)).trans e1, ⟨?_, fun f hf => ?_⟩, e3⟩, (hg.block _ (by have := h.lt; omega) (keep _ _ _ _ (by omega) h.bx)).trans h.bx, h.off, h.below.grown hg (by omega) (fun r e => by
   rcases hr r e with h1 | ⟨h1, _⟩ <;> omega), Nat.lt_of_lt_of_le h.lt hg.size⟩
 · refine e2.row.kept hg ?_
   rcases hA : blk OA with _ | g
   · exact .inl rfl
   · refine .inr ?_
     rcases e2.row.2 with ⟨hv, _⟩ | ⟨g', cap, cur, hv, _, hh, _⟩
     · injection hv with hv; subst hv; cases hA
     · injection hv with hv
       subst hv
       injection hA with hA
       subst hA
       exact keep _ _ _ _ (fun e => e3 (by rw [← e]; rfl)) hh
 · obtain ⟨x, hx, rfl⟩ := List.mem_map.1 hf
   obtain ⟨h1, h2⟩ := e2.own _ hf
   exact ⟨h1.kept hg (blks h1 (h.off x hx)), h2⟩
theorem ownS_tag {α : Type} {f : α → List Value} {n base c g : Nat} {w : World} {e : TypeId} {A : Option Addr} {l : List α} (h : OwnS f n w base e A c l) (hg : blk A = some g) : base ≤ g ∧ ∃ cs fr, w.heap[g]? = some (.cells cs e fr) := by
 refine ⟨(h.blk_ge g hg).1, ?_⟩
 rcases h.2 with ⟨hv, _⟩ | ⟨g', cap, cur, hv, _, hh, _⟩
 · injection hv with hv; subst hv; cases hg
 · injection hv with hv
   subst hv
   injection hg with hg
   subst hg
   exact ⟨_, _, hh⟩
theorem tag_ne2 {W : World} {k r : Nat} {cs cs' : Array Value} {T T' : TypeId} {fr fr' : Nat × Nat} (h : W.heap[k]? = some (.cells cs T fr)) (hr : W.heap[r]? = some (.cells cs' T' fr')) (hT : T ≠ T') : k ≠ r := fun e => by
 subst e; rw [h] at hr; injection hr with hr; injection hr with _ h2; exact hT h2
def SG (w : World) (x : Fx) (W : World) : Prop := Own W w.heap.size 5 x.f.A x.f.c x.f.b ∧ blk x.f.A ≠ some (w.heap.size + 2)
theorem SI.x01 {w W w9 : World} {b : List UInt8} {pre : List Fx} {OA : Option Addr} {OC : Nat} {o : Obj} (h : SI w b pre W)
   (e1 : W.heap[w.heap.size]? = some (.cells #[.slice OA pre.length OC] 56)) (e2 : OwnFv 60 W w.heap.size OA OC (pre.map Fx.f))
   (hg : (W.alloc o).grownBy w9 (blk OA)) : w9.heap[w.heap.size]? = some (.cells #[.slice OA pre.length OC] 56) ∧ w9.heap[w.heap.size + 1]? = some (.cells #[.int .i64 (lastN b pre : Int)] 3) := by
 have hlt := h.lt
 have k9 : ∀ k, k < W.heap.size → blk OA ≠ some k → w9.heap[k]? = W.heap[k]? := fun k hk hn => (hg.block k (by simp; omega) (fun e => hn e.symm)).trans (heap_alloc_old W o hk)
 have nA0 : blk OA ≠ some w.heap.size := fun e => by
   obtain ⟨_, cs, fr, h1⟩ := ownS_tag e2.row e
   exact tag_ne2 h1 e1 (by decide) rfl
 have nA1 : blk OA ≠ some (w.heap.size + 1) := fun e => by
   obtain ⟨_, cs, fr, h1⟩ := ownS_tag e2.row e
   exact tag_ne2 h1 h.bx (by decide) rfl
 exact ⟨(k9 _ (by omega) nA0).trans e1, (k9 _ (by omega) nA1).trans h.bx⟩
theorem SI.step {w W w9 : World} {b : List UInt8} {pre : List Fx} {x : Fx} {OA OA' : Option Addr} {OC OC' : Nat} {o : Obj} (B : Nat) (h : SI w b pre W) (hx : SG w x W)
   (e1 : W.heap[w.heap.size]? = some (.cells #[.slice OA pre.length OC] 56)) (e2 : OwnFv 60 W w.heap.size OA OC (pre.map Fx.f)) (e3 : blk OA ≠ some (w.heap.size + 2))
   (hg : (W.alloc o).grownBy w9 (blk OA)) (hat : blk OA' = blk OA ∨ blk OA' = some (W.heap.size + 1)) (ho : OwnS Fv.cells 2 w9 w.heap.size 60 OA' OC' (pre.map Fx.f ++ [x.f])) :
   KeepsFrom B W ((w9.setCell ⟨w.heap.size, 0, none⟩ (.slice OA' (pre.length + 1) OC')).setCell ⟨w.heap.size + 1, 0, none⟩ (.int .i64 (x.n : Int))) ∧ KpF w.heap.size W ((w9.setCell ⟨w.heap.size, 0, none⟩ (.slice OA' (pre.length + 1) OC')).setCell ⟨w.heap.size + 1, 0, none⟩ (.int .i64 (x.n : Int))) ∧
   SI w b (pre ++ [x]) ((w9.setCell ⟨w.heap.size, 0, none⟩ (.slice OA' (pre.length + 1) OC')).setCell ⟨w.heap.size + 1, 0, none⟩ (.int .i64 (x.n : Int))) := by
 have hz : W.heap.size + 1 ≤ w9.heap.size := by have := hg.size; simpa using this
 have hlt := h.lt
 have k9 : ∀ k, k < W.heap.size → blk OA ≠ some k → w9.heap[k]? = W.heap[k]? := fun k hk hn => (hg.block k (by simp; omega) (fun e => hn e.symm)).trans (heap_alloc_old W o hk)
 have kS : ∀ k, k ≠ w.heap.size → k ≠ w.heap.size + 1 → ((w9.setCell ⟨w.heap.size, 0, none⟩ (.slice OA' (pre.length + 1) OC')).setCell ⟨w.heap.size + 1, 0, none⟩ (.int .i64 (x.n : Int))).heap[k]? = w9.heap[k]? := fun k h1 h2 => by
   rw [Below.heap_setCell _ _ _ _ h2, Below.heap_setCell _ _ _ _ h1]
 have hA : ∀ g, blk OA = some g → w.heap.size ≤ g ∧ ∃ cs fr, W.heap[g]? = some (.cells cs 60 fr) := fun g hg => ownS_tag e2.row hg
 have nA0 : blk OA ≠ some w.heap.size := fun e => by
   obtain ⟨_, cs, fr, h1⟩ := hA _ e
   exact tag_ne2 h1 e1 (by decide) rfl
 have nA1 : blk OA ≠ some (w.heap.size + 1) := fun e => by
   obtain ⟨_, cs, fr, h1⟩ := hA _ e
   exact tag_ne2 h1 h.bx (by decide) rfl
 have x0 := (k9 _ (by omega) nA0).trans e1
 have x1 := (k9 _ (by omega) nA1).trans h.bx
 have hAl : OwnFv 60 (W.alloc o) w.heap.size OA OC (pre.map Fx.f) := e2.call ((Below.refl _ _).alloc (Nat.le_refl _) _)
 have hxo : Own (W.alloc o) w.heap.size 5 x.f.A x.f.c x.f.b := hx.1.alloc o
 have hxf : Off [blk OA] (blk x.f.A) := fun g h1 h2 => by
   have h3 : some g = blk OA := by simpa using h2
   obtain ⟨_, cs, fr, h4⟩ := own_tag hx.1 h1
   obtain ⟨_, cs', fr', h5⟩ := hA g h3.symm
   exact tag_ne2 h4 h5 (by decide) rfl
 have h9 := hAl.app (f := x.f) hxo hxf ho hg (by simpa using hat)
 refine ⟨⟨by simp; omega, fun k ob hk hkk hob => ?_⟩, ⟨by simp; omega, fun k hk hkz => ?_, fun k cs T fr hT hk => ?_⟩, ⟨⟨OA', OC', ?_, ⟨?_, fun f hf => ?_⟩, ?_⟩, ?_, fun y hy => ?_, ?_, ?_⟩⟩
 · have hkl := (Array.getElem?_eq_some_iff.1 hkk).1
   have n0 := (tag_ne e1 hkk hob).symm
   have n1 := (tag_ne h.bx hkk hob).symm
   have n2 : blk OA ≠ some k := fun e => by
     obtain ⟨_, cs, fr, h1⟩ := hA _ e
     exact tag_ne h1 hkk hob rfl
   rw [kS k n0 n1, k9 k hkl n2]; exact hkk
 · have n2 : blk OA ≠ some k := fun e => by have := (hA _ e).1; omega
   rw [kS k (by omega) (by omega), k9 k hkz n2]
 · have hkl := (Array.getElem?_eq_some_iff.1 hk).1
   have d0 : T ≠ 56 := by rcases hT with e | e <;> (rw [e]; decide)
   have d1 : T ≠ 3 := by rcases hT with e | e <;> (rw [e]; decide)
   have d2 : T ≠ 60 := by rcases hT with e | e <;> (rw [e]; decide)
   have n2 : blk OA ≠ some k := fun e => by
     obtain ⟨_, cs, fr, h1⟩ := hA _ e
     exact tag_ne2 hk h1 d2 rfl
   rw [kS k (tag_ne2 hk e1 d0) (tag_ne2 hk h.bx d1), k9 k hkl n2]; exact hk
 · rw [box_set_other (by omega), List.length_append]; exact box_set x0 _
 · rw [List.map_append]
   refine h9.row.keep (fun g hg => ?_)
   obtain ⟨_, cs, fr, h1⟩ := ownS_tag h9.row hg
   exact kS g (tag_ne2 h1 x0 (by decide)) (tag_ne2 h1 x1 (by decide))
 · rw [List.map_append] at hf
   obtain ⟨h1, h2⟩ := h9.own f hf
   refine ⟨own_keep2 h1 (fun g hg => ?_), h2⟩
   obtain ⟨_, cs, fr, h3⟩ := own_tag h1 hg
   exact kS g (tag_ne2 h3 x0 (by decide)) (tag_ne2 h3 x1 (by decide))
 · rcases hat with h1 | h1
   · rw [h1]; exact e3
   · rw [h1]; intro e; injection e with e; omega
 · rw [lastN_snoc]
   refine box_set (v := .int .i64 (lastN b pre : Int)) ?_ _
   rw [box_set_other (by omega)]; exact x1
 · simp only [List.mem_append, List.mem_singleton] at hy
   rcases hy with hy | hy
   · exact h.off y hy
   · rw [hy]; exact hx.2
 · exact (((h.below.alloc (by omega) o).grown hg (by simp; omega) (fun g hg => (hA g hg).1)).setCell (by simp) _).setCell (by simp) _
 · simp; omega
set_option maxHeartbeats 2000000 in
set_option maxRecDepth 100000 in
theorem scan_any (A : Option Addr) (c : Nat) (b : List UInt8) (w : World) (h : RdB w w.heap.size A b) (hl : b.length ≤ 1000000000) (hc : b.length ≤ c) (hcc : c ≤ 9223372036854775807) :
   Calls Tryz.prog 23 #[.slice A b.length c] w (Scanned w b) := by
 have HH := hid h
 clear h
 refine (callsIn_wide (n := 5)).1 ?_
 refine callsIn_of_wp_marks Tryz.func23 rfl trivial ?_ rfl
 simp only [Tryz.ntmps23, List.size_toArray, List.length_cons, List.length_nil, Nat.reduceAdd, Nat.reduceSub, Array.replicate_succ, Array.replicate_zero, List.push_toArray, List.append_toArray, List.nil_append, List.cons_append]
 gi_wp2_with fail
 refine ⟨trivial, ?_⟩
 refine (callsIn_wide.2 (frames_any A b.length c _)).mono ?_
 rintro e wL ⟨rfl, hwL⟩
 have z1 : ((w.alloc (.cells #[.slice none 0 0] 56)).alloc (.cells #[.int .i64 (b.length : Int)] 3)).heap.size = w.heap.size + 2 := by simp
 have y0 : wL.heap[w.heap.size]? = some (.cells #[.slice none 0 0] 56) := by
   rw [hwL, heap_alloc_old _ _ (by simp; omega), heap_alloc_old _ _ (by simp)]; exact heap_alloc_new w _
 have y1 : wL.heap[w.heap.size + 1]? = some (.cells #[.int .i64 (b.length : Int)] 3) := by
   rw [hwL, heap_alloc_old _ _ (by simp)]
   have := heap_alloc_new (w.alloc (.cells #[.slice none 0 0] 56)) (.cells #[.int .i64 (b.length : Int)] 3)
   simpa using this
 have y2 : wL.heap[w.heap.size + 2]? = some (.cells #[.slice A b.length c] 22) := by
   rw [hwL]
   have := heap_alloc_new ((w.alloc (.cells #[.slice none 0 0] 56)).alloc (.cells #[.int .i64 (b.length : Int)] 3)) (.cells #[.slice A b.length c] 22)
   rwa [z1] at this
 have hbl : Below w.heap.size w wL := by rw [hwL]; exact (((Below.refl _ _).alloc (Nat.le_refl _) _).alloc (by simp) _).alloc (by simp; omega) _
 have hzl : wL.heap.size = w.heap.size + 3 := by rw [hwL]; simp
 have HSI : Hid (SI w b [] wL) := hid ⟨⟨none, 0, y0, OwnFv.nil, by simp [blk]⟩, y1, fun x hx => (by cases hx), hbl, by omega⟩
 have HHB : Hid (∀ W, Below wL.heap.size wL W → HBs W w.heap.size A b) := hid (fun W hW => by
   have h0 : HBs wL w.heap.size A b := ⟨(HH.out.below hbl (Nat.le_refl _)).more hbl.size, fun hb g hg => by
     obtain ⟨ad, e, h1, _⟩ := HH.out.2 (List.length_pos_iff.2 hb)
     rw [e] at hg
     have : ad.block = g := by simpa [blk] using hg
     exact .inl (by omega)⟩
   exact h0.below hW)
 have HY2 := hid y2
 have HZL := hid hzl
 rw [z1]
 clear y0 y1 y2 hbl hzl z1 hwL
 have HSEQ : Hid (SeqG (fun r => r = w.heap.size + 2) Fence.wide 4 Tryz.prog 90 #[.pointer (some ⟨w.heap.size + 2, 0, none⟩)] Fx.encs (SG w) (KpF w.heap.size) (ScanS b) (fun _ => True) (b.length + 1) wL) := hid (fun L J Jx W hW hJ hJx hY h0 =>
   frames1_in L (w.heap.size + 2) w.heap.size b hl A c (by omega) J Jx hJ hY W ((hW.block _ (by have := HZL.out; omega)).trans HY2.out) (HHB.out W hW) hc hcc h0)
 have HI1 : Hid (OwnFrom wL.heap.size (SI w b)) := hid (fun s A B row hs hg hr => SI.grown hs hg (fun r e => .inr ⟨by have := (hr r e).1; have := HZL.out; omega, (hr r e).2⟩))
 have HI2 : Hid (AbO (fun r => r = w.heap.size + 2) (SI w b)) := hid (fun s A B row hs hg hr => SI.grown hs hg (fun r e => .inl (hr r e)))
 have HG1 : Hid (OwnFrom wL.heap.size (SG w)) := hid (fun x A B row hs hg hr => by
   refine ⟨hs.1.kept hg ?_, hs.2⟩
   rcases hA : blk x.f.A with _ | g
   · exact .inl rfl
   · obtain ⟨_, cs, fr, hc⟩ := own_tag hs.1 hA
     refine .inr (fun e => ?_)
     obtain ⟨_, o, h1, h2⟩ := hr g e.symm
     exact tag_ne hc h1 h2 rfl)
 have HKA : Hid (∀ (x : Fx) (W : World), KpF w.heap.size W (W.alloc (.cells #[.int .u8 (x.f.k.toNat : Int), .slice x.f.A x.f.b.length x.f.c] 60))) := hid (fun x W => ⟨by simp, fun k hk hz => heap_alloc_old W _ hz, fun k cs T fr _ h => (heap_alloc_old W _ (Array.getElem?_eq_some_iff.1 h).1).trans h⟩)
 have HKB : Hid (∀ (W : World) (l : Nat) (o o' : Obj), wL.heap.size ≤ l → W.heap[l]? = some o → o.isCells = false → KpF w.heap.size W (W.putObj l o')) := hid (fun W l o o' h1 h2 h3 => ⟨by simp [World.putObj], fun k hk _ => World.putObj_heap_other (by have := HZL.out; omega), fun k cs T fr _ h => (World.putObj_heap_other (tag_ne h h2 h3)).trans h⟩)
 gi_wp2_with fail
 refine rangeFunc_g (own := fun r => r = w.heap.size + 2) rfl (by decide) (gf := 90) (lb := #[.pointer (some ⟨w.heap.size + 2, 0, none⟩)]) rfl trivial (enters_of Tryz.func90 (by kernel_rfl) rfl)
   HSEQ.out (fun r e => by rw [e]; have := HZL.out; omega) KpF.trans HG1.out HKB.out (fun _ => rfl) (SI w b) (fun _ _ _ => False) HI1.out (fun _ _ _ _ _ hs _ _ => hs) HI2.out (fun _ _ _ _ _ hs _ _ => hs) HSI.out
   (fun x W0 => { tmps := #[.slice A b.length c, undef, .slice none 0 0, .int .i64 0, .pointer (some ⟨w.heap.size, 0, none⟩), .pointer (some ⟨w.heap.size + 1, 0, none⟩), .pointer (some ⟨W0.heap.size, 0, none⟩), .int .i64 (x.n : Int), .slice A b.length c, .int .i64 (b.length : Int), .slice A b.length c, .func (.func 90) #[] #[.pointer (some ⟨w.heap.size + 2, 0, none⟩)], .agg #[.int .u8 (x.f.k.toNat : Int), .slice x.f.A x.f.b.length x.f.c], .int .i64 (x.n : Int), undef, undef, undef, undef, undef, undef, undef, undef, undef, undef], defers := [] })
   (fun x W => W.alloc (.cells #[.int .u8 (x.f.k.toNat : Int), .slice x.f.A x.f.b.length x.f.c] 60)) (fun x W => World.grownBy_alloc W _ none) HKA.out
   (fun x W0 W => W.heap[W0.heap.size]? = some (.cells #[.int .u8 (x.f.k.toNat : Int), .slice x.f.A x.f.b.length x.f.c] 60)) (fun x W => heap_alloc_new W _)
   (fun W0 x A B row hs hg hr => (hg.block _ (Array.getElem?_eq_some_iff.1 hs).1 (fun e => by obtain ⟨_, o, h1, h2⟩ := hr _ e.symm; exact tag_ne hs h1 h2 rfl)).trans hs) ?assign ?body ?done ?stop
 case assign =>
   intro L x W K hK
   simp only [Fx.encs]
   gi_wp2_with fail
   exact hK
 case stop =>
   rintro D c pre W _ _ h _
   exact h.elim
 case body =>
   rintro L pre x W0 W hi hgx hfa hW0 hlen
   obtain ⟨OA, OC, e1, e2, e3⟩ := hi.ex
   have t0 := box_cell e1
   have u0 := box_frozen e1
   have t1 := box_cell hi.bx
   have u1 := box_frozen hi.bx
   have c0 := cell_of_row W W0.heap.size 0 _ _ (0, 0) hfa
   have c1 := cell_of_row W W0.heap.size 1 _ _ (0, 0) hfa
   simp only [List.getElem?_toArray, List.getElem?_cons_zero, List.getElem?_cons_succ] at c0 c1
   have HE1 := hid e1
   have HE2 := hid e2
   have HE3 := hid e3
   have HIW := hid hi
   have HGX := hid hgx
   have hml : (pre.map Fx.f).length = pre.length := List.length_map _
   have HML := hid hml
   have hsz : w.heap.size + 2 < W.heap.size := hi.lt
   obtain ⟨⟨k, fA, fc, fb⟩, n⟩ := x
   simp only at c0 c1 hfa
   clear e1 e2 e3 hi hgx hfa hml
   simp only
   gi_wp2_with (gi_at_builtin; refine wpListIn_append_s _ rfl _ _ frT rfl w.heap.size OA OC (pre.map Fx.f) (by rw [HML.out]; rfl) (HE2.out.row.alloc _) (W.heap.size + 1) (some ⟨W.heap.size, 0, none⟩) 1 1 [⟨k, fA, fc, fb⟩] rfl rfl (rd_frame_new _ W ⟨k, fA, fc, fb⟩) (by rw [HML.out]; simp; omega) (by rw [HML.out]; unfold maxLen; simp; omega) (by simp; omega) ?_)
   intro OA' OC' LL w9 hLL hoL hgL hatL
   have hln : LL.length = pre.length + 1 := by rw [hLL, List.length_append, HML.out]; rfl
   rw [hLL] at hoL
   have HST := hid (SI.step wL.heap.size HIW.out HGX.out HE1.out HE2.out HE3.out hgL hatL hoL)
   obtain ⟨v0, v1⟩ := HIW.out.x01 HE1.out HE2.out hgL
   have t0 := box_cell v0
   have u0 := box_frozen v0
   have t1 := box_cell v1
   have u1 := box_frozen v1
   rw [hln]
   clear hLL hoL hgL hatL v0 v1 hln c0 c1
   gi_wp2_with fail
   exact HST.out
 case done =>
   rintro D ys W hD hys hi hK
   obtain ⟨OA, OC, e1, e2, e3⟩ := hi.ex
   have t0 := box_cell e1
   have t1 := box_cell hi.bx
   have HE2 := hid e2
   have HB := hid hi.below
   have HKD := hid hK
   have hz := hi.lt
   obtain ⟨r, hS, hT, hN⟩ := hys
   have HSC := hid hS
   have HTK := hid hT
   have HLN := hid hN
   rw [hN] at t1
   have hrl := hS.len.2
   clear e1 e2 e3 hi hK hS hT hN
   gi_wp2_with fail
   gi_region
   gi_wp2_with fail
   refine leaves_marks _ (fun W => results_tmp2 rfl _ _ W) (B := wL.heap.size) (A := W.drew) (fun W' hW => ?_) _ _ ⟨D, rfl, hD, HKD.out, (fun _ h => by cases h), trivial⟩ .refl
   have ho : OwnFv 60 W' w.heap.size OA OC (ys.map Fx.f) := ⟨hW.row HE2.out.row, fun f hf => ⟨hW.row (HE2.out.own f hf).1, (HE2.out.own f hf).2⟩⟩
   refine ⟨ys.map Fx.f, r, OA, OC, ?_, HTK.out, ?_, ho.rd, ho.row.cap, ownS_cap_le ho.row, hW.blw HB.out.drew (by have := HZL.out; omega)⟩
   · rw [List.map_map]; exact HSC.out
   · rw [List.length_map]; rfl
end Go.Proofs.YtgafionfojnieaaGreatDoor
namespace Go.Proofs.YtgafionfojnieaaGreatDoor
open Go.RowKit
open Lib (hid)
def NoB (w : World) (row : Option Nat) : Prop := ∀ g, row = some g → ∃ cs T fr, w.heap[g]? = some (.cells cs T fr) ∧ T ≠ 5
theorem OwnS.nob {α : Type} {f : α → List Value} {n base c : Nat} {w : World} {e : TypeId} {A : Option Addr} {l : List α} (h : OwnS f n w base e A c l) (he : e ≠ 5) : NoB w (blk A) := fun g hg => by
 obtain ⟨_, cs, fr, h1⟩ := ownS_tag h hg
 exact ⟨cs, e, fr, h1, he⟩
theorem NoB.below {w w' : World} {row : Option Nat} (h : NoB w row) (hb : Below w.heap.size w w') : NoB w' row := fun g hg => by
 obtain ⟨cs, T, fr, h1, h2⟩ := h g hg
 exact ⟨cs, T, fr, (hb.block g (Array.getElem?_eq_some_iff.1 h1).1).trans h1, h2⟩
theorem Own.kept_tag {w w' : World} {base c : Nat} {A : Option Addr} {l : List UInt8} {row : Option Nat} (h : Own w base 5 A c l) (hg : w.grownBy w' row) (hr : NoB w row) : Own w' base 5 A c l := by
 refine h.kept hg ?_
 rcases hA : blk A with _ | g
 · exact .inl rfl
 · refine .inr (fun e => ?_)
   obtain ⟨_, cs, fr, h1⟩ := own_tag h hA
   obtain ⟨cs', T, fr', h2, h3⟩ := hr g e.symm
   exact tag_ne2 h1 h2 (fun e => h3 e.symm) rfl
theorem HBs.grown {w w' : World} {base : Nat} {B : Option Addr} {r : List UInt8} {row : Option Nat} (h : HBs w base B r) (hg : w.grownBy w' row) (hr : NoB w row) (hb : ∀ g, row = some g → base ≤ g) : HBs w' base B r := h.keep hg.size (fun hne g hgg hlt => hg.block g hlt (fun e => by
 rcases h.at_ hne g hgg with h1 | ⟨cs, fr, h1⟩
 · have := hb g e.symm; omega
 · obtain ⟨cs', T, fr', h2, h3⟩ := hr g e.symm
   exact tag_ne2 h1 h2 (fun e => h3 e.symm) rfl))
structure OwnPv (w : World) (base : Nat) (A : Option Addr) (c : Nat) (l : List Pv) : Prop where
 row : OwnS Pv.cells 2 w base 77 A c l
 own : ∀ p ∈ l, Own w base 5 p.kA p.kc p.k ∧ Own w base 5 p.vA p.vc p.v
section
variable {w w' : World} {base c c' : Nat} {A A' : Option Addr} {l : List Pv} {p : Pv}
theorem OwnPv.nil : OwnPv w base none 0 [] := ⟨OwnS.nil _ _ _, fun f hf => by cases hf⟩
theorem OwnPv.call (h : OwnPv w base A c l) (hb : Below w.heap.size w w') : OwnPv w' base A c l := ⟨h.row.below hb, fun f hf => ⟨(h.own f hf).1.below hb, (h.own f hf).2.below hb⟩⟩
theorem OwnPv.nob (h : OwnPv w base A c l) : NoB w (blk A) := h.row.nob (by decide)
theorem OwnPv.app (h : OwnPv w base A c l) (hk : Own w base 5 p.kA p.kc p.k) (hv : Own w base 5 p.vA p.vc p.v) (ho : OwnS Pv.cells 2 w' base 77 A' c' (l ++ [p])) (hg : w.grownBy w' (blk A)) : OwnPv w' base A' c' (l ++ [p]) := by
 refine ⟨ho, fun q hq => ?_⟩
 simp only [List.mem_append, List.mem_singleton] at hq
 rcases hq with hq | hq
 · exact ⟨(h.own q hq).1.kept_tag hg h.nob, (h.own q hq).2.kept_tag hg h.nob⟩
 · rw [hq]; exact ⟨hk.kept_tag hg h.nob, hv.kept_tag hg h.nob⟩
theorem OwnPv.mono (h : OwnPv w base A c l) {base' : Nat} (hb : base' ≤ base) : OwnPv w base' A c l := ⟨h.row.mono hb, fun p hp => ⟨(h.own p hp).1.mono hb, (h.own p hp).2.mono hb⟩⟩
theorem OwnPv.rd (h : OwnPv w base A c l) : RdPv w w.heap.size A l := ⟨h.row.rd, fun p hp => ⟨(h.own p hp).1.rd, (h.own p hp).2.rd, (h.own p hp).1.cap, (h.own p hp).2.cap, (h.own p hp).1.cap_le, (h.own p hp).2.cap_le⟩⟩
end
def ParsedP (w : World) (b : List UInt8) (e : Ending) (w' : World) : Prop := Below w.heap.size w w' ∧
 ((∃ x : Int, x ≠ 0 ∧ e = .returned (.tuple #[.slice none 0 0, .int .i64 x]) ∧ ∀ l0, ¬ Blk.WFb b l0) ∨
  (∃ (l : List Pv) (A : Option Addr) (c : Nat), e = .returned (.tuple #[.slice A l.length c, .int .i64 0]) ∧ OwnPv w' w.heap.size A c l ∧ l.length ≤ b.length ∧ (∀ p ∈ l, p.k.length ≤ b.length ∧ p.v.length ≤ b.length) ∧ ∀ l0, Blk.WFb b l0 → l0 = l.map Pv.pr))
theorem parsed_no {w w' : World} {b : List UInt8} (hb : Below w.heap.size w w') (x : Int) (hx : x ≠ 0) (h : ∀ l0, ¬ Blk.WFb b l0) : ParsedP w b (.returned (.tuple #[.slice none 0 0, .int .i64 x])) w' := ⟨hb, .inl ⟨x, hx, rfl, h⟩⟩
end Go.Proofs.YtgafionfojnieaaGreatDoor
