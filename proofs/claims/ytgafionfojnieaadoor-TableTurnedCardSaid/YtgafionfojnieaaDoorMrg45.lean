/- Parts of the proof, one behind the other: Plain: the record of a pair.; Plain: what a table's bytes are, frame by frame.; Plain: what is known while a table's bytes are read. -/
import Derived.Test.YtgafionfojnieaaDoorMrg43
import Derived.Test.YtgafionfojnieaaDoorMrg40
import Derived.Test.YtgafionfojnieaaDoorMrg44
import Derived.Test.YtgafionfojnieaaDoorMrg14
import Derived.Test.YtgafionfojnieaaDoorMrg39
import Derived.Test.YtgafionfojnieaaDoorMrg41
namespace Go.Proofs.YtgafionfojnieaaDoor
open Go.RowKit

/-- What a record may be: if the pair is a right record's, then that one's. -/
def RecOf (p : Pr) (v : Option (List UInt8 × Int × Bool × List UInt8)) : Prop := ∀ r : Rv, Tb.right r = true → Tb.inner r = p → v = some (r.k, r.seq, r.del, r.v)
theorem iparts_all (k : List UInt8) (n : Nat) (hn : n < 18446744073709551616) : Cod.AllN (Tb.iparts k n) := by
  intro p hp
  simp only [Tb.iparts, List.mem_cons, List.not_mem_nil, or_false] at hp
  rcases hp with rfl | rfl
  · exact ⟨by simp, fun _ => rfl, fun h => by cases h⟩
  · exact ⟨hn, (fun h => by cases h), fun _ => rfl⟩
theorem inner_parts {p : Pr} {r : Rv} (hr : Tb.right r = true) (h : Tb.inner r = p) : ∃ n : Nat, n < 1099511627776 ∧ (n : Int) = 1099511627776 - r.seq ∧ p.k = Cod.key (Tb.iparts r.k n) ∧ p.v = (if r.del then 1 else 0) :: r.v := by
  have h1 := (Tb.right_iff _).1 hr
  refine ⟨(1099511627776 - r.seq).toNat, by omega, by omega, ?_, ?_⟩
  · rw [← h]; rfl
  · rw [← h]; rfl
theorem recOf_no1 {p : Pr} (h : ∀ l, Cod.AllN l → Cod.key l ≠ p.k) : RecOf p none := fun r hr e => by
  obtain ⟨n, h1, _, h3, _⟩ := inner_parts hr e
  exact absurd h3.symm (h _ (iparts_all _ _ (by omega)))
theorem recOf_l {p : Pr} {l : List Pt} (hl : Cod.AllN l) (hk : Cod.key l = p.k) {r : Rv} (hr : Tb.right r = true) (e : Tb.inner r = p) : ∃ n : Nat, n < 1099511627776 ∧ (n : Int) = 1099511627776 - r.seq ∧ l = Tb.iparts r.k n ∧ p.v = (if r.del then 1 else 0) :: r.v := by
  obtain ⟨n, h1, h2, h3, h4⟩ := inner_parts hr e
  exact ⟨n, h1, h2, Cod.key_inj hl (iparts_all _ _ (by omega)) (hk.trans h3), h4⟩
theorem recOf_no {p : Pr} {l : List Pt} (hl : Cod.AllN l) (hk : Cod.key l = p.k) (hno : ∀ (k : List UInt8) (n : Nat) (v : List UInt8) (d : Bool), l = Tb.iparts k n → n < 1099511627776 → p.v = (if d then 1 else 0) :: v → False) : RecOf p none := fun r hr e => by
  obtain ⟨n, h1, _, h3, h4⟩ := recOf_l hl hk hr e
  exact (hno _ _ _ _ h3 h1 h4).elim
theorem recOf_yes {p : Pr} {p0 p1 : Pt} {h : UInt8} {v : List UInt8} (hl : Cod.AllN [p0, p1]) (hk : Cod.key [p0, p1] = p.k) (hv : p.v = h :: v) : RecOf p (some (p0.s.data.toList, 1099511627776 - (p1.n : Int), h == 1, v)) := fun r hr e => by
  obtain ⟨n, h1, h2, h3, h4⟩ := recOf_l hl hk hr e
  unfold Tb.iparts at h3
  injection h3 with e1 h3
  injection h3 with e2 _
  subst e1 e2
  rw [hv] at h4
  injection h4 with h5 h6
  subst h6
  have hd : (h == 1) = r.del := by rw [h5]; cases r.del <;> rfl
  simp only [hd]
  have h7 : (1099511627776 : Int) - (n : Int) = r.seq := by omega
  rw [h7]
theorem esc_len (l : List UInt8) : l.length ≤ (Esc.esc 0 [0, 255] l).length := by
  induction l with
  | nil => simp
  | cons c l ih =>
    rw [Esc.esc_cons, List.length_append, List.length_cons]
    have : 1 ≤ (if c = 0 then [0, 255] else [c] : List UInt8).length := by split <;> simp
    omega
theorem key_text_len {p0 : Pt} {l : List Pt} (h : p0.t = true) : p0.s.data.toList.length ≤ (Cod.key (p0 :: l)).length := by
  rw [Cod.key_cons]
  unfold Cod.partKey
  rw [if_pos h]
  have := esc_len p0.s.data.toList
  simp only [List.length_append, List.length_cons]
  omega
/-- What 'record' gives. -/
def RecP (w : World) (base : Nat) (p : Pv) (e : Ending) (w' : World) : Prop := Below w.heap.size w w' ∧
  ((e = .returned (.tuple #[.agg #[.slice none 0 0, .int .i64 0, .bool false, .slice none 0 0], .bool false]) ∧ RecOf p.pr none) ∨
   (∃ r : Rv, e = .returned (.tuple #[r.val, .bool true]) ∧ RecOf p.pr (some (r.k, r.seq, r.del, r.v)) ∧ HBs w' base r.kA r.k ∧ r.k.length ≤ r.kc ∧ HBs w' base r.vA r.v ∧ r.v.length ≤ r.vc ∧ r.k.length ≤ p.k.length ∧ r.v.length ≤ p.v.length))
theorem recP_no {w w' : World} {base : Nat} {p : Pv} (hb : Below w.heap.size w w') (h : RecOf p.pr none) : RecP w base p (.returned (.tuple #[.agg #[.slice none 0 0, .int .i64 0, .bool false, .slice none 0 0], .bool false])) w' := ⟨hb, .inl ⟨rfl, h⟩⟩
theorem heap_set4 {w : World} {g : Nat} {x y z u a b c d : Value} {T : TypeId} (h : w.heap[g]? = some (.cells #[x, y, z, u] T)) : ((((w.setCell ⟨g, 0, none⟩ a).setCell ⟨g, 1, none⟩ b).setCell ⟨g, 2, none⟩ c).setCell ⟨g, 3, none⟩ d).heap[g]? = some (.cells #[a, b, c, d] T) := by
  have h1 := heap_setCell_same w g 0 _ T a h
  have h2 := heap_setCell_same _ g 1 _ T b h1
  have h3 := heap_setCell_same _ g 2 _ T c h2
  have h4 := heap_setCell_same _ g 3 _ T d h3
  simpa using h4
theorem HBs.set4 {w : World} {base g : Nat} {x y z u a b c d : Value} {T : TypeId} {B : Option Addr} {r : List UInt8} (h : HBs w base B r) (hb : w.heap[g]? = some (.cells #[x, y, z, u] T)) (hT : T ≠ 5) (hg : base ≤ g) : HBs ((((w.setCell ⟨g, 0, none⟩ a).setCell ⟨g, 1, none⟩ b).setCell ⟨g, 2, none⟩ c).setCell ⟨g, 3, none⟩ d) base B r := h.keep (by simp) (fun hne k hk _ => by
  have e : k ≠ g := fun e => by
    subst e
    rcases h.at_ hne k hk with h1 | ⟨cs', fr', h1⟩
    · omega
    · exact tag_ne2 h1 hb (fun e => hT e.symm) rfl
  rw [heap_setD _ e, heap_setD _ e, heap_setD _ e, heap_setD _ e])
theorem HBs.drew {w : World} {base : Nat} {B : Option Addr} {r : List UInt8} (h : HBs w base B r) : HBs w.drew base B r := ⟨h.rd, h.at_⟩
theorem HBs.tail {w : World} {base g off c : Nat} {x : UInt8} {r : List UInt8} (h : HBs w base (some ⟨g, off, none⟩) (x :: r)) (hc : r.length + 1 ≤ c) : HBs w base (if c = 1 then some ⟨g, off, none⟩ else some ⟨g, off + 1, none⟩) r := by
  have h1 := h.rd.cut (k := 1) (c := c) (by simp) (by simpa using hc)
  simp only [List.drop_succ_cons, List.drop_zero] at h1
  refine ⟨h1, fun _ k hk => h.at_ (by simp) k ?_⟩
  split at hk <;> exact hk
theorem rec_size : (Tryd.prog.info? 37).map (fun x => x.size) = some 4 := by kernel_rfl
end Go.Proofs.YtgafionfojnieaaDoor

namespace Go.Proofs.YtgafionfojnieaaDoor
open Go.RowKit

/-- What of a record is in a table. -/
def Rv.core (r : Rv) : List UInt8 × Int × Bool × List UInt8 := (r.k, r.seq, r.del, r.v)
namespace Tb
/-- The bytes are that table. -/
def Is (b : List UInt8) (l : List Rv) (s t : Int) : Prop := build l s t = (0, b)
structure IsU (b : List UInt8) (l : List Rv) (s t : Int) : Prop where
  s1 : 64 ≤ s
  s2 : s ≤ 32768
  t1 : 1 ≤ t
  t2 : t ≤ 32
  l1 : 1 ≤ l.length
  l2 : l.length ≤ 20000
  r : ∀ r ∈ l, right r = true
  srt : sorted l = true
  good : (close (run s l)).bad = false
  fit : ∀ p ∈ ends (close (run s l)) s.toNat t.toNat l, p.2.length ≤ 65536
  eq : b = (close (run s l)).out ++ (ends (close (run s l)) s.toNat t.toNat l).flatMap (fun p => putL p.1 p.2)
theorem Is.unf {b : List UInt8} {l : List Rv} {s t : Int} (h : Is b l s t) : IsU b l s t := by
  unfold Is build at h
  by_cases h1 : s < 64 ∨ 32768 < s ∨ t < 1 ∨ 32 < t ∨ l.length < 1 ∨ 20000 < l.length ∨ l.any (fun r => !right r) = true
  · rw [if_pos h1] at h; cases h
  · rw [if_neg h1] at h
    by_cases h2 : sorted l = false
    · rw [if_pos h2] at h; cases h
    · rw [if_neg h2] at h
      simp only at h
      by_cases h3 : ((close (run s l)).bad || (ends (close (run s l)) s.toNat t.toNat l).any (fun p => !fits p.2)) = true
      · rw [if_pos h3] at h; cases h
      · rw [if_neg h3] at h
        injection h with _ h
        rw [Bool.or_eq_true, not_or] at h3
        obtain ⟨h4, h5⟩ := h3
        refine ⟨by omega, by omega, by omega, by omega, by omega, by omega, fun r hr => ?_, by simpa using h2, by simpa using h4, fun p hp => ?_, h.symm⟩
        · cases hx : right r with
          | true => rfl
          | false => exact absurd (.inr (.inr (.inr (.inr (.inr (.inr (List.any_eq_true.2 ⟨r, hr, by rw [hx]; rfl⟩))))))) h1
        · have h6 : fits p.2 = true := by
            cases hx : fits p.2 with
            | true => rfl
            | false => exact absurd (List.any_eq_true.2 ⟨p, hp, by rw [hx]; rfl⟩) h5
          unfold fits at h6
          exact of_decide_eq_true h6
theorem emits_out (gs : List (List Pr)) (h : ∀ x ∈ gs, x ≠ []) : (emits gs).out = gs.flatMap (fun g => putL 68 (blkB 16 g)) := by
  have key : ∀ k, k ≤ gs.length → (emits (gs.take k)).out = (gs.take k).flatMap (fun g => putL 68 (blkB 16 g)) := fun k => by
    induction k with
    | zero => intro _; rfl
    | succ k ih =>
      intro hk
      rw [emits_succ gs k (by omega), emit_eq _ _ (h _ (List.getElem_mem _)), List.take_succ_eq_append_getElem (by omega), List.flatMap_append, ← ih (by omega)]
      simp
  have := key gs.length (Nat.le_refl _)
  rwa [List.take_length] at this
theorem parts_flat (size : Int) (l : List Rv) (k : Nat) (h : k ≤ l.length) : (parts size (l.take k)).1.flatten = (l.take k).map inner := by
  induction k with
  | zero => rfl
  | succ k ih =>
    rw [parts_succ size l k (by omega), List.take_succ_eq_append_getElem (by omega), List.map_append, ← ih (by omega)]
    unfold pst
    split
    · simp
    · rename_i hc
      obtain ⟨P, g, hp⟩ : ∃ P g, (parts size (l.take k)).1 = P ++ [g] := ⟨_, _, (List.dropLast_concat_getLast (fun e => hc (.inl e))).symm⟩
      rw [hp]
      simp
/-- Adjacent keys rise. -/
def Adj (l : List Pr) : Prop := ∀ i a b, l[i]? = some a → l[i + 1]? = some b → Op.bytesLess a.k b.k = true
theorem adj_mid {x g y : List Pr} (h : Adj (x ++ g ++ y)) : Adj g := fun i a b ha hb => by
  have hi := (List.getElem?_eq_some_iff.1 ha).1
  have hi1 := (List.getElem?_eq_some_iff.1 hb).1
  refine h (x.length + i) a b ?_ ?_
  · rw [List.append_assoc, List.getElem?_append_right (by omega), List.getElem?_append_left (by omega)]
    rw [← ha]; congr 1; omega
  · rw [List.append_assoc, List.getElem?_append_right (by omega), List.getElem?_append_left (by omega)]
    rw [← hb]; congr 1; omega
theorem adj_srt {g : List Pr} (h : Adj g) : Blk.srt g = true := by
  rw [Blk.srt_iff]
  intro i hi h0 _
  exact h (i - 1) _ _ (List.getElem?_eq_getElem (by omega)) (by rw [Nat.sub_add_cancel h0]; exact List.getElem?_eq_getElem hi)
theorem sorted_at {l : List Rv} (h : sorted l = true) {i : Nat} (hi : i < l.length) (h0 : 0 < i) : ahead (l[i - 1]'(by omega)) l[i] = true := by
  cases hx : ahead (l[i - 1]'(by omega)) l[i] with
  | true => rfl
  | false => rw [sorted_no hi h0 hx] at h; cases h
theorem toList_mk (k : List UInt8) : (⟨k.toArray⟩ : ByteArray).data.toList = k := rfl
theorem inner_less {a b : Rv} (ha : right a = true) (hb : right b = true) (h : ahead a b = true) : Op.bytesLess (inner a).k (inner b).k = true := by
  have ra := (right_iff a).1 ha
  have rb := (right_iff b).1 hb
  have e := Cod.key_order (iparts a.k (1099511627776 - a.seq).toNat) (iparts b.k (1099511627776 - b.seq).toNat) (fun p hp => by
    simp only [iparts, List.mem_cons, List.not_mem_nil, or_false] at hp
    rcases hp with rfl | rfl <;> simp <;> omega) (fun p hp => by
    simp only [iparts, List.mem_cons, List.not_mem_nil, or_false] at hp
    rcases hp with rfl | rfl <;> simp <;> omega)
  show Op.bytesLess (ikey a.k a.seq) (ikey b.k b.seq) = true
  unfold ikey
  rw [e]
  unfold ahead at h
  rw [Bool.or_eq_true, Bool.and_eq_true] at h
  unfold iparts
  by_cases hk : a.k = b.k
  · have hlt : b.seq < a.seq := by
      rcases h with h | h
      · rw [hk] at h
        have := Cod.bytesLess_same b.k [] []
        simp only [List.append_nil] at this
        rw [this] at h; cases h
      · exact of_decide_eq_true h.2
    have e1 : Cod.ptSame ⟨true, 0, ⟨a.k.toArray⟩⟩ ⟨true, 0, ⟨b.k.toArray⟩⟩ = true := by unfold Cod.ptSame; simp [hk]
    have e2 : Cod.ptSame ⟨false, (1099511627776 - a.seq).toNat, ⟨#[]⟩⟩ ⟨false, (1099511627776 - b.seq).toNat, ⟨#[]⟩⟩ = false := by unfold Cod.ptSame; simp; omega
    unfold Cod.less
    rw [if_pos e1]
    unfold Cod.less
    rw [if_neg (by rw [e2]; simp)]
    unfold Cod.ptLess
    simp
    omega
  · have hl : Op.bytesLess a.k b.k = true := by
      rcases h with h | h
      · exact h
      · exact absurd (by simpa using h.1) hk
    have e1 : Cod.ptSame ⟨true, 0, ⟨a.k.toArray⟩⟩ ⟨true, 0, ⟨b.k.toArray⟩⟩ = false := by unfold Cod.ptSame; simp [hk]
    unfold Cod.less
    rw [if_neg (by rw [e1]; simp)]
    unfold Cod.ptLess
    simpa using hl
theorem adj_inner {l : List Rv} (hr : ∀ r ∈ l, right r = true) (h : sorted l = true) : Adj (l.map inner) := fun i a b ha hb => by
  rw [List.getElem?_map] at ha hb
  obtain ⟨x, hx, rfl⟩ := Option.map_eq_some_iff.1 ha
  obtain ⟨y, hy, rfl⟩ := Option.map_eq_some_iff.1 hb
  obtain ⟨h1, e1⟩ := List.getElem?_eq_some_iff.1 hx
  obtain ⟨h2, e2⟩ := List.getElem?_eq_some_iff.1 hy
  have h3 := sorted_at h h2 (by omega)
  simp only [Nat.add_sub_cancel] at h3
  rw [e1, e2] at h3
  exact inner_less (hr _ (by rw [← e1]; exact List.getElem_mem _)) (hr _ (by rw [← e2]; exact List.getElem_mem _)) h3
theorem flat_app (x y : List (UInt8 × List UInt8)) : Frm.flat (x ++ y) = Frm.flat x ++ Frm.flat y := by simp [Frm.flat]
theorem putL_put {k : UInt8} {b : List UInt8} (h : b.length ≤ 65536) : putL k b = Frm.put k b := if_pos h
theorem flatMap_cg {α : Type} {f g : α → List UInt8} : ∀ {l : List α}, (∀ x ∈ l, f x = g x) → l.flatMap f = l.flatMap g
  | [], _ => rfl
  | a :: l, h => by rw [List.flatMap_cons, List.flatMap_cons, h a (by simp), flatMap_cg (fun x hx => h x (by simp [hx]))]
/-- A table's frames. -/
structure Fms (b : List UInt8) (l : List Rv) (s t : Int) (gs : List (List Pr)) (fs : List (UInt8 × List UInt8)) : Prop where
  ne : gs ≠ []
  gne : ∀ g ∈ gs, g ≠ []
  wf : ∀ g ∈ gs, Blk.WFb (blkB 16 g) g
  flat : gs.flatten = l.map inner
  form : ∃ f ix, fs = gs.map (fun g => ((68 : UInt8), blkB 16 g)) ++ [(70, f), (73, ix), (90, nums [s.toNat, t.toNat, l.length, (low l).toNat, (high l).toNat])]
  scan : Frm.Scans b fs []
theorem Is.frames {b : List UInt8} {l : List Rv} {s t : Int} (h : Is b l s t) : ∃ gs fs, Fms b l s t gs fs := by
  have u := h.unf
  obtain ⟨h1, h2⟩ := close_run s u.s1 l (by have := u.l1; omega)
  obtain ⟨gs, hgs⟩ : ∃ gs, gs = (parts s l).1 := ⟨_, rfl⟩
  rw [← hgs] at h1 h2
  have hfl : gs.flatten = l.map inner := by
    have := parts_flat s l l.length (Nat.le_refl _)
    rw [List.take_length] at this
    rw [hgs]; exact this
  have hbad := u.good
  rw [h1, emits_bad gs h2] at hbad
  have hfit : ∀ g ∈ gs, (blkB 16 g).length ≤ 65536 := fun g hg => by
    have := List.any_eq_false.1 hbad g hg
    have h3 : fits (blkB 16 g) = true := by simpa using this
    exact of_decide_eq_true h3
  have heq := u.eq
  have hft := u.fit
  rw [h1] at heq hft
  rw [emits_out gs h2] at heq
  have hbd : ∀ x ∈ gs, ∀ p ∈ x, p.k.length ≤ 10000 ∧ p.v.length ≤ 10000 := by
    have := parts_bytes s l u.r l.length (Nat.le_refl _)
    rw [List.take_length, ← hgs] at this
    exact this
  have hln : ∀ x ∈ gs, x.length ≤ 20000 := fun x hx => by
    have := parts_lens s l l.length (Nat.le_refl _)
    rw [List.take_length, ← hgs] at this
    exact Nat.le_trans (this x hx) u.l2
  have hadj := adj_inner u.r u.srt
  have hwf : ∀ g ∈ gs, Blk.WFb (blkB 16 g) g := fun g hg => by
    have hs : Blk.srt g = true := by
      obtain ⟨X, Y, e⟩ := List.append_of_mem hg
      rw [← hfl, e] at hadj
      refine adj_srt (adj_mid (x := X.flatten) (y := Y.flatten) ?_)
      simpa using hadj
    have he : Blk.err 16 g = 0 := by
      unfold Blk.err
      have := hln g hg
      rw [if_neg (by omega), hs]; rfl
    refine ⟨?_, he, fun p hp => by have := hbd g hg p hp; omega⟩
    unfold blkB
    rw [if_pos he]; rfl
  refine ⟨gs, gs.map (fun g => ((68 : UInt8), blkB 16 g)) ++ ends (emits gs) s.toNat t.toNat l, fun e => ?_, h2, hwf, hfl, ⟨_, _, rfl⟩, ?_, ?_⟩
  · rw [e] at hfl
    have := congrArg List.length hfl
    have := u.l1
    simp at *
    omega
  · rw [List.append_nil, heq, flat_app]
    congr 1
    · unfold Frm.flat
      rw [List.flatMap_map]
      exact flatMap_cg fun g hg => putL_put (hfit g hg)
    · unfold Frm.flat
      exact flatMap_cg fun p hp => putL_put (hft p hp)
  · intro p hp
    rw [List.mem_append] at hp
    rcases hp with hp | hp
    · obtain ⟨g, hg, rfl⟩ := List.mem_map.1 hp
      exact hfit g hg
    · exact hft p hp
end Tb
end Go.Proofs.YtgafionfojnieaaDoor

namespace Go.Proofs.YtgafionfojnieaaDoor
open Go.RowKit

namespace Tb
def bare (r : Rv) : Rv := ⟨none, 0, r.k, r.seq, r.del, none, 0, r.v⟩
theorem bare_sorted (l : List Rv) : sorted (l.map bare) = sorted l := by
  have key : ∀ a c : List Rv, a.length = c.length → (∀ i (h1 : i < a.length) (h2 : i < c.length), bare a[i] = bare c[i]) → sorted a = true → sorted c = true := fun a c hl he hs => by
    refine sorted_yes fun i hi h0 => ?_
    have h1 := sorted_at hs (i := i) (by omega) h0
    have e1 := he i (by omega) hi
    have e2 := he (i - 1) (by omega) (by omega)
    have g1 : ahead (bare (a[i - 1]'(by omega))) (bare (a[i]'(by omega))) = true := h1
    rw [e1, e2] at g1
    exact g1
  rw [Bool.eq_iff_iff]
  exact ⟨key _ _ (by simp) (fun i h1 h2 => by rw [List.getElem_map]; rfl), key _ _ (by simp) (fun i h1 h2 => by rw [List.getElem_map]; rfl)⟩
theorem foldl_bare {β : Type} (f : β → Rv → β) (hf : ∀ b r, f b (bare r) = f b r) : ∀ (l : List Rv) (b : β), (l.map bare).foldl f b = l.foldl f b
  | [], _ => rfl
  | a :: l, b => by rw [List.map_cons, List.foldl_cons, List.foldl_cons, hf, foldl_bare f hf l]
theorem head_bare (l : List Rv) : ((l.map bare).head?.map Rv.seq).getD 0 = (l.head?.map Rv.seq).getD 0 := by cases l <;> rfl
theorem low_bare (l : List Rv) : low (l.map bare) = low l := by
  unfold low
  rw [head_bare]
  exact foldl_bare (fun m r => min m r.seq) (fun _ _ => rfl) l _
theorem high_bare (l : List Rv) : high (l.map bare) = high l := by
  unfold high
  rw [head_bare]
  exact foldl_bare (fun m r => max m r.seq) (fun _ _ => rfl) l _
theorem run_bare (s : Int) (l : List Rv) : run s (l.map bare) = run s l := foldl_bare (add s) (fun _ _ => rfl) l _
theorem keys_bare (l : List Rv) : (l.map bare).map Rv.k = l.map Rv.k := by rw [List.map_map]; rfl
theorem any_bare (l : List Rv) : (l.map bare).any (fun r => !right r) = l.any (fun r => !right r) := by rw [List.any_map]; rfl
theorem build_bare (l : List Rv) (s t : Int) : build (l.map bare) s t = build l s t := by
  unfold build ends
  rw [any_bare, bare_sorted, run_bare, low_bare, high_bare, keys_bare, List.length_map]
theorem bare_core (l m : List Rv) (h : l.map Rv.core = m.map Rv.core) : l.map bare = m.map bare := by
  have e : ∀ l : List Rv, l.map bare = (l.map Rv.core).map (fun c => (⟨none, 0, c.1, c.2.1, c.2.2.1, none, 0, c.2.2.2⟩ : Rv)) := fun l => by rw [List.map_map]; rfl
  rw [e, e, h]
/-- A table's bytes come of the records alone. -/
theorem build_core {l m : List Rv} (h : l.map Rv.core = m.map Rv.core) (s t : Int) : build l s t = build m s t := by
  rw [← build_bare l, ← build_bare m, bare_core l m h]

/-- What scanning such bytes gives. -/
theorem Is.scanned {b r : List UInt8} {l : List Rv} {s t : Int} {L : List (UInt8 × List UInt8)} (h : Is b l s t) (hs : Frm.Scans b L r) (hn : Frm.take r = none) : r = [] ∧ ∃ gs, Fms b l s t gs L := by
  obtain ⟨gs, fs, hf⟩ := h.frames
  obtain ⟨e1, e2⟩ := Frm.scans_uniq _ _ _ _ _ hs hn hf.scan rfl
  exact ⟨e2, gs, by rw [e1]; exact hf⟩
theorem Fms.len {b : List UInt8} {l : List Rv} {s t : Int} {gs : List (List Pr)} {L : List (UInt8 × List UInt8)} (h : Fms b l s t gs L) : L.length = gs.length + 3 ∧ 0 < gs.length := by
  obtain ⟨f, ix, e⟩ := h.form
  exact ⟨by rw [e]; simp, List.length_pos_iff.2 h.ne⟩
def five (l : List Rv) (s t : Int) : List Nat := [s.toNat, t.toNat, l.length, (low l).toNat, (high l).toNat]
theorem Fms.foot {b : List UInt8} {l : List Rv} {s t : Int} {gs : List (List Pr)} {L : List (UInt8 × List UInt8)} (h : Fms b l s t gs L) {p : UInt8 × List UInt8} (hp : L[L.length - 1]? = some p) : p.2 = nums (five l s t) := by
  have hl := h.len
  obtain ⟨f, ix, e⟩ := h.form
  rw [hl.1] at hp
  rw [e, List.getElem?_append_right (by rw [List.length_map]; omega)] at hp
  have e1 : gs.length + 3 - 1 - (gs.map (fun g => ((68 : UInt8), blkB 16 g))).length = 2 := by rw [List.length_map]; omega
  rw [e1] at hp
  have h2 : ((90 : UInt8), nums [s.toNat, t.toNat, l.length, (low l).toNat, (high l).toNat]) = p := by simpa using hp
  rw [← h2]; rfl
theorem Fms.block {b : List UInt8} {l : List Rv} {s t : Int} {gs : List (List Pr)} {L : List (UInt8 × List UInt8)} (h : Fms b l s t gs L) {i : Nat} (hi : i < L.length - 3) {p : UInt8 × List UInt8} (hp : L[i]? = some p) : ∃ g, gs[i]? = some g ∧ Blk.WFb p.2 g ∧ g ≠ [] := by
  have hl := h.len
  have hi' : i < gs.length := by omega
  obtain ⟨f, ix, e⟩ := h.form
  rw [e, List.getElem?_append_left (by rw [List.length_map]; exact hi'), List.getElem?_map, List.getElem?_eq_getElem hi'] at hp
  have h2 : ((68 : UInt8), blkB 16 gs[i]) = p := by simpa using hp
  refine ⟨gs[i], List.getElem?_eq_getElem hi', ?_, h.gne _ (List.getElem_mem _)⟩
  rw [← h2]
  exact h.wf _ (List.getElem_mem _)

/-- Numbers told so far. -/
def NR (b : List UInt8) (told : List Nat) (rest : List UInt8) : Prop := ∀ l s t, Is b l s t → ∃ tl, five l s t = told ++ tl ∧ rest = nums tl
theorem five_bd {b : List UInt8} {l : List Rv} {s t : Int} (h : Is b l s t) : ∀ n ∈ five l s t, n ≤ 1099511627776 := by
  have u := h.unf
  have hb := lohi_bd l u.r (by have := u.l1; omega) l.length (Nat.le_refl _)
  rw [lowK_all, highK_all] at hb
  have h1 := u.s2; have h2 := u.t2; have h3 := u.l2
  intro n hn
  simp only [five, List.mem_cons, List.not_mem_nil, or_false] at hn
  rcases hn with rfl | rfl | rfl | rfl | rfl <;> omega
theorem nums_cons (n : Nat) (l : List Nat) : nums (n :: l) = Cod.number n ++ nums l := by simp [nums]
theorem NR.next {b rest : List UInt8} {told : List Nat} (h : NR b told rest) (hl : told.length < 5) {l : List Rv} {s t : Int} (hi : Is b l s t) : ∃ n r, Cod.take rest = some (n, r) ∧ n ≤ 1099511627776 ∧ ∃ tl, five l s t = (told ++ [n]) ++ tl ∧ r = nums tl := by
  obtain ⟨tl, e1, e2⟩ := h l s t hi
  cases tl with
  | nil =>
    have := congrArg List.length e1
    simp [five] at this
    omega
  | cons n tl =>
    have hn : n ≤ 1099511627776 := five_bd hi n (by rw [e1]; simp)
    refine ⟨n, nums tl, ?_, hn, tl, by rw [e1]; simp, rfl⟩
    rw [e2, nums_cons]
    exact Cod.take_of (by omega) _
theorem NR.step {b rest r : List UInt8} {told : List Nat} {n : Nat} (h : NR b told rest) (hl : told.length < 5) (ht : Cod.take rest = some (n, r)) : NR b (told ++ [n]) r := fun l s t hi => by
  obtain ⟨n', r', e, _, tl, e1, e2⟩ := h.next hl hi
  rw [ht] at e
  injection e with e; injection e with a c
  subst a c
  exact ⟨tl, e1, e2⟩
theorem NR.no {b rest : List UInt8} {told : List Nat} (h : NR b told rest) (hl : told.length < 5) (ht : Cod.take rest = none) (l : List Rv) (s t : Int) : ¬ Is b l s t := fun hi => by
  obtain ⟨_, _, e, _⟩ := h.next hl hi
  rw [ht] at e; cases e
theorem NR.big {b rest r : List UInt8} {told : List Nat} {n : Nat} (h : NR b told rest) (hl : told.length < 5) (ht : Cod.take rest = some (n, r)) (hn : ¬ n ≤ 1099511627776) (l : List Rv) (s t : Int) : ¬ Is b l s t := fun hi => by
  obtain ⟨n', _, e, h1, _⟩ := h.next hl hi
  rw [ht] at e
  injection e with e; injection e with a _
  subst a
  exact hn h1
theorem NR.all {b rest : List UInt8} {told : List Nat} (h : NR b told rest) (hl : told.length = 5) {l : List Rv} {s t : Int} (hi : Is b l s t) : told = five l s t := by
  obtain ⟨tl, e1, _⟩ := h l s t hi
  have := congrArg List.length e1
  have h5 : (five l s t).length = 5 := rfl
  rw [List.length_append] at this
  have : tl = [] := List.length_eq_zero_iff.1 (by omega)
  rw [e1, this, List.append_nil]
theorem NR.two {b rest : List UInt8} {n m : Nat} (h : NR b [n, m] rest) {l : List Rv} {s t : Int} (hi : Is b l s t) : s = (n : Int) ∧ t = (m : Int) ∧ n ≤ 32768 ∧ m ≤ 32 ∧ rest.length ≤ 30 := by
  have u := hi.unf
  obtain ⟨tl, e1, e2⟩ := h l s t hi
  unfold five at e1
  injection e1 with a1 e1
  injection e1 with a2 e1
  have h1 := u.s1; have h2 := u.s2; have h3 := u.t1; have h4 := u.t2
  refine ⟨by omega, by omega, by omega, by omega, ?_⟩
  have hb := five_bd hi
  have e3 : tl = [l.length, (low l).toNat, (high l).toNat] := e1.symm
  rw [e2, e3]
  have := nums_len [l.length, (low l).toNat, (high l).toNat] (fun n hn => by
    have := hb n (by unfold five; simp only [List.mem_cons] at hn ⊢; rcases hn with h | h | h | h <;> simp [h])
    omega) 3 (Nat.le_refl _)
  simpa using this

/-- Records read so far: j of the i-th block. -/
def TR (b : List UInt8) (L : List (UInt8 × List UInt8)) (i j : Nat) (R : List Rv) : Prop := ∀ l s t gs, Is b l s t → Fms b l s t gs L → R.length = (gs.take i).flatten.length + j ∧ R.map Rv.core = (l.map Rv.core).take R.length
theorem TR.start (b : List UInt8) (L : List (UInt8 × List UInt8)) : TR b L 0 0 [] := fun _ _ _ _ _ _ => ⟨rfl, rfl⟩
theorem flat_at {gs : List (List Pr)} {g : List Pr} {i j : Nat} {p : Pr} (hg : gs[i]? = some g) (hp : g[j]? = some p) : gs.flatten[(gs.take i).flatten.length + j]? = some p := by
  obtain ⟨hi, e⟩ := List.getElem?_eq_some_iff.1 hg
  have e2 : gs = gs.take i ++ g :: gs.drop (i + 1) := by
    rw [← e, List.getElem_cons_drop, List.take_append_drop]
  have hj := (List.getElem?_eq_some_iff.1 hp).1
  have e3 : gs.flatten = (gs.take i).flatten ++ (g ++ (gs.drop (i + 1)).flatten) := by
    conv => lhs; rw [e2]
    rw [List.flatten_append, List.flatten_cons]
  rw [e3, List.getElem?_append_right (by omega), Nat.add_sub_cancel_left, List.getElem?_append_left hj]
  exact hp
/-- The next record. -/
theorem TR.next {b : List UInt8} {L : List (UInt8 × List UInt8)} {i j : Nat} {R : List Rv} {p : Pr} {v : Option (List UInt8 × Int × Bool × List UInt8)} (h : TR b L i j R) (hv : RecOf p v) {l : List Rv} {s t : Int} {gs : List (List Pr)} (hi : Is b l s t) (hf : Fms b l s t gs L) {g : List Pr} (hg : gs[i]? = some g) (hp : g[j]? = some p) :
    ∃ r, l[R.length]? = some r ∧ v = some r.core := by
  obtain ⟨h1, h2⟩ := h l s t gs hi hf
  have h3 := flat_at hg hp
  rw [hf.flat, ← h1, List.getElem?_map] at h3
  obtain ⟨r, hr, e⟩ := Option.map_eq_some_iff.1 h3
  refine ⟨r, hr, hv r (hi.unf.r r ?_) e⟩
  obtain ⟨hx, e⟩ := List.getElem?_eq_some_iff.1 hr
  rw [← e]; exact List.getElem_mem _
/-- What a block's pairs are, in any table that the bytes are. -/
def BR (b : List UInt8) (L : List (UInt8 × List UInt8)) (i : Nat) (P : List Pr) : Prop := ∀ l s t gs, Is b l s t → Fms b l s t gs L → gs[i]? = some P
theorem TR.step {b : List UInt8} {L : List (UInt8 × List UInt8)} {i j : Nat} {R : List Rv} {P : List Pr} {p : Pr} {r : Rv} (h : TR b L i j R) (hb : BR b L i P) (hp : P[j]? = some p) (hv : RecOf p (some (r.k, r.seq, r.del, r.v))) : TR b L i (j + 1) (R ++ [r]) := fun l s t gs hi hf => by
  obtain ⟨h1, h2⟩ := h l s t gs hi hf
  obtain ⟨r', hr, e⟩ := h.next hv hi hf (hb l s t gs hi hf) hp
  injection e with e
  refine ⟨by rw [List.length_append, h1]; simp; omega, ?_⟩
  rw [List.map_append, h2, List.length_append, List.length_singleton, List.take_add_one]
  congr 1
  rw [List.getElem?_map, hr]
  show [r.core] = [r'.core]
  rw [← e]; rfl
theorem TR.no {b : List UInt8} {L : List (UInt8 × List UInt8)} {i j : Nat} {R : List Rv} {P : List Pr} {p : Pr} (h : TR b L i j R) (hb : BR b L i P) (hp : P[j]? = some p) (hv : RecOf p none) {r : List UInt8} (hs : Frm.Scans b L r) (hn : Frm.take r = none) (l : List Rv) (s t : Int) : ¬ Is b l s t := fun hi => by
  obtain ⟨_, gs, hf⟩ := hi.scanned hs hn
  obtain ⟨r', _, e⟩ := h.next hv hi hf (hb l s t gs hi hf) hp
  cases e
theorem TR.block {b : List UInt8} {L : List (UInt8 × List UInt8)} {i : Nat} {R : List Rv} {P : List Pr} (h : TR b L i P.length R) (hb : BR b L i P) : TR b L (i + 1) 0 R := fun l s t gs hi hf => by
  obtain ⟨h1, h2⟩ := h l s t gs hi hf
  obtain ⟨hx, e⟩ := List.getElem?_eq_some_iff.1 (hb l s t gs hi hf)
  refine ⟨?_, h2⟩
  rw [h1, List.take_succ_eq_append_getElem hx, List.flatten_append, e]
  simp
/-- A block as it was parsed. -/
theorem BR.of {b : List UInt8} {L : List (UInt8 × List UInt8)} {i : Nat} {f : UInt8 × List UInt8} {P : List Pr} (hL : L[i]? = some f) (hi : i < L.length - 3) (hP : ∀ l0, Blk.WFb f.2 l0 → l0 = P) : BR b L i P := fun l s t gs h hf => by
  obtain ⟨g, h1, h2, _⟩ := hf.block hi hL
  rw [h1, hP g h2]
theorem block_no {b r : List UInt8} {L : List (UInt8 × List UInt8)} {i : Nat} {f : UInt8 × List UInt8} (hL : L[i]? = some f) (hi : i < L.length - 3) (hP : ∀ l0, ¬ Blk.WFb f.2 l0) (hs : Frm.Scans b L r) (hn : Frm.take r = none) (l : List Rv) (s t : Int) : ¬ Is b l s t := fun h => by
  obtain ⟨_, gs, hf⟩ := h.scanned hs hn
  obtain ⟨g, h1, h2, _⟩ := hf.block hi hL
  exact hP g h2
theorem BR.ne {b r : List UInt8} {L : List (UInt8 × List UInt8)} {i : Nat} (h : BR b L i []) (hs : Frm.Scans b L r) (hn : Frm.take r = none) (l : List Rv) (s t : Int) : ¬ Is b l s t := fun hi => by
  obtain ⟨_, gs, hf⟩ := hi.scanned hs hn
  obtain ⟨hx, e⟩ := List.getElem?_eq_some_iff.1 (h l s t gs hi hf)
  exact hf.gne _ (List.getElem_mem hx) e
theorem TR.few {b : List UInt8} {L : List (UInt8 × List UInt8)} {i j : Nat} {R : List Rv} (h : TR b L i j R) {r : List UInt8} (hs : Frm.Scans b L r) (hn : Frm.take r = none) {l : List Rv} {s t : Int} (hi : Is b l s t) : R.length ≤ 20000 := by
  obtain ⟨_, gs, hf⟩ := hi.scanned hs hn
  obtain ⟨_, h2⟩ := h l s t gs hi hf
  have := congrArg List.length h2
  rw [List.length_map, List.length_take, List.length_map] at this
  have := hi.unf.l2
  omega
theorem TR.all {b : List UInt8} {L : List (UInt8 × List UInt8)} {R : List Rv} (h : TR b L (L.length - 3) 0 R) {r : List UInt8} (hs : Frm.Scans b L r) (hn : Frm.take r = none) {l : List Rv} {s t : Int} (hi : Is b l s t) : l.map Rv.core = R.map Rv.core := by
  obtain ⟨_, gs, hf⟩ := hi.scanned hs hn
  obtain ⟨h1, h2⟩ := h l s t gs hi hf
  have hl := hf.len
  have e : L.length - 3 = gs.length := by omega
  rw [e, List.take_length, hf.flat, List.length_map] at h1
  rw [h2, List.take_of_length_le (by rw [List.length_map]; omega)]
end Tb
end Go.Proofs.YtgafionfojnieaaDoor
