/- Parts of the proof, one behind the other: The skip list beside a table of the same records. -/
import Derived.Test.YtgafionfojnieaaGreatDoorMrg48
namespace Go.Proofs.YtgafionfojnieaaGreatDoor
open Go.RowKit
namespace Tb
theorem sorted_pos {R : List Rv} (hs : sorted R = true) (q : Rv) : ∃ P, Pos R q P := by
 have key : ∀ n, n ≤ R.length → (∀ m (h : m < R.length), m < n → ahead R[m] q = true) ∨ ∃ P, ∃ hP : P < R.length, (∀ m (h : m < R.length), m < P → ahead R[m] q = true) ∧ ahead R[P] q = false := fun n => by
   induction n with
   | zero => intro _; exact .inl (fun m _ h => by omega)
   | succ n ih =>
     intro hn
     rcases ih (by omega) with h | h
     · cases e : ahead (R[n]'(by omega)) q with
       | false => exact .inr ⟨n, by omega, h, e⟩
       | true =>
         refine .inl (fun m hm hlt => ?_)
         by_cases e2 : m = n
         · subst e2; exact e
         · exact h m hm (by omega)
     · exact .inr h
 rcases key R.length (Nat.le_refl _) with h | ⟨P, hP, h1, h2⟩
 · exact ⟨R.length, Nat.le_refl _, fun m hm _ => h m hm hm, fun m hm h3 => by omega⟩
 · refine ⟨P, by omega, h1, fun m hm hge => ?_⟩
   by_cases e : m = P
   · subst e; exact h2
   · cases hx : ahead R[m] q with
     | false => rfl
     | true =>
       rw [ahead_trans (sorted_any hs (i := P) (by omega) hm) hx] at h2
       cases h2
theorem fromL_nil (R : List Rv) : fromL R [] = R := by
 unfold fromL
 rw [List.filter_eq_self]
 intro r _
 cases r.k <;> rfl
end Tb
theorem SkAt.qryT {base b2 : Nat} {hd : Nd} {l : List Nd} {f : Nat → Nat → Option Nat} {w w' : World} {t : Ti} {F : Nat → Prop} (h : SkAt base hd l f w) (hq : Qry b2 t w w') (ht : TbAt b2 F t w) : SkAt base hd l f w' := by
 have key : ∀ (k : Nat) (cs : Array Value) (T : TypeId), w.heap[k]? = some (Obj.cells cs T) → T ≠ 72 → T ≠ 91 → w'.heap[k]? = some (Obj.cells cs T) := fun k cs T e h1 h2 => (hq.tagd k cs T _ e h1 h2).trans e
 have hbs : ∀ {A : Option Addr} {q : List UInt8}, HBs w base A q → HBs w' base A q := fun {A q} hb => hb.keep hq.below.size (fun hne g hg _ => by
   obtain ⟨g', o', e, _, hc⟩ := hb.rd.at_ (k := 0) (List.length_pos_iff.2 hne)
   rw [e] at hg
   have : g' = g := by simpa [blk] using hg
   subst this
   exact hq.cells ht hc (.inl ⟨_, rfl⟩))
 refine ⟨Nat.le_trans h.size hq.below.size, ?_, h.h12, h.ge, fun d hd2 => ?_, fun p hp => ?_, h.nd⟩
 · obtain ⟨a, b, e⟩ := h.list
   exact ⟨a, b, key _ _ _ e (by decide) (by decide)⟩
 · obtain ⟨h1, h2, h3, h4, h5⟩ := h.node d hd2
   exact ⟨h1, key _ _ _ h2 (by decide) (by decide), hbs h3, hbs h4, h5⟩
 · obtain ⟨h1, cs, h2, h3⟩ := h.rows p hp
   exact ⟨h1, cs, key _ _ _ h2 (by decide) (by decide), h3⟩
def SkOf (nds : List Nd) (R : List Rv) : Prop := nds.map (fun d => d.r.core) = R.map Rv.core
section
variable {nds : List Nd} {R : List Rv}
theorem SkOf.len (h : SkOf nds R) : nds.length = R.length := by
 have := congrArg List.length h
 simpa using this
theorem SkOf.at_ (h : SkOf nds R) {i : Nat} (hi : i < nds.length) (hi2 : i < R.length) : (nds[i]).r.core = R[i].core := by
 have h1 : (nds.map (fun d => d.r.core))[i]? = (R.map Rv.core)[i]? := by rw [h]
 rw [List.getElem?_map, List.getElem?_map, List.getElem?_eq_getElem hi, List.getElem?_eq_getElem hi2] at h1
 simpa using h1
theorem SkOf.pos (h : SkOf nds R) {q : List UInt8} {seq : Int} {P : Nat} (hp : Tb.Pos R (Tb.ask q seq) P) : ∀ i (hi : i < nds.length), (Tb.orI [Lib.compareBytes nds[i].r.k q, Tb.cmpI seq nds[i].r.seq] < 0) ↔ i < P := fun i hi => by
 have hi2 : i < R.length := by rw [← h.len]; exact hi
 have e1 : Tb.orI [Lib.compareBytes nds[i].r.k q, Tb.cmpI seq nds[i].r.seq] = Tb.ordI nds[i].r (Tb.ask q seq) := rfl
 rw [e1, Tb.ordI_neg, Tb.ahead_core (h.at_ hi hi2) (rfl : (Tb.ask q seq).core = (Tb.ask q seq).core)]
 constructor
 · intro h2
   rcases Nat.lt_or_ge i P with h3 | h3
   · exact h3
   · rw [hp.hi i hi2 h3] at h2; cases h2
 · intro h2
   exact hp.lo i hi2 h2
theorem SkOf.next (hs : Tb.sorted R = true) {k : Nat} (hk : k < R.length) (h : SkOf nds (R.take k)) : ∀ i (hi : i < nds.length), Tb.orI [Lib.compareBytes nds[i].r.k R[k].k, Tb.cmpI R[k].seq nds[i].r.seq] < 0 := fun i hi => by
 have hl := h.len
 rw [List.length_take] at hl
 have hi2 : i < (R.take k).length := by rw [List.length_take]; omega
 have e1 : Tb.orI [Lib.compareBytes nds[i].r.k R[k].k, Tb.cmpI R[k].seq nds[i].r.seq] = Tb.ordI nds[i].r R[k] := rfl
 have e2 := h.at_ hi hi2
 rw [List.getElem_take] at e2
 rw [e1, Tb.ordI_neg, Tb.ahead_core e2 rfl]
 exact Tb.sorted_any hs (by omega) hk
theorem SkOf.snoc {k : Nat} (hk : k < R.length) (h : SkOf nds (R.take k)) {d : Nd} (hd : d.r.core = R[k].core) : SkOf (nds ++ [d]) (R.take (k + 1)) := by
 unfold SkOf at *
 rw [List.map_append, h, List.take_succ_eq_append_getElem hk, List.map_append, List.map_singleton, List.map_singleton, hd]
theorem sgetV_any (tb base : Nat) (hd : Nd) (hc : SkOf nds R) (hs : Tb.sorted R = true) (qA : Option Addr) (qc : Nat) (q : List UInt8) (seq : Int) (w : World) (h : SkAt base hd nds (Sk.F nds) w) (hq : RdB w w.heap.size qA q) :
   Calls Tryz.prog 20 #[.pointer (some ⟨hd.g, 0, none⟩), .slice qA q.length qc, .int .i64 seq] w fun e w' => Below w.heap.size w w' ∧ ∃ (r : Rv) (is : Bool), e = .returned (.tuple #[r.val, .bool is]) ∧ TgV tb R q seq r is w' := by
 obtain ⟨P, hP⟩ := Tb.sorted_pos hs (Tb.ask q seq)
 have hPl : P ≤ nds.length := by rw [hc.len]; exact hP.le
 refine (sget_any base hd nds qA qc q seq P hPl w h hq (hc.pos hP)).mono fun e w' ⟨h1, h2⟩ => ⟨h1, ?_⟩
 have hg := hP.get hs
 rcases h2 with ⟨rfl, hno⟩ | ⟨d, r', hd1, hk, hco, rfl, ho1, ho2⟩
 · have hn : Tb.get R q seq = none := by
     rw [hg]
     rcases Nat.lt_or_ge P R.length with h3 | h3
     · rw [List.getElem?_eq_getElem h3]
       have h4 : P < nds.length := by rw [hc.len]; exact h3
       have h5 := hno _ (List.getElem?_eq_getElem h4)
       have h6 := hc.at_ h4 h3
       have h7 : (nds[P]).r.k = R[P].k := congrArg (·.1) h6
       rw [h7] at h5
       simp [h5]
     · rw [List.getElem?_eq_none h3]
   exact ⟨⟨none, 0, [], 0, false, none, 0, []⟩, false, rfl, hbs_nil _ _, hbs_nil _ _, Nat.le_refl _, Nat.le_refl _, by rw [hn]; rfl, by rw [hn]; rfl⟩
 · obtain ⟨h4, rfl⟩ := List.getElem?_eq_some_iff.1 hd1
   have h3 : P < R.length := by rw [← hc.len]; exact h4
   have h6 := hc.at_ h4 h3
   have h7 : (nds[P]).r.k = R[P].k := congrArg (·.1) h6
   have hn : Tb.get R q seq = some R[P] := by
     rw [hg, List.getElem?_eq_getElem h3]
     simp [← h7, hk]
   exact ⟨r', true, rfl, ho1.hbs, ho2.hbs, ho1.cap, ho2.cap, by rw [hn]; rfl, by rw [hn, hco, h6]⟩
theorem bk_late {tb : Nat} {key : List UInt8} {seq : Int} {wr w5 : World} {r : Rv} {is : Bool} (hs : tb ≤ wr.heap.size) (hb0 : Below wr.heap.size wr w5) (hb : w5.heap[wr.heap.size]? = some zObj) (h3 : TgV tb R key seq r is w5) :
   ∃ W6, (((w5.setCell ⟨wr.heap.size, 0, none⟩ (.slice r.kA r.k.length r.kc)).setCell ⟨wr.heap.size, 1, none⟩ (.int .i64 r.seq)).setCell ⟨wr.heap.size, 2, none⟩ (.bool r.del)).setCell ⟨wr.heap.size, 3, none⟩ (.slice r.vA r.v.length r.vc) = W6 ∧ Below wr.heap.size wr W6 ∧ Got tb R key seq wr.heap.size r is W6 := by
 have hg := grownBy_set4 w5 wr.heap.size (.slice r.kA r.k.length r.kc) (.int .i64 r.seq) (.bool r.del) (.slice r.vA r.v.length r.vc)
 have hnb : NoB w5 (some wr.heap.size) := fun g e => by
   injection e with e; subst e
   exact ⟨_, _, _, hb, by decide⟩
 have hge : ∀ g, some wr.heap.size = some g → tb ≤ g := fun g e => by injection e with e; omega
 refine ⟨_, rfl, ((((hb0.setCell (Nat.le_refl _) _).setCell (Nat.le_refl _) _).setCell (Nat.le_refl _) _).setCell (Nat.le_refl _) _), ?_⟩
 have h4 : TgV tb R key seq r is ((((w5.setCell ⟨wr.heap.size, 0, none⟩ (.slice r.kA r.k.length r.kc)).setCell ⟨wr.heap.size, 1, none⟩ (.int .i64 r.seq)).setCell ⟨wr.heap.size, 2, none⟩ (.bool r.del)).setCell ⟨wr.heap.size, 3, none⟩ (.slice r.vA r.v.length r.vc)) := ⟨h3.1.grown hg hnb hge, h3.2.1.grown hg hnb hge, h3.2.2⟩
 exact h4.got (heap_set4 hb)
theorem bk_new {tb : Nat} {key : List UInt8} {seq : Int} {w5 : World} {r : Rv} {is : Bool} (h3 : TgV tb R key seq r is w5) :
   Got tb R key seq w5.heap.size r is (w5.alloc (.cells #[.slice r.kA r.k.length r.kc, .int .i64 r.seq, .bool r.del, .slice r.vA r.v.length r.vc] 35)) := by
 have hb : Below w5.heap.size w5 (w5.alloc (.cells #[.slice r.kA r.k.length r.kc, .int .i64 r.seq, .bool r.del, .slice r.vA r.v.length r.vc] 35)) := (Below.refl _ _).alloc (Nat.le_refl _) _
 have h4 : TgV tb R key seq r is (w5.alloc (.cells #[.slice r.kA r.k.length r.kc, .int .i64 r.seq, .bool r.del, .slice r.vA r.v.length r.vc] 35)) := ⟨h3.1.below hb, h3.2.1.below hb, h3.2.2⟩
 exact h4.got (heap_alloc_new w5 _)
theorem sfromV_any (base : Nat) (hd : Nd) (hc : SkOf nds R) (hr : ∀ r ∈ R, Tb.right r = true) (hl : nds.length ≤ 100000) (most : Int) (w : World) (h : SkAt base hd nds (Sk.F nds) w) :
   Calls Tryz.prog 18 #[.pointer (some ⟨hd.g, 0, none⟩), .slice none 0 0, .int .i64 most] w fun e w' => Below w.heap.size w w' ∧ ∃ (A : Option Addr) (c : Nat) (L : List Rv), e = .returned (.slice A L.length c) ∧ RdRv w' w'.heap.size A L ∧ L.map Rv.core = (R.take most.toNat).map Rv.core := by
 refine (sfrom_any base hd nds none 0 [] most 0 (Nat.zero_le _) hl w h RdB.nil (fun i hi => ?_)).mono fun e w' ⟨h1, A, c, L, e1, e2, e3⟩ => ⟨h1, A, c, L, e1, e2, ?_⟩
 · have hi2 : i < R.length := by rw [← hc.len]; exact hi
   have e1 : Tb.orI [Lib.compareBytes nds[i].r.k [], Tb.cmpI 1099511627777 nds[i].r.seq] = Tb.ordI nds[i].r (Tb.ask [] 1099511627777) := rfl
   rw [e1, Tb.ordI_neg, Tb.ahead_core (hc.at_ hi hi2) (rfl : (Tb.ask [] 1099511627777).core = (Tb.ask [] 1099511627777).core), Tb.ahead_iff]
   have hrt := (Tb.right_iff _).1 (hr _ (List.getElem_mem hi2))
   have hk : 1 ≤ R[i].k.length := by omega
   constructor
   · rintro (h2 | ⟨h2, _⟩)
     · have : Op.bytesLess R[i].k [] = false := by cases R[i].k <;> rfl
       have h3 : Op.bytesLess R[i].k [] = true := h2
       rw [this] at h3; cases h3
     · have h3 : R[i].k = [] := h2
       rw [h3] at hk; simp at hk
   · intro h2; omega
 · rw [e3, List.drop_zero]
   have e4 : ∀ n, (nds.take n).map (fun d => d.r.core) = (nds.map (fun d => d.r.core)).take n := fun n => by rw [List.map_take]
   have e5 : ∀ n, (R.take n).map Rv.core = (R.map Rv.core).take n := fun n => by rw [List.map_take]
   rw [e4, e5, hc]
end
end Go.Proofs.YtgafionfojnieaaGreatDoor
