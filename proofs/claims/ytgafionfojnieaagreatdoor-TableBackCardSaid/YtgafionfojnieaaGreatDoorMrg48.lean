/- Parts of the proof, one behind the other: The law's told: what a table tells is what the reference's list tells. -/
import Derived.Test.YtgafionfojnieaaGreatDoorMrg47
import Derived.Deep.DeepCutAuto
import Derived.Deep.RegionWith
namespace Go.Proofs.YtgafionfojnieaaGreatDoor
open Go.RowKit
def NoF : Nat → Prop := fun _ => False
structure ToR (base : Nat) (t : Ti) (gl : Nat) (LA : Option Addr) (lc : Nat) (L : List Rv) (hv : Value) (w : World) (W : World) : Prop where
 tab : TbAt base NoF t W
 qry : Qry base t w W
 lst : W.heap[gl]? = some (.cells #[.slice LA L.length lc, hv] 33)
 rd : RdRv W W.heap.size LA L
section
variable {base gl lc : Nat} {t : Ti} {LA : Option Addr} {L : List Rv} {hv : Value} {w W W' : World} {F : Nat → Prop}
theorem ToR.step (h : ToR base t gl LA lc L hv w W) (ht : TbAt base NoF t W') (hq : Qry base t W W') : ToR base t gl LA lc L hv w W' :=
 ⟨ht, h.qry.trans hq, (hq.tagd _ _ _ _ h.lst (by decide) (by decide)).trans h.lst, hq.rdRv h.tab h.rd⟩
theorem ToR.call (h : ToR base t gl LA lc L hv w W) (hb : Below W.heap.size W W') : ToR base t gl LA lc L hv w W' := h.step (h.tab.call hb) (Qry.of hb h.tab.size)
end
structure Got (base : Nat) (R : List Rv) (key : List UInt8) (seq : Int) (gx : Nat) (r : Rv) (is : Bool) (W : World) : Prop where
 box : W.heap[gx]? = some (.cells #[.slice r.kA r.k.length r.kc, .int .i64 r.seq, .bool r.del, .slice r.vA r.v.length r.vc] 35)
 hk : HBs W base r.kA r.k
 hval : HBs W base r.vA r.v
 kc : r.k.length ≤ r.kc
 vc : r.v.length ≤ r.vc
 is_ : is = (Tb.get R key seq).isSome
 core : r.core = match Tb.get R key seq with | none => ([], 0, false, []) | some q => q.core
theorem Got.step {base : Nat} {t : Ti} {R : List Rv} {key : List UInt8} {seq : Int} {gx : Nat} {r : Rv} {is : Bool} {W W' : World} (h : Got base R key seq gx r is W) (hq : Qry base t W W') : Got base R key seq gx r is W' :=
 ⟨(hq.tagd _ _ _ _ h.box (by decide) (by decide)).trans h.box, hq.hbs (Nat.le_refl _) h.hk, hq.hbs (Nat.le_refl _) h.hval, h.kc, h.vc, h.is_, h.core⟩
def TgV (base : Nat) (R : List Rv) (key : List UInt8) (seq : Int) (r : Rv) (is : Bool) (W : World) : Prop := HBs W base r.kA r.k ∧ HBs W base r.vA r.v ∧ r.k.length ≤ r.kc ∧ r.v.length ≤ r.vc ∧ is = (Tb.get R key seq).isSome ∧ r.core = match Tb.get R key seq with | none => ([], 0, false, []) | some q => q.core
theorem hbs_nil (W : World) (base : Nat) : HBs W base none [] := ⟨RdB.nil, fun h => absurd rfl h⟩
theorem tgetV_any (base : Nat) (F : Nat → Prop) (t : Ti) (R : List Rv) (bits : Nat) (hR : TbR t R bits) (kA : Option Addr) (kc : Nat) (key : List UInt8) (seq : Int) (w : World) (h : TbAt base F t w) (hk : HBs w base kA key) (hkl : key.length ≤ 10000) (hkc : key.length ≤ kc) (hn : t.ps.length ≤ 100000) :
   Calls Tryz.prog 19 #[.pointer (some ⟨t.gt, 0, none⟩), .slice kA key.length kc, .int .i64 seq] w fun e w' => TbAt base F t w' ∧ Qry base t w w' ∧ ∃ (r : Rv) (is : Bool), e = .returned (.tuple #[r.val, .bool is]) ∧ TgV base R key seq r is w' :=
 (tget_any base F t R bits hR kA kc key seq w h hk hkl hkc hn).mono fun e w' ⟨h1, h2, h3⟩ => ⟨h1, h2, by
   rcases h3 with ⟨hg, rfl⟩ | ⟨r, r', hg, hc, rfl, h4, h5⟩
   · exact ⟨⟨none, 0, [], 0, false, none, 0, []⟩, false, rfl, hbs_nil _ _, hbs_nil _ _, Nat.le_refl _, Nat.le_refl _, by rw [hg]; rfl, by rw [hg]; rfl⟩
   · exact ⟨r', true, rfl, h4.hbs, h5.hbs, h4.cap, h5.cap, by rw [hg]; rfl, by rw [hg]; exact hc⟩⟩
theorem TgV.step {base : Nat} {t : Ti} {R : List Rv} {key : List UInt8} {seq : Int} {r : Rv} {is : Bool} {W W' : World} (h : TgV base R key seq r is W) (hq : Qry base t W W') : TgV base R key seq r is W' := ⟨hq.hbs (Nat.le_refl _) h.1, hq.hbs (Nat.le_refl _) h.2.1, h.2.2⟩
theorem TgV.got {base : Nat} {R : List Rv} {key : List UInt8} {seq : Int} {gx : Nat} {r : Rv} {is : Bool} {W : World} (h : TgV base R key seq r is W) (hb : W.heap[gx]? = some (.cells #[.slice r.kA r.k.length r.kc, .int .i64 r.seq, .bool r.del, .slice r.vA r.v.length r.vc] 35)) : Got base R key seq gx r is W := ⟨hb, h.1, h.2.1, h.2.2.1, h.2.2.2.1, h.2.2.2.2.1, h.2.2.2.2.2⟩
theorem box_late {base : Nat} {t : Ti} {R : List Rv} {key : List UInt8} {seq : Int} {wr X w5 : World} {r : Rv} {is : Bool} (hs : base ≤ wr.heap.size) (hq0 : Qry base t wr X) (hb : w5.heap[wr.heap.size]? = some zObj) (h1 : TbAt base (fun g => g = wr.heap.size) t w5) (h2 : Qry base t X w5) (h3 : TgV base R key seq r is w5) :
   ∃ W6, (((w5.setCell ⟨wr.heap.size, 0, none⟩ (.slice r.kA r.k.length r.kc)).setCell ⟨wr.heap.size, 1, none⟩ (.int .i64 r.seq)).setCell ⟨wr.heap.size, 2, none⟩ (.bool r.del)).setCell ⟨wr.heap.size, 3, none⟩ (.slice r.vA r.v.length r.vc) = W6 ∧ TbAt base NoF t W6 ∧ Qry base t wr W6 ∧ Got base R key seq wr.heap.size r is W6 := by
 have hg := grownBy_set4 w5 wr.heap.size (.slice r.kA r.k.length r.kc) (.int .i64 r.seq) (.bool r.del) (.slice r.vA r.v.length r.vc)
 have hnb : NoB w5 (some wr.heap.size) := fun g e => by
   injection e with e; subst e
   exact ⟨_, _, _, hb, by decide⟩
 have hge : ∀ g, some wr.heap.size = some g → base ≤ g := fun g e => by injection e with e; omega
 refine ⟨_, rfl, (h1.foreign hg (fun g e => by
   injection e with e; subst e
   exact ⟨rfl, hs, _, _, hb⟩)).less (fun _ h => h.elim), (hq0.trans h2).new hg hs (fun g e => by injection e with e; omega), ?_⟩
 have h4 : TgV base R key seq r is ((((w5.setCell ⟨wr.heap.size, 0, none⟩ (.slice r.kA r.k.length r.kc)).setCell ⟨wr.heap.size, 1, none⟩ (.int .i64 r.seq)).setCell ⟨wr.heap.size, 2, none⟩ (.bool r.del)).setCell ⟨wr.heap.size, 3, none⟩ (.slice r.vA r.v.length r.vc)) := ⟨h3.1.grown hg hnb hge, h3.2.1.grown hg hnb hge, h3.2.2⟩
 exact h4.got (heap_set4 hb)
theorem get_core {L R : List Rv} (h : L.map Rv.core = R.map Rv.core) (key : List UInt8) (seq : Int) : (Tb.get L key seq).map Rv.core = (Tb.get R key seq).map Rv.core := by
 unfold Tb.get
 have e : ∀ l : List Rv, (l.find? (fun r => r.k == key && decide (r.seq ≤ seq))).map Rv.core = (l.map Rv.core).find? (fun c => c.1 == key && decide (c.2.1 ≤ seq)) := fun l => by
   rw [List.find?_map]; rfl
 rw [e, e, h]
theorem TbR.fewp {t : Ti} {R : List Rv} {bits : Nat} (h : TbR t R bits) : t.ps.length ≤ 20000 := by
 have key : ∀ j, j ≤ t.ps.length → j ≤ t.off j := fun j => by
   induction j with
   | zero => intro _; exact Nat.zero_le _
   | succ j ih =>
     intro hj
     have h1 := ih (by omega)
     have h2 := t.off_succ (show j < t.ps.length by omega)
     have h3 := h.pne (show j < t.ps.length by omega)
     omega
 have h1 := key _ (Nat.le_refl _)
 rw [h.off_all] at h1
 have := h.len
 omega
end Go.Proofs.YtgafionfojnieaaGreatDoor
