/- Parts of the proof, one behind the other: A part's records, asked for the first time: the closure that is handed to Do; all.; The contract of part.all.; slices.BinarySearchFunc, over pointers and over records.; The contract of seek.; A record in memory of its own: copied.; The reference's list: Get.; The contract of a table's Get.; The reference's list: From.; The contract of a table's From.; The contracts of a table's Ends, Seqs, Len.; Contracts: few and awake of the table's law.; The law's told: what a table tells is what the reference's list tells. -/
import Derived.Test.YtgafionfojnieaaGreatDoorMrg38
import Derived.Lib.SlBytesConst
import Derived.Deep.DeepCutAuto
import Derived.Deep.RegionWith
namespace Go.Proofs.YtgafionfojnieaaGreatDoor
open Go.RowKit
open Lib (hid)
structure AllR (w : World) (base bp : Nat) (p : Pq) (A : Option Addr) (c : Nat) (R : List Rv) (PA : Option Addr) (PC : Nat) (l : List Pv) (wr : World) : Prop where
 row : OwnS Rv.cells 4 wr w.heap.size 35 A c R
 inn : ∀ r ∈ R, (HBs wr base r.kA r.k ∧ r.k.length ≤ r.kc ∧ HBs wr base r.vA r.v ∧ r.v.length ≤ r.vc) ∧ r.k.length ≤ 70000 ∧ r.v.length ≤ 70000
 box : wr.heap[p.g]? = some (p.obj 0 1 (.slice A R.length c))
 ptr : wr.heap[bp]? = some (.cells #[.pointer (some ⟨p.g, 0, none⟩)] 79)
 pv : OwnPv wr w.heap.size PA PC l
 gr : w.grownBy wr (some p.g)
section
variable {w wr w2 : World} {base bp c c' PC : Nat} {p : Pq} {A A' PA : Option Addr} {R : List Rv} {r : Rv} {l : List Pv}
theorem grownBy_below {w wr w2 : World} {row : Option Nat} (h : w.grownBy wr row) (hb : Below wr.heap.size wr w2) : w.grownBy w2 row :=
 ⟨hb.os.trans h.os, hb.tape.trans h.tape, hb.output.trans h.output, Nat.le_trans h.size hb.size, fun k hk hne => (hb.block k (Nat.lt_of_lt_of_le hk h.size)).trans (h.block k hk hne)⟩
theorem grownBy_new {w wr w2 : World} {row row2 : Option Nat} (h : w.grownBy wr row) (h2 : wr.grownBy w2 row2) (hr : ∀ g, row2 = some g → w.heap.size ≤ g ∨ row = some g) : w.grownBy w2 row :=
 ⟨h2.os.trans h.os, h2.tape.trans h.tape, h2.output.trans h.output, Nat.le_trans h.size h2.size, fun k hk hne => (h2.block k (Nat.lt_of_lt_of_le hk h.size) (fun e => by
   rcases hr k e.symm with h3 | h3
   · omega
   · exact hne h3.symm)).trans (h.block k hk hne)⟩
theorem AllR.call (h : AllR w base bp p A c R PA PC l wr) (hb : Below wr.heap.size wr w2) : AllR w base bp p A c R PA PC l w2 :=
 ⟨h.row.below hb, fun r hr => by
   obtain ⟨⟨h1, h2, h3, h4⟩, h5⟩ := h.inn r hr
   exact ⟨⟨h1.below hb, h2, h3.below hb, h4⟩, h5⟩, (hb.block _ (Array.getElem?_eq_some_iff.1 h.box).1).trans h.box, (hb.block _ (Array.getElem?_eq_some_iff.1 h.ptr).1).trans h.ptr, h.pv.call hb, grownBy_below h.gr hb⟩
theorem heap_set65 {w : World} {gt : Nat} {x0 x1 x2 x3 x4 x5 v : Value} {T : TypeId} (h : w.heap[gt]? = some (.cells #[x0, x1, x2, x3, x4, x5] T)) : (w.setCell ⟨gt, 5, none⟩ v).heap[gt]? = some (.cells #[x0, x1, x2, x3, x4, v] T) := by
 have := heap_setCell_same w gt 5 _ T v h
 simpa using this
theorem AllR.mid (h : AllR w base bp p A c R PA PC l wr) (hg : wr.grownBy w2 (blk A)) :
   w2.heap[p.g]? = some (p.obj 0 1 (.slice A R.length c)) ∧ w2.heap[bp]? = some (.cells #[.pointer (some ⟨p.g, 0, none⟩)] 79) := by
 refine ⟨(hg.block _ (Array.getElem?_eq_some_iff.1 h.box).1 (fun e => ?_)).trans h.box, (hg.block _ (Array.getElem?_eq_some_iff.1 h.ptr).1 (fun e => ?_)).trans h.ptr⟩
 · obtain ⟨_, cs, fr, h1⟩ := ownS_tag h.row e.symm
   exact tag_ne2 h.box h1 (by decide) rfl
 · obtain ⟨_, cs, fr, h1⟩ := ownS_tag h.row e.symm
   exact tag_ne2 h.ptr h1 (by decide) rfl
theorem AllR.app (h : AllR w base bp p A c R PA PC l wr) (hbw : base ≤ w.heap.size) (hpg : base ≤ p.g) (hr : (HBs wr base r.kA r.k ∧ r.k.length ≤ r.kc ∧ HBs wr base r.vA r.v ∧ r.v.length ≤ r.vc) ∧ r.k.length ≤ 70000 ∧ r.v.length ≤ 70000)
   (ho : OwnS Rv.cells 4 w2 w.heap.size 35 A' c' (R ++ [r])) (hg : wr.grownBy w2 (blk A)) : AllR w base bp p A' c' (R ++ [r]) PA PC l (w2.setCell ⟨p.g, 5, none⟩ (.slice A' (R ++ [r]).length c')) := by
 obtain ⟨hb2, hp2⟩ := h.mid hg
 have hnb : NoB wr (blk A) := h.row.nob (by decide)
 have hge : ∀ g, blk A = some g → base ≤ g := fun g e => Nat.le_trans hbw (ownS_tag h.row e).1
 have key : ∀ q : Rv, ((HBs wr base q.kA q.k ∧ q.k.length ≤ q.kc ∧ HBs wr base q.vA q.v ∧ q.v.length ≤ q.vc) ∧ q.k.length ≤ 70000 ∧ q.v.length ≤ 70000) → ((HBs (w2.setCell ⟨p.g, 5, none⟩ (.slice A' (R ++ [r]).length c')) base q.kA q.k ∧ q.k.length ≤ q.kc ∧ HBs (w2.setCell ⟨p.g, 5, none⟩ (.slice A' (R ++ [r]).length c')) base q.vA q.v ∧ q.v.length ≤ q.vc) ∧ q.k.length ≤ 70000 ∧ q.v.length ≤ 70000) := fun q hq => by
   obtain ⟨⟨h1, h2, h3, h4⟩, h5⟩ := hq
   exact ⟨⟨(h1.grown hg hnb hge).set_tag hb2 (by decide) hpg, h2, (h3.grown hg hnb hge).set_tag hb2 (by decide) hpg, h4⟩, h5⟩
 refine ⟨ownS_set ho hb2 (by decide), fun q hq => ?_, heap_set65 hb2, ?_, ?_, ?_⟩
 · simp only [List.mem_append, List.mem_singleton] at hq
   rcases hq with hq | hq
   · exact key q (h.inn q hq)
   · rw [hq]; exact key r hr
 · exact (heap_setD _ (tag_ne2 hp2 hb2 (by decide))).trans hp2
 · have h1 := OwnPv.kept_rec h.pv h.row hg
   exact ⟨ownS_set h1.row hb2 (by decide), fun q hq => ⟨(h1.own q hq).1.cellput ⟨p.g, 5, none⟩ _ (fun e => by
     obtain ⟨_, cs, fr, h3⟩ := own_tag (h1.own q hq).1 e
     exact tag_ne2 hb2 h3 (by decide) rfl), (h1.own q hq).2.cellput ⟨p.g, 5, none⟩ _ (fun e => by
     obtain ⟨_, cs, fr, h3⟩ := own_tag (h1.own q hq).2 e
     exact tag_ne2 hb2 h3 (by decide) rfl)⟩⟩
 · exact grownBy_new (grownBy_new h.gr hg (fun g e => .inl (ownS_tag h.row e).1)) (grownBy_set w2 _ _) (fun g e => .inr e)
end
set_option maxHeartbeats 4000000 in
set_option maxRecDepth 100000 in
theorem all1_any (base bp : Nat) (p : Pq) (rs : List Rv) (w : World) (hbp : w.heap[bp]? = some (.cells #[.pointer (some ⟨p.g, 0, none⟩)] 79)) (hp : PqB w base p) (hbx : w.heap[p.g]? = some (p.obj 0 1 (.slice none 0 0))) (hr : PqR p rs) (hs : base ≤ w.heap.size) :
   Calls Tryz.prog 73 #[.pointer (some ⟨bp, 0, none⟩)] w fun e w' => e = .returned (.tuple #[]) ∧ w.grownBy w' (some p.g) ∧
     ∃ (A : Option Addr) (c : Nat) (l : List Rv), w'.heap[p.g]? = some (p.obj 0 1 (.slice A l.length c)) ∧ RecsAt w' base A c l ∧ l.map Rv.core = rs.map Rv.core ∧ ∀ g, blk A = some g → w.heap.size ≤ g := by
 have KP := hid (parse_any p.A p.c p.b w hp.hb.rd hp.fit hp.c1 hp.c2)
 have HP := hid hp
 have HBX := hid hbx
 have HBP := hid hbp
 have HR := hid hr
 have HFT := hp.fit
 have c0 := cell_of_row w bp 0 _ _ (0, 0) hbp
 simp only [List.getElem?_toArray, List.getElem?_cons_zero] at c0
 have d0 := cell_of_row w p.g 0 _ _ (0, 0) hbx
 simp only [List.getElem?_toArray, List.getElem?_cons_zero] at d0
 clear hbp hp hbx hr
 go_enter Tryz.func73, Tryz.ntmps73
 go_wp2_with fail
 refine KP.out.mono ?_
 rintro e w1 ⟨hb1, ⟨x, hx, rfl, hno⟩ | ⟨l, PA, PC, rfl, hop, hpl, hpb, hwf⟩⟩
 · exact absurd HR.out.wf (hno _)
 have hl1 : rs.map Tb.inner = l.map Pv.pr := hwf _ HR.out.wf
 have hl2 : l.length = rs.length := by
   have := congrArg List.length hl1
   simpa using this.symm
 have HL1 := hid hl1
 have HL2 := hid hl2
 have HPB := hid hpb
 have hpl2 : l.length ≤ 65536 := by omega
 have hst : AllR w base bp p none 0 [] PA PC l w1 := ⟨OwnS.nil _ _ _, (fun r hr => by cases hr), (hb1.block _ (Array.getElem?_eq_some_iff.1 HBX.out).1).trans HBX.out, (hb1.block _ (Array.getElem?_eq_some_iff.1 HBP.out).1).trans HBP.out, hop,
   ⟨hb1.os, hb1.tape, hb1.output, hb1.size, fun k hk _ => hb1.block k hk⟩⟩
 have HST := hid hst
 clear hst hb1 hop hpb hwf hl1 hl2 hpl c0 d0
 go_wp2_with fail
 go_loopw [17] (fun kk wr => ∃ (k : Nat) (A : Option Addr) (c : Nat) (R : List Rv), k ≤ l.length ∧ kk = .int .i64 (k : Int) ∧ Hid (R.length = k) ∧ Hid (R.map Rv.core = (rs.take k).map Rv.core) ∧ Hid (AllR w base bp p A c R PA PC l wr)) (fun kk _ => l.length - (intOf kk).toNat)
 case atStart => exact ⟨0, none, 0, [], by omega, rfl, hid rfl, hid rfl, HST⟩
 case round =>
   obtain ⟨k, A, c, R, hk, rfl, HRL, HRC, HA⟩ := hrel
   by_cases hlt : k < l.length
   · obtain ⟨pb, po, hPA, hpbl, hpc⟩ := RdS.row (f := Pv.cells) (n := 2) (fun _ => rfl) (by omega) HA.out.pv.row.rd (by omega)
     subst hPA
     obtain ⟨q, hq⟩ : ∃ q, q = l[k] := ⟨_, rfl⟩
     have hqm : q ∈ l := by rw [hq]; exact List.getElem_mem hlt
     have s0 := hpc k hlt 0 _ rfl
     have s1 := hpc k hlt 1 _ rfl
     rw [← hq] at s0 s1
     have ho := HA.out.pv.own q hqm
     have hbd := HPB.out q hqm
     have hszw : base ≤ wr.heap.size := Nat.le_trans hs HA.out.gr.size
     have hba : ∀ o, Below wr.heap.size wr (wr.alloc o) := fun o => (Below.refl _ _).alloc (Nat.le_refl _) o
     have KR := hid (record_any q (wr.alloc (.cells #[.slice q.kA q.k.length q.kc, .slice q.vA q.v.length q.vc] 77)) base (Nat.le_trans hszw (hba _).size) (ho.1.hbs.below (hba _)) ho.1.cap ho.1.cap_le (ho.2.hbs.below (hba _)) ho.2.cap ho.2.cap_le (by omega) (by omega))
     have hrk : k < rs.length := by have := HL2.out; omega
     have hqr : Tb.inner rs[k] = q.pr := by
       have h1 : (rs.map Tb.inner)[k]? = (l.map Pv.pr)[k]? := by rw [HL1.out]
       rw [List.getElem?_map, List.getElem?_map, List.getElem?_eq_getElem hrk, List.getElem?_eq_getElem hlt, ← hq] at h1
       simpa using h1
     have HQR := hid hqr
     have HRT := hid (HR.out.rt rs[k] (List.getElem_mem hrk))
     have HTK : Hid (rs.take (k + 1) = rs.take k ++ [rs[k]]) := hid (List.take_succ_eq_append_getElem hrk)
     obtain ⟨rk, hrkk⟩ : ∃ rk, rk = rs[k] := ⟨_, rfl⟩
     rw [← hrkk] at HQR HRT HTK
     have HBD2 : Hid (q.k.length ≤ 70000 ∧ q.v.length ≤ 70000) := hid (by omega)
     obtain ⟨pkA, pkc, pk, pvA, pvc, pv⟩ := q
     simp only [Nat.add_zero] at s0 s1 KR HBD2
     clear hq hqm ho hbd hpc hba hqr hrkk hrk
     go_wp2_with fail
     refine KR.out.mono ?_
     rintro e w5 ⟨hb5', ⟨rfl, hno⟩ | ⟨rc, rfl, hrec, hk1, hk2, hv1, hv2, hkl1, hvl1⟩⟩
     · have := hno rk HRT.out HQR.out
       cases this
     · have hb5 : Below wr.heap.size wr w5 := ((Below.refl _ _).alloc (Nat.le_refl _) _).trans (hb5'.mono (by simp))
       have HA5 := hid (HA.out.call hb5)
       have HCO : Hid (rc.core = rk.core) := hid (by
         have h1 := hrec rk HRT.out HQR.out
         injection h1)
       have HRI : Hid ((HBs w5 base rc.kA rc.k ∧ rc.k.length ≤ rc.kc ∧ HBs w5 base rc.vA rc.v ∧ rc.v.length ≤ rc.vc) ∧ rc.k.length ≤ 70000 ∧ rc.v.length ≤ 70000) := hid ⟨⟨hk1, hk2, hv1, hv2⟩, Nat.le_trans hkl1 HBD2.out.1, Nat.le_trans hvl1 HBD2.out.2⟩
       obtain ⟨rr, hrr⟩ : ∃ rr : Rv, rr = rc := ⟨_, rfl⟩
       have HRR := hid hrr
       obtain ⟨kA, kc, kk, seq, del, vA, vc, vv⟩ := rc
       have hz5 : wr.heap.size ≤ w5.heap.size := hb5.size
       simp only at HRI
       clear hb5 hb5' hrec hk1 hk2 hv1 hv2 hkl1 hvl1 hrr s0 s1
       simp only [Rv.val]
       go_wp2_with fail
       obtain ⟨V, hV⟩ : ∃ V, (w5.alloc (.cells #[.slice kA kk.length kc, .int .i64 seq, .bool del, .slice vA vv.length vc] 35)).drew = V := ⟨_, rfl⟩
       have hbV : Below w5.heap.size w5 V := by rw [← hV]; exact ((Below.refl _ _).alloc (Nat.le_refl _) _).drew
       have HAV := hid (HA5.out.call hbV)
       have hrV : V.heap[w5.heap.size]? = some (.cells #[.slice kA kk.length kc, .int .i64 seq, .bool del, .slice vA vv.length vc] 35) := by rw [← hV]; exact heap_alloc_new w5 _
       have HRIV : Hid ((HBs V base kA kk ∧ kk.length ≤ kc ∧ HBs V base vA vv ∧ vv.length ≤ vc) ∧ kk.length ≤ 70000 ∧ vv.length ≤ 70000) := hid ⟨⟨HRI.out.1.1.below hbV, HRI.out.1.2.1, HRI.out.1.2.2.1.below hbV, HRI.out.1.2.2.2⟩, HRI.out.2⟩
       have HS0 : V.cell? ⟨bp, 0, none⟩ = some (.pointer (some ⟨p.g, 0, none⟩)) ∧ V.cell? ⟨p.g, 5, none⟩ = some (.slice A R.length c) ∧ V.cell? ⟨w5.heap.size, 0, none⟩ = some (.slice kA kk.length kc) ∧ V.cell? ⟨w5.heap.size, 1, none⟩ = some (.int .i64 seq) ∧ V.cell? ⟨w5.heap.size, 2, none⟩ = some (.bool del) ∧ V.cell? ⟨w5.heap.size, 3, none⟩ = some (.slice vA vv.length vc) := by
         refine ⟨?_, ?_, ?_, ?_, ?_, ?_⟩
         · rw [cell_of_row V bp 0 _ _ (0, 0) HAV.out.ptr]; rfl
         · rw [cell_of_row V p.g 5 _ _ (0, 0) HAV.out.box]; rfl
         · rw [cell_of_row V w5.heap.size 0 _ _ (0, 0) hrV]; rfl
         · rw [cell_of_row V w5.heap.size 1 _ _ (0, 0) hrV]; rfl
         · rw [cell_of_row V w5.heap.size 2 _ _ (0, 0) hrV]; rfl
         · rw [cell_of_row V w5.heap.size 3 _ _ (0, 0) hrV]; rfl
       have hrVl := (Array.getElem?_eq_some_iff.1 hrV).1
       have hbpl := (Array.getElem?_eq_some_iff.1 HAV.out.ptr).1
       have hpgl := (Array.getElem?_eq_some_iff.1 HAV.out.box).1
       have HRV := hid hrV
       have HSB : Hid (∀ Y', Below V.heap.size V Y' → Y'.cell? ⟨bp, 0, none⟩ = some (.pointer (some ⟨p.g, 0, none⟩)) ∧ Y'.cell? ⟨p.g, 5, none⟩ = some (.slice A R.length c) ∧ Y'.cell? ⟨w5.heap.size, 0, none⟩ = some (.slice kA kk.length kc) ∧ Y'.cell? ⟨w5.heap.size, 1, none⟩ = some (.int .i64 seq) ∧ Y'.cell? ⟨w5.heap.size, 2, none⟩ = some (.bool del) ∧ Y'.cell? ⟨w5.heap.size, 3, none⟩ = some (.slice vA vv.length vc)) := hid (fun Y' hb => ⟨(hb.cell (p := ⟨bp, 0, none⟩) hbpl).trans HS0.1, (hb.cell (p := ⟨p.g, 5, none⟩) hpgl).trans HS0.2.1, (hb.cell (p := ⟨w5.heap.size, 0, none⟩) hrVl).trans HS0.2.2.1, (hb.cell (p := ⟨w5.heap.size, 1, none⟩) hrVl).trans HS0.2.2.2.1, (hb.cell (p := ⟨w5.heap.size, 2, none⟩) hrVl).trans HS0.2.2.2.2.1, (hb.cell (p := ⟨w5.heap.size, 3, none⟩) hrVl).trans HS0.2.2.2.2.2⟩)
       clear hbV hrV
       refine wp_region_E 10 (fun w' => w'.cell? ⟨bp, 0, none⟩ = some (.pointer (some ⟨p.g, 0, none⟩)) ∧ w'.cell? ⟨p.g, 5, none⟩ = some (.slice A R.length c) ∧ w'.cell? ⟨w5.heap.size, 0, none⟩ = some (.slice kA kk.length kc) ∧ w'.cell? ⟨w5.heap.size, 1, none⟩ = some (.int .i64 seq) ∧ w'.cell? ⟨w5.heap.size, 2, none⟩ = some (.bool del) ∧ w'.cell? ⟨w5.heap.size, 3, none⟩ = some (.slice vA vv.length vc)) (by kernel_rfl) ?_
       rw [hV]
       clear hV
       refine wpAnyE_take (i := 0) (v := ?_) rfl (by kernel_rfl) (by kernel_rfl) (by kernel_rfl) (by kernel_rfl) (fun _ _ _ h => h) (Or.inl ⟨by rfl, ?_⟩) HS0 ?_
       rotate_left
       · (intro wy hSw; obtain ⟨s1, s2x, s3, s4, s5, s6⟩ := hSw; go_simp; try with_reducible rfl)
       try simp only [Act.put, List.setIfInBounds_toArray]
       refine wpAnyE_take (i := 1) (v := ?_) rfl (by kernel_rfl) (by kernel_rfl) (by kernel_rfl) (by kernel_rfl) (fun _ _ _ h => h) (Or.inl ⟨by rfl, ?_⟩) HS0 ?_
       rotate_left
       · (intro wy hSw; obtain ⟨s1, s2x, s3, s4, s5, s6⟩ := hSw; go_simp; try with_reducible rfl)
       try simp only [Act.put]
       refine wpAnyE_take (i := 2) (v := ?_) rfl (by kernel_rfl) (by kernel_rfl) (by kernel_rfl) (by kernel_rfl) (fun _ _ _ h => h) (Or.inl ⟨by rfl, ?_⟩) HS0 ?_
       rotate_left
       · (intro wy hSw; obtain ⟨s1, s2x, s3, s4, s5, s6⟩ := hSw; go_simp; try with_reducible rfl)
       try simp only [Act.put]
       refine wpAnyE_take (i := 3) (v := ?_) rfl (by kernel_rfl) (by kernel_rfl) (by kernel_rfl) (by kernel_rfl) (fun _ _ _ h => h) (Or.inl ⟨by rfl, ?_⟩) HS0 ?_
       rotate_left
       · (intro wy hSw; obtain ⟨s1, s2x, s3, s4, s5, s6⟩ := hSw; go_simp; try with_reducible rfl)
       try simp only [Act.put]
       refine wpAnyE_take (i := 4) (v := ?_) rfl (by kernel_rfl) (by kernel_rfl) (by kernel_rfl) (by kernel_rfl) (fun _ _ _ h => h) (Or.inl ⟨by rfl, ?_⟩) HS0 ?_
       rotate_left
       · (intro wy hSw; obtain ⟨s1, s2x, s3, s4, s5, s6⟩ := hSw; go_simp; try with_reducible rfl)
       try simp only [Act.put]
       refine wpAnyE_take (i := 5) (v := ?_) rfl (by kernel_rfl) (by kernel_rfl) (by kernel_rfl) (by kernel_rfl) (fun _ _ _ h => h) (Or.inl ⟨by rfl, ?_⟩) HS0 ?_
       rotate_left
       · (intro wy hSw; obtain ⟨s1, s2x, s3, s4, s5, s6⟩ := hSw; go_simp; try with_reducible rfl)
       try simp only [Act.put]
       refine wpAnyE_one (i := 6) (by kernel_rfl) rfl (fun K hK => ?_)
       go_simp
       have hb6 : ∀ o2, Below V.heap.size V (V.alloc o2) := fun o2 => (Below.refl _ _).alloc (Nat.le_refl _) o2
       refine hK _ _ (HSB.out _ (hb6 _)) ?_
       have H6 := hid (HAV.out.call (hb6 (.cells #[.slice kA kk.length kc, .int .i64 seq, .bool del, .slice vA vv.length vc] 35)))
       have hRl : R.length ≤ 65536 := by have := HRL.out; omega
       have hwV : w.heap.size ≤ V.heap.size := HAV.out.gr.size
       refine wpAnyE_one (i := 7) (by kernel_rfl) rfl (fun K hK => ?_)
       refine step_append_sd _ (by rfl) (some 33) (by rfl) (.tmp 30) (.tmp 32) recT (by rfl) w.heap.size A c R rfl H6.out.row (V.heap.size + 1) (some ⟨V.heap.size, 0, none⟩) 1 1 [⟨kA, kc, kk, seq, del, vA, vc, vv⟩] rfl rfl (rd_rec_new V ⟨kA, kc, kk, seq, del, vA, vc, vv⟩) (by simp; omega) (by unfold maxLen; simp; omega) (by simp; omega) ?_
       intro A6 c6 LL w6 hL ho6 hg6 hat6
       rw [hL] at ho6 ⊢
       have HM6 := hid (H6.out.mid hg6)
       have hnr : ∀ g, blk A = some g → g ≠ w5.heap.size := fun g e => by
         have h1 := (HA5.out.row.blk_ge g e).2
         omega
       have HRV6 : Hid (w6.heap[w5.heap.size]? = some (.cells #[.slice kA kk.length kc, .int .i64 seq, .bool del, .slice vA vv.length vc] 35)) := hid (by
         have h1 := ((hb6 (.cells #[.slice kA kk.length kc, .int .i64 seq, .bool del, .slice vA vv.length vc] 35)).block _ hrVl).trans HRV.out
         exact (hg6.block _ (Nat.lt_of_lt_of_le hrVl (hb6 _).size) (fun e => hnr _ e.symm rfl)).trans h1)
       have hS6 : w6.cell? ⟨bp, 0, none⟩ = some (.pointer (some ⟨p.g, 0, none⟩)) ∧ w6.cell? ⟨p.g, 5, none⟩ = some (.slice A R.length c) ∧ w6.cell? ⟨w5.heap.size, 0, none⟩ = some (.slice kA kk.length kc) ∧ w6.cell? ⟨w5.heap.size, 1, none⟩ = some (.int .i64 seq) ∧ w6.cell? ⟨w5.heap.size, 2, none⟩ = some (.bool del) ∧ w6.cell? ⟨w5.heap.size, 3, none⟩ = some (.slice vA vv.length vc) := by
         refine ⟨?_, ?_, ?_, ?_, ?_, ?_⟩
         · rw [cell_of_row w6 bp 0 _ _ (0, 0) HM6.out.2]; rfl
         · rw [cell_of_row w6 p.g 5 _ _ (0, 0) HM6.out.1]; rfl
         · rw [cell_of_row w6 w5.heap.size 0 _ _ (0, 0) HRV6.out]; rfl
         · rw [cell_of_row w6 w5.heap.size 1 _ _ (0, 0) HRV6.out]; rfl
         · rw [cell_of_row w6 w5.heap.size 2 _ _ (0, 0) HRV6.out]; rfl
         · rw [cell_of_row w6 w5.heap.size 3 _ _ (0, 0) HRV6.out]; rfl
       have fz6 : w6.frozen? ⟨p.g, 5, none⟩ = false := frozen_of_row w6 p.g 5 _ _ HM6.out.1
       have HFIN := hid (H6.out.app (r := ⟨kA, kc, kk, seq, del, vA, vc, vv⟩) hs HP.out.ge ⟨⟨HRIV.out.1.1.below (hb6 _), HRIV.out.1.2.1, HRIV.out.1.2.2.1.below (hb6 _), HRIV.out.1.2.2.2⟩, HRIV.out.2⟩ ho6 hg6)
       refine hK _ _ hS6 ?_
       try simp only [Act.put]
       refine wpAnyE_one (i := 8) (by kernel_rfl) rfl (fun K hK => ?_)
       go_simp
       refine hK _ _ hS6 ?_
       try simp only [Act.put]
       refine wpAnyE_one (i := 9) (by kernel_rfl) rfl (fun K hK => ?_)
       go_simp
       refine hK _ _ hS6 ?_
       try simp only [Act.put]
       obtain ⟨g1, g2, g3, g4, g5, g6⟩ := hS6
       refine wpAnyE_last (by kernel_rfl) (by kernel_rfl) rfl (fun K hK => ?_)
       go_simp
       refine hK _ _ ?_
       rw [← HRR.out] at HFIN
       have HL7 : Hid ((R ++ [rr]).length = k + 1) := hid (by rw [List.length_append, HRL.out]; rfl)
       have HC7 : Hid ((R ++ [rr]).map Rv.core = (rs.take (k + 1)).map Rv.core) := hid (by
         rw [HTK.out, List.map_append, List.map_append, HRC.out]
         congr 1
         rw [HRR.out]
         simp only [List.map_cons, List.map_nil]
         rw [HCO.out])
       have hLn : (R ++ [rr]).length = R.length + 1 := by simp
       rw [hLn] at HFIN
       obtain ⟨W7, hW7⟩ : ∃ W7, w6.setCell ⟨p.g, 5, none⟩ (.slice A6 (R.length + 1) c6) = W7 := ⟨_, rfl⟩
       rw [hW7] at HFIN ⊢
       clear hW7 hLn g1 g2 g3 g4 g5 g6 fz6 hL ho6 hg6 hat6 hnr hb6 HS0
       go_wp2_with fail
       go_roundw
       case rel => exact ⟨k + 1, A6, c6, R ++ [rr], hlt, by simp, HL7, HC7, HFIN⟩
       case measure =>
         show l.length - ((k : Int) + 1).toNat < l.length - ((k : Int)).toNat
         omega
   · have hke : k = l.length := by omega
     have HRC2 : Hid (R.map Rv.core = rs.map Rv.core) := hid (by
       have h1 := HRC.out
       rw [List.take_of_length_le (by have := HL2.out; omega)] at h1
       exact h1)
     go_wp2_with fail
     go_end0
     exact ⟨rfl, HA.out.gr, A, c, R, HA.out.box, ⟨HA.out.row.mono hs, HA.out.inn⟩, HRC2.out, fun g hg => (HA.out.row.blk_ge g hg).1⟩
theorem heap_set63 {w : World} {gt : Nat} {x0 x1 x2 x3 x4 x5 v : Value} {T : TypeId} (h : w.heap[gt]? = some (.cells #[x0, x1, x2, x3, x4, x5] T)) : (w.setCell ⟨gt, 3, none⟩ v).heap[gt]? = some (.cells #[x0, x1, x2, v, x4, x5] T) := by
 have := heap_setCell_same w gt 3 _ T v h
 simpa using this
theorem heap_set62 {w : World} {gt : Nat} {x0 x1 x2 x3 x4 x5 v : Value} {T : TypeId} (h : w.heap[gt]? = some (.cells #[x0, x1, x2, x3, x4, x5] T)) : (w.setCell ⟨gt, 2, none⟩ v).heap[gt]? = some (.cells #[x0, x1, v, x3, x4, x5] T) := by
 have := heap_setCell_same w gt 2 _ T v h
 simpa using this
theorem RecsAt.keepg {w w' : World} {base g : Nat} {A : Option Addr} {c : Nat} {l : List Rv} (h : RecsAt w base A c l) (hg : w.grownBy w' (some g)) {cs : Array Value} (ht : w.heap[g]? = some (.cells cs 91)) (hge : base ≤ g) : RecsAt w' base A c l := by
 have hnb : NoB w (some g) := fun g' e => by
   injection e with e; subst e
   exact ⟨cs, _, _, ht, by decide⟩
 refine ⟨h.row.kept_ne (T := 91) hg (fun g' e => by injection e with e; subst e; exact ⟨cs, _, ht⟩) (by decide), fun r hr => ?_⟩
 obtain ⟨⟨h1, h2, h3, h4⟩, h5⟩ := h.inn r hr
 exact ⟨⟨h1.grown hg hnb (fun g' e => by injection e with e; omega), h2, h3.grown hg hnb (fun g' e => by injection e with e; omega), h4⟩, h5⟩
def AllQ (base : Nat) (F : Nat → Prop) (t : Ti) (rs : List Rv) (w : World) (e : Ending) (w' : World) : Prop := TbAt base F t w' ∧ Qry base t w w' ∧ ∃ (A : Option Addr) (c : Nat) (l : List Rv), e = .returned (.slice A l.length c) ∧ RecsAt w' base A c l ∧ l.map Rv.core = rs.map Rv.core ∧ ∀ g, blk A = some g → ¬ F g
set_option maxHeartbeats 4000000 in
set_option maxRecDepth 100000 in
theorem all_any (base : Nat) (F : Nat → Prop) (t : Ti) (x : Pq × List Rv) (hx : x ∈ t.ps) (w : World) (h : TbAt base F t w) (hr : PqR x.1 x.2) :
   Calls Tryz.prog 33 #[.pointer (some ⟨x.1.g, 0, none⟩)] w (AllQ base F t x.2 w) := by
 have hp := h.parts x hx
 have HT := hid h
 have HX := hid hx
 have hmf : ∀ (fn : Fn) (first cap : Array Value) (w : World), (Instr.makeFunc fn first cap).run Tryz.prog w = .ok (.func fn first cap) w := fun _ _ _ _ => rfl
 rcases hp.st with hb | ⟨A, c, l, hb, hrec, hco, hfr⟩
 · have hlt := (Array.getElem?_eq_some_iff.1 hb).1
   obtain ⟨W, hW⟩ : ∃ W, W = w.alloc (.cells #[.pointer (some ⟨x.1.g, 0, none⟩)] 79) := ⟨_, rfl⟩
   have hbW : Below w.heap.size w W := by rw [hW]; exact (Below.refl _ _).alloc (Nat.le_refl _) _
   have hWb : W.heap[x.1.g]? = some (x.1.obj 0 0 (.slice none 0 0)) := (hbW.block _ hlt).trans hb
   have hWp : W.heap[w.heap.size]? = some (.cells #[.pointer (some ⟨x.1.g, 0, none⟩)] 79) := by rw [hW]; exact heap_alloc_new w _
   have hne : w.heap.size ≠ x.1.g := by omega
   obtain ⟨W1, hW1⟩ : ∃ W1, W1 = W.setCell ⟨x.1.g, 3, none⟩ (.int .i32 1) := ⟨_, rfl⟩
   have hW1b : W1.heap[x.1.g]? = some (x.1.obj 0 1 (.slice none 0 0)) := by rw [hW1]; exact heap_set63 hWb
   have hW1p : W1.heap[w.heap.size]? = some (.cells #[.pointer (some ⟨x.1.g, 0, none⟩)] 79) := by rw [hW1]; exact (heap_setD _ hne).trans hWp
   have hW1s : base ≤ W1.heap.size := by rw [hW1]; simp; have := HT.out.size; have := hbW.size; omega
   have hW1m : PqB W1 base x.1 := by rw [hW1]; exact (hp.mem.call hbW).set_tag hWb (by decide) hp.mem.ge
   have hgW1 : w.grownBy W1 (some x.1.g) := by
     rw [hW1]
     exact grownBy_new ⟨hbW.os, hbW.tape, hbW.output, hbW.size, fun k hk _ => hbW.block k hk⟩ (grownBy_set W _ _) (fun g e => .inr e)
   have KA := all1_any base w.heap.size x.1 x.2 W1 hW1p hW1m hW1b hr hW1s
   rw [hW1] at KA
   have KF := hid (onc_first x.1.g 2 #[.pointer (some ⟨w.heap.size, 0, none⟩)] (fun w' => (W.setCell ⟨x.1.g, 3, none⟩ (.int .i32 1)).grownBy w' (some x.1.g) ∧ ∃ (A : Option Addr) (c : Nat) (l : List Rv), w'.heap[x.1.g]? = some (x.1.obj 0 1 (.slice A l.length c)) ∧ RecsAt w' base A c l ∧ l.map Rv.core = x.2.map Rv.core ∧ ∀ g, blk A = some g → (W.setCell ⟨x.1.g, 3, none⟩ (.int .i32 1)).heap.size ≤ g) W
     (by rw [cell_of_row W x.1.g 2 _ _ (0, 0) hWb]; rfl) (by rw [cell_of_row W x.1.g 3 _ _ (0, 0) hWb]; rfl) (frozen_of_row W x.1.g 3 _ _ hWb) KA
     (fun w' hq => by
       obtain ⟨_, A, c, l, hq1, _⟩ := hq
       exact ⟨by rw [cell_of_row w' x.1.g 2 _ _ (0, 0) hq1]; rfl, frozen_of_row w' x.1.g 2 _ _ hq1, by rw [cell_of_row w' x.1.g 3 _ _ (0, 0) hq1]; rfl, frozen_of_row w' x.1.g 3 _ _ hq1⟩))
   rw [hW] at KF
   have HG1 := hid hgW1
   have HW1 := hid hW1
   have HW := hid hW
   have HPG := hp.mem.ge
   have HW1P := hid hW1p
   obtain ⟨p, rs⟩ := x
   simp only at KF HT HX hne hlt HG1 HW1 HPG
   clear hb hbW hWb hWp hW1b hW1p hW1s hW1m hgW1 KA hW hW1 hp h hx hr
   go_enter Tryz.func33, Tryz.ntmps33
   go_wp2_with fail
   refine KF.out.mono ?_
   rintro e w' ⟨rfl, w1, ⟨hg, A, c, l, hq1, hrec, hco, hfr⟩, rfl⟩
   rw [← HW.out, ← HW1.out] at hg hfr
   have hrecD : RecsAt w1.drew base A c l := ⟨hrec.row, fun r hr => by
     obtain ⟨⟨h1, h2, h3, h4⟩, h5⟩ := hrec.inn r hr
     exact ⟨⟨h1.drew, h2, h3.drew, h4⟩, h5⟩⟩
   have hq1D : w1.drew.heap[p.g]? = some (p.obj 0 1 (.slice A l.length c)) := hq1
   have hb2 : (w1.drew.setCell ⟨p.g, 2, none⟩ (.int .u32 1)).heap[p.g]? = some (p.obj 1 1 (.slice A l.length c)) := heap_set62 hq1D
   have hb3 : ((w1.drew.setCell ⟨p.g, 2, none⟩ (.int .u32 1)).setCell ⟨p.g, 3, none⟩ (.int .i32 0)).heap[p.g]? = some (p.obj 1 0 (.slice A l.length c)) := heap_set63 hb2
   have hw1p : w1.heap[w.heap.size]? = some (.cells #[.pointer (some ⟨p.g, 0, none⟩)] 79) := (hg.block _ (Array.getElem?_eq_some_iff.1 HW1P.out).1 (fun e => hne (by injection e))).trans HW1P.out
   have hp3 : ((w1.drew.setCell ⟨p.g, 2, none⟩ (.int .u32 1)).setCell ⟨p.g, 3, none⟩ (.int .i32 0)).heap[w.heap.size]? = some (.cells #[.pointer (some ⟨p.g, 0, none⟩)] 79) := by
     rw [heap_setD _ hne, heap_setD _ hne]; exact hw1p
   have hg3 : w.grownBy ((w1.drew.setCell ⟨p.g, 2, none⟩ (.int .u32 1)).setCell ⟨p.g, 3, none⟩ (.int .i32 0)) (some p.g) :=
     grownBy_new (grownBy_new (grownBy_below (grownBy_new HG1.out hg (fun g e => .inr e)) ((Below.refl _ _).drew)) (grownBy_set w1.drew ⟨p.g, 2, none⟩ (.int .u32 1)) (fun g e => .inr e)) (grownBy_set _ ⟨p.g, 3, none⟩ (.int .i32 0)) (fun g e => .inr e)
   have hr3 : RecsAt ((w1.drew.setCell ⟨p.g, 2, none⟩ (.int .u32 1)).setCell ⟨p.g, 3, none⟩ (.int .i32 0)) base A c l := (hrecD.keepg (grownBy_set w1.drew ⟨p.g, 2, none⟩ (.int .u32 1)) hq1D HPG).keepg (grownBy_set _ ⟨p.g, 3, none⟩ (.int .i32 0)) hb2 HPG
   obtain ⟨FW, hFW⟩ : ∃ FW, (w1.drew.setCell ⟨p.g, 2, none⟩ (.int .u32 1)).setCell ⟨p.g, 3, none⟩ (.int .i32 0) = FW := ⟨_, rfl⟩
   rw [hFW] at hb3 hp3 hg3 hr3 ⊢
   have c0 : FW.cell? ⟨w.heap.size, 0, none⟩ = some (.pointer (some ⟨p.g, 0, none⟩)) := by rw [cell_of_row FW w.heap.size 0 _ _ (0, 0) hp3]; rfl
   have c1 : FW.cell? ⟨p.g, 5, none⟩ = some (.slice A l.length c) := by rw [cell_of_row FW p.g 5 _ _ (0, 0) hb3]; rfl
   have HFR : Hid (∀ g, blk A = some g → ¬ F g) := hid (fun g hgb hF => (by have h1 := hfr g hgb; have h2 := HT.out.frn g hF; have h3 := HG1.out.size; omega))
   have HFIN := hid (HT.out.asked (x := (p, rs)) HX.out hg3 ⟨A, c, l, hb3, hr3, hco, HFR.out⟩)
   have HR3 := hid hr3
   have HCO := hid hco
   obtain ⟨n, hn⟩ : ∃ n, n = l.length := ⟨_, rfl⟩
   rw [← hn] at c1
   have HN := hid hn
   clear hFW hb3 hp3 hg3 hr3 hw1p hb2 hq1D hrecD hq1 hrec hco hfr hg hn
   go_wp2_with fail
   go_ret
   exact ⟨HFIN.out.1, HFIN.out.2, A, c, l, by rw [HN.out]; rfl, HR3.out, HCO.out, HFR.out⟩
 · have hlt := (Array.getElem?_eq_some_iff.1 hb).1
   have hba : ∀ o, Below w.heap.size w (w.alloc o) := fun o => (Below.refl _ _).alloc (Nat.le_refl _) o
   have HFIN : Hid (∀ o, TbAt base F t (w.alloc o) ∧ Qry base t w (w.alloc o) ∧ RecsAt (w.alloc o) base A c l) := hid (fun o => by
     have hq : Qry base t w (w.alloc o) := Qry.of (hba o) h.size
     exact ⟨h.call (hba o), hq, hq.recs (Nat.le_refl _) hrec⟩)
   have HCO := hid hco
   have HFR := hid hfr
   have hbW : ∀ o, (w.alloc o).heap[x.1.g]? = some (x.1.obj 1 0 (.slice A l.length c)) := fun o => ((hba o).block _ hlt).trans hb
   have KD := hid (onc_done ⟨x.1.g, 2, none⟩ 1 (by decide) (.func (.func 73) #[] #[.pointer (some ⟨w.heap.size, 0, none⟩)]) (w.alloc (.cells #[.pointer (some ⟨x.1.g, 0, none⟩)] 79)) (by rw [cell_of_row _ x.1.g 2 _ _ (0, 0) (hbW _)]; rfl))
   have c1 : (w.alloc (.cells #[.pointer (some ⟨x.1.g, 0, none⟩)] 79)).cell? ⟨x.1.g, 5, none⟩ = some (.slice A l.length c) := by rw [cell_of_row _ x.1.g 5 _ _ (0, 0) (hbW _)]; rfl
   obtain ⟨p, rs⟩ := x
   simp only at KD c1 HCO
   obtain ⟨n, hn⟩ : ∃ n, n = l.length := ⟨_, rfl⟩
   rw [← hn] at c1
   have HN := hid hn
   clear hb hbW hp h hx hr hrec hco hfr hba hn
   go_enter Tryz.func33, Tryz.ntmps33
   go_wp2_with fail
   refine KD.out.mono ?_
   rintro e w' ⟨rfl, rfl⟩
   go_wp2_with fail
   go_ret
   exact ⟨(HFIN.out _).1, (HFIN.out _).2.1, A, c, l, by rw [HN.out]; rfl, (HFIN.out _).2.2, HCO.out, HFR.out⟩
def BsQ (n : Nat) (F : Nat → Prop) (e : Ending) : Prop := ∃ (i : Nat) (b : Bool), e = .returned (.tuple #[.int .i64 (i : Int), .bool b]) ∧ i ≤ n ∧ (∀ k, k < i → F k) ∧ (∀ k, i ≤ k → k < n → ¬ F k)
set_option maxHeartbeats 2000000 in
set_option maxRecDepth 100000 in
theorem bsearchP_any (A tA : Option Addr) (c tc : Nat) (gs : List Nat) (tl : List UInt8) (K : Nat → Int) (F : Nat → Prop) (hF : ∀ k, F k ↔ K k < 0) (w : World) (hrow : RdS Ptc 1 w w.heap.size A gs) (hl : gs.length ≤ 1000000)
   (hcall : ∀ h (hh : h < gs.length), Calls Tryz.prog 86 #[.pointer (some ⟨gs[h], 0, none⟩), .slice tA tl.length tc] w fun e w' => e = .returned (.int .i64 (K h)) ∧ w = w')
   (hmono : ∀ a b, a ≤ b → b < gs.length → F b → F a) :
   Calls Tryz.prog 85 #[.slice A gs.length c, .slice tA tl.length tc, .func (.func 86) #[] #[]] w fun e w' => BsQ gs.length F e ∧ w = w' := by
 have HF := hid hF
 clear hF
 have HC := hid hcall
 have HM := hid hmono
 have HR := hid hrow
 obtain ⟨n, hn⟩ : ∃ n, n = gs.length := ⟨_, rfl⟩
 have HN := hid hn
 rw [← hn] at hl ⊢
 clear hcall hmono hrow hn
 go_enter Tryz.func85, Tryz.ntmps85
 go_wp2_with fail
 go_loop [9, 10] (fun i j => ∃ a b : Nat, a ≤ b ∧ b ≤ n ∧ i = .int .i64 (a : Int) ∧ j = .int .i64 (b : Int) ∧ Hid (∀ k, k < a → F k) ∧ Hid (∀ k, b ≤ k → k < n → ¬ F k)) (fun i j => (intOf j).toNat - (intOf i).toNat)
 case atStart => exact ⟨0, n, by omega, by omega, rfl, rfl, hid (fun k hk => by omega), hid (fun k h1 h2 => by omega)⟩
 case round =>
   obtain ⟨a, b, hab, hbn, rfl, rfl, HLO, HHI⟩ := hrel
   by_cases hlt : a < b
   · obtain ⟨pb, po, hA, hpbl, hpc⟩ := RdS.row (f := Ptc) (n := 1) (fun _ => rfl) (by omega) HR.out (by have := HN.out; omega)
     subst hA
     have hml : (a + b) / 2 < gs.length := by have := HN.out; omega
     have hml2 : (a + b) / 2 < n := by omega
     have s0 := hpc ((a + b) / 2) hml 0 _ rfl
     have KC := hid (HC.out ((a + b) / 2) hml)
     obtain ⟨gm, hgm⟩ : ∃ gm, gm = gs[(a + b) / 2] := ⟨_, rfl⟩
     simp only [Nat.mul_one, Nat.add_zero] at s0
     rw [← hgm] at s0 KC
     obtain ⟨km, hkm⟩ : ∃ km, km = K ((a + b) / 2) := ⟨_, rfl⟩
     rw [← hkm] at KC
     have HKM := hid hkm
     have HML := hid hml
     clear hpc hgm hkm hml
     by_cases hk : km < 0
     · have HL2 : Hid (∀ k, k < (a + b) / 2 + 1 → F k) := hid (fun k h1 => HM.out k _ (by omega) HML.out (by rw [HF.out, ← HKM.out]; exact hk))
       go_wp2_with fail
       refine KC.out.mono ?_
       rintro e w' ⟨rfl, rfl⟩
       go_wp2_with fail
       go_round
       case rel => exact ⟨(a + b) / 2 + 1, b, by omega, hbn, by simp, rfl, HL2, HHI⟩
       case measure => simp [intOf]; omega
     · have HH2 : Hid (∀ k, (a + b) / 2 ≤ k → k < n → ¬ F k) := hid (fun k h1 h2 h3 => hk (by rw [HKM.out, ← HF.out]; exact HM.out _ k h1 (by have := HN.out; omega) h3))
       go_wp2_with fail
       refine KC.out.mono ?_
       rintro e w' ⟨rfl, rfl⟩
       go_wp2_with fail
       go_round
       case rel => exact ⟨a, (a + b) / 2, by omega, by omega, rfl, by simp, HLO, HH2⟩
       case measure => simp [intOf]; omega
   · have hae : a = b := by omega
     subst hae
     by_cases han : a < n
     · obtain ⟨pb, po, hA, hpbl, hpc⟩ := RdS.row (f := Ptc) (n := 1) (fun _ => rfl) (by omega) HR.out (by have := HN.out; omega)
       subst hA
       have hml : a < gs.length := by have := HN.out; omega
       have s0 := hpc a hml 0 _ rfl
       have KC := hid (HC.out a hml)
       obtain ⟨gm, hgm⟩ : ∃ gm, gm = gs[a] := ⟨_, rfl⟩
       simp only [Nat.mul_one, Nat.add_zero] at s0
       rw [← hgm] at s0 KC
       clear hpc hgm hml
       go_wp2_with fail
       refine KC.out.mono ?_
       rintro e w' ⟨rfl, rfl⟩
       go_wp2_with fail
       go_ret2
       exact ⟨⟨a, _, rfl, hbn, HLO.out, HHI.out⟩, rfl⟩
     · go_wp2_with fail
       go_ret2
       exact ⟨⟨a, _, rfl, hbn, HLO.out, HHI.out⟩, rfl⟩
set_option maxHeartbeats 1000000 in
set_option maxRecDepth 100000 in
theorem bsearchR_any (A : Option Addr) (c : Nat) (l : List Rv) (q : Rv) (F : Nat → Prop) (hF : ∀ k (h : k < l.length), F k ↔ Tb.ordI l[k] q < 0) (w : World) (hr : RdRv w w.heap.size A l) (hq : Rv.Ok w w.heap.size q) (hl : l.length ≤ 1000000)
   (hmono : ∀ a b, a ≤ b → b < l.length → F b → F a) :
   Calls Tryz.prog 87 #[.slice A l.length c, q.val, .func (.func 40) #[] #[]] w fun e w' => BsQ l.length F e ∧ Below w.heap.size w w' := by
 have HM := hid hmono
 have HR := hid hr
 have HQ := hid hq
 obtain ⟨n, hn⟩ : ∃ n, n = l.length := ⟨_, rfl⟩
 have HN := hid hn
 rw [← hn] at hl ⊢
 have HF := hid hF
 clear hmono hr hq hn hF
 have HBX : Hid (∀ o, Below w.heap.size w (w.alloc o)) := hid (fun o => (Below.refl _ _).alloc (Nat.le_refl _) o)
 have HCELL : Hid (∀ W, Below (w.heap.size + 1) (w.alloc (.cells q.cells.toArray 35)) W → W.heap[w.heap.size]? = some (.cells q.cells.toArray 35)) := hid (fun W hb => (hb.block _ (by omega)).trans (heap_alloc_new w _))
 have HCALL : Hid (∀ a, (h : a < l.length) → ∀ W, Below w.heap.size w W → Calls Tryz.prog 40 #[(l[a]).val, q.val] W fun e w' => e = .returned (.int .i64 (Tb.ordI l[a] q)) ∧ Below W.heap.size W w') := hid (fun a h W hb =>
   orderT_any l[a] q W (((HR.out.ok _ (List.getElem_mem h)).below hb (Nat.le_refl _)).more hb.size) ((HQ.out.below hb (Nat.le_refl _)).more hb.size))
 obtain ⟨qA, qc, qk, qs, qd, qvA, qvc, qv⟩ := q
 simp only [Rv.cells, Rv.val] at HCALL HCELL ⊢
 go_enter Tryz.func87, Tryz.ntmps87
 go_wp2_with fail
 go_loopw [9, 10] (fun i j wr => ∃ a b : Nat, a ≤ b ∧ b ≤ n ∧ i = .int .i64 (a : Int) ∧ j = .int .i64 (b : Int) ∧ Hid (∀ k, k < a → F k) ∧ Hid (∀ k, b ≤ k → k < n → ¬ F k) ∧ Hid (Below (w.heap.size + 1) (w.alloc (.cells [.slice qA qk.length qc, .int .i64 qs, .bool qd, .slice qvA qv.length qvc].toArray 35)) wr)) (fun i j _ => (intOf j).toNat - (intOf i).toNat)
 case atStart => exact ⟨0, n, by omega, by omega, rfl, rfl, hid (fun k hk => by omega), hid (fun k h1 h2 => by omega), hid (Below.refl _ _)⟩
 case round =>
   obtain ⟨a, b, hab, hbn, rfl, rfl, HLO, HHI, HW⟩ := hrel
   have hzz : w.heap.size + 1 ≤ wr.heap.size := by have := HW.out.size; simp at this; omega
   have hbw : Below w.heap.size w wr := (HBX.out _).trans (HW.out.mono (by omega))
   have hbox := HCELL.out wr HW.out
   by_cases hlt : a < b
   · obtain ⟨pb, po, hA, hpbl, hpc⟩ := (HR.out.below hbw (Nat.le_refl _)).row4 (by have := HN.out; omega)
     subst hA
     obtain ⟨m, hm⟩ : ∃ m, m = (a + b) / 2 := ⟨_, rfl⟩
     have hm1 : a ≤ m ∧ m < b := by omega
     have hml : m < l.length := by have := HN.out; omega
     have hml2 : m < n := by omega
     have e3 : ((a : Int) + (b : Int)) / 2 = (m : Int) := by omega
     obtain ⟨V, hV⟩ : ∃ V, wr.drew = V := ⟨_, rfl⟩
     have hbV : Below wr.heap.size wr V := by rw [← hV]; exact (Below.refl _ _).drew
     have KC := hid (HCALL.out (m) hml V (hbw.trans (hbV.mono hbw.size)))
     obtain ⟨s0, s1, s2, s3⟩ := hpc (m) hml
     obtain ⟨r, hr⟩ : ∃ r, r = l[m] := ⟨_, rfl⟩
     rw [← hr] at s0 s1 s2 s3 KC
     have HF1 : Hid (F (m) ↔ Tb.ordI r ⟨qA, qc, qk, qs, qd, qvA, qvc, qv⟩ < 0) := hid (by
       rw [HF.out _ hml, hr])
     obtain ⟨km, hkm⟩ : ∃ km, km = Tb.ordI r ⟨qA, qc, qk, qs, qd, qvA, qvc, qv⟩ := ⟨_, rfl⟩
     rw [← hkm] at KC HF1
     obtain ⟨rA, rc, rk, rs, rd, rvA, rvc, rv⟩ := r
     simp only at s0 s1 s2 s3 KC
     have v0 := (hbV.cell (p := ⟨pb, po + m * 4, none⟩) (by simp; omega)).trans s0
     have v1 := (hbV.cell (p := ⟨pb, po + m * 4 + 1, none⟩) (by simp; omega)).trans s1
     have v2 := (hbV.cell (p := ⟨pb, po + m * 4 + 2, none⟩) (by simp; omega)).trans s2
     have v3 := (hbV.cell (p := ⟨pb, po + m * 4 + 3, none⟩) (by simp; omega)).trans s3
     have hbx2 := (hbV.block w.heap.size (by omega)).trans hbox
     have c0 := cell_of_row V w.heap.size 0 _ _ (0, 0) hbx2
     have c1 := cell_of_row V w.heap.size 1 _ _ (0, 0) hbx2
     have c2 := cell_of_row V w.heap.size 2 _ _ (0, 0) hbx2
     have c3 := cell_of_row V w.heap.size 3 _ _ (0, 0) hbx2
     simp only [List.getElem?_toArray, List.getElem?_cons_zero, List.getElem?_cons_succ] at c0 c1 c2 c3
     have HBV := hid (HW.out.trans (hbV.mono (by omega)))
     have hzV : wr.heap.size ≤ V.heap.size := hbV.size
     have HML := hid hml
     clear hpc hml hr hkm hm s0 s1 s2 s3 hbx2 hbox hbw hbV
     by_cases hk : km < 0
     · have HL2 : Hid (∀ k, k < m + 1 → F k) := hid (fun k h1 => HM.out k _ (by omega) HML.out (HF1.out.2 hk))
       go_wp2_with fail
       refine region_still_tail 6 (by kernel_rfl) (by kernel_rfl) hV ?_
       clear hV
       simp only [List.take_succ_cons, List.take_zero, List.drop_succ_cons, List.drop_zero]
       repeat still_step
       refine wpStill_nil ?_
       go_wp2_with fail
       refine KC.out.mono ?_
       rintro e w' ⟨rfl, hb'⟩
       have HB' := hid (HBV.out.trans (hb'.mono (by omega)))
       clear hb' v0 v1 v2 v3 c0 c1 c2 c3
       go_wp2_with fail
       go_roundw
       case rel => exact ⟨m + 1, b, by omega, hbn, by simp, rfl, HL2, HHI, HB'⟩
       case measure => simp [intOf]; omega
     · have HH2 : Hid (∀ k, m ≤ k → k < n → ¬ F k) := hid (fun k h1 h2 h3 => hk (HF1.out.1 (HM.out _ k h1 (by have := HN.out; omega) h3)))
       go_wp2_with fail
       refine region_still_tail 6 (by kernel_rfl) (by kernel_rfl) hV ?_
       clear hV
       simp only [List.take_succ_cons, List.take_zero, List.drop_succ_cons, List.drop_zero]
       repeat still_step
       refine wpStill_nil ?_
       go_wp2_with fail
       refine KC.out.mono ?_
       rintro e w' ⟨rfl, hb'⟩
       have HB' := hid (HBV.out.trans (hb'.mono (by omega)))
       clear hb' v0 v1 v2 v3 c0 c1 c2 c3
       go_wp2_with fail
       go_roundw
       case rel => exact ⟨a, m, by omega, by omega, rfl, by simp, HLO, HH2, HB'⟩
       case measure => simp [intOf]; omega
   · have hae : a = b := by omega
     subst hae
     have HWV := hid hbw
     by_cases han : a < n
     · obtain ⟨pb, po, hA, hpbl, hpc⟩ := (HR.out.below hbw (Nat.le_refl _)).row4 (by have := HN.out; omega)
       subst hA
       have hml : a < l.length := by have := HN.out; omega
       have KO : Hid (∀ wx, Below wr.heap.size wr wx → Calls Tryz.prog 40 #[(l[a]).val, .agg #[.slice qA qk.length qc, .int .i64 qs, .bool qd, .slice qvA qv.length qvc]] wx fun e w' => e = .returned (.int .i64 (Tb.ordI l[a] ⟨qA, qc, qk, qs, qd, qvA, qvc, qv⟩)) ∧ Below wx.heap.size wx w') := hid (fun wx hx => HCALL.out a hml wx (hbw.trans (hx.mono hbw.size)))
       obtain ⟨v0, v1, v2, v3⟩ := hpc a hml
       obtain ⟨r, hr⟩ : ∃ r, r = l[a] := ⟨_, rfl⟩
       rw [← hr] at v0 v1 v2 v3 KO
       obtain ⟨km, hkm⟩ : ∃ km, km = Tb.ordI r ⟨qA, qc, qk, qs, qd, qvA, qvc, qv⟩ := ⟨_, rfl⟩
       rw [← hkm] at KO
       obtain ⟨rA, rc, rk, rs, rd, rvA, rvc, rv⟩ := r
       simp only [Rv.val] at v0 v1 v2 v3 KO
       have c0 := cell_of_row wr w.heap.size 0 _ _ (0, 0) hbox
       have c1 := cell_of_row wr w.heap.size 1 _ _ (0, 0) hbox
       have c2 := cell_of_row wr w.heap.size 2 _ _ (0, 0) hbox
       have c3 := cell_of_row wr w.heap.size 3 _ _ (0, 0) hbox
       simp only [List.getElem?_toArray, List.getElem?_cons_zero, List.getElem?_cons_succ] at c0 c1 c2 c3
       have hpb2 : pb < wr.heap.size := by omega
       have hbx2 : w.heap.size < wr.heap.size := by omega
       have HKEEP : Hid (∀ Y, Below wr.heap.size wr Y → Y.cell? ⟨pb, po + a * 4, none⟩ = some (.slice rA rk.length rc) ∧ Y.cell? ⟨pb, po + a * 4 + 1, none⟩ = some (.int .i64 rs) ∧ Y.cell? ⟨pb, po + a * 4 + 2, none⟩ = some (.bool rd) ∧ Y.cell? ⟨pb, po + a * 4 + 3, none⟩ = some (.slice rvA rv.length rvc) ∧ Y.cell? ⟨w.heap.size, 0, none⟩ = some (.slice qA qk.length qc) ∧ Y.cell? ⟨w.heap.size, 1, none⟩ = some (.int .i64 qs) ∧ Y.cell? ⟨w.heap.size, 2, none⟩ = some (.bool qd) ∧ Y.cell? ⟨w.heap.size, 3, none⟩ = some (.slice qvA qv.length qvc) ∧ Below wr.heap.size wr Y) :=
         hid (fun Y hy => ⟨(hy.cell (p := ⟨pb, _, none⟩) hpb2).trans v0, (hy.cell (p := ⟨pb, _, none⟩) hpb2).trans v1, (hy.cell (p := ⟨pb, _, none⟩) hpb2).trans v2, (hy.cell (p := ⟨pb, _, none⟩) hpb2).trans v3, (hy.cell (p := ⟨w.heap.size, _, none⟩) hbx2).trans c0, (hy.cell (p := ⟨w.heap.size, _, none⟩) hbx2).trans c1, (hy.cell (p := ⟨w.heap.size, _, none⟩) hbx2).trans c2, (hy.cell (p := ⟨w.heap.size, _, none⟩) hbx2).trans c3, hy⟩)
       have hd : decide ((a : Int) < (n : Int)) = true := by simpa using han
       have hd2 : (a : Int) < (n : Int) := by omega
       have h0a : (0 : Int) ≤ (a : Int) := by omega
       clear hpc hml hr hkm hbox hbw
       go_wp2_with fail
       go_region_held (fun w' => w'.cell? ⟨pb, po + a * 4, none⟩ = some (.slice rA rk.length rc) ∧ w'.cell? ⟨pb, po + a * 4 + 1, none⟩ = some (.int .i64 rs) ∧ w'.cell? ⟨pb, po + a * 4 + 2, none⟩ = some (.bool rd) ∧ w'.cell? ⟨pb, po + a * 4 + 3, none⟩ = some (.slice rvA rv.length rvc) ∧ w'.cell? ⟨w.heap.size, 0, none⟩ = some (.slice qA qk.length qc) ∧ w'.cell? ⟨w.heap.size, 1, none⟩ = some (.int .i64 qs) ∧ w'.cell? ⟨w.heap.size, 2, none⟩ = some (.bool qd) ∧ w'.cell? ⟨w.heap.size, 3, none⟩ = some (.slice qvA qv.length qvc) ∧ Below wr.heap.size wr w')
         (first | exact HKEEP.out _ ((Below.refl _ _).drew) | exact HKEEP.out _ B3)
         (first | (go_at_call 40; refine (KO.out _ (by go_split_ands; assumption)).mono ?_; rintro e w1 ⟨rfl, hb1⟩; have B3 := Below.trans (b := _) (by go_split_ands; assumption : Below wr.heap.size wr _) (hb1.mono (by go_split_ands; exact Below.size (by assumption)))))
       go_wp2_with fail
       go_ret2
       exact ⟨⟨a, _, rfl, hbn, HLO.out, HHI.out⟩, HWV.out.trans (B3.mono HWV.out.size)⟩
     · obtain rfl : n = a := by omega
       clear hbox hbw
       go_wp2_with fail
       go_quiet (fail)
       refine drewN_any ?_
       intro X hbX hX
       have HBX2 := hid hbX
       clear hbX hX
       go_wp2_with fail
       go_ret2
       exact ⟨⟨n, _, rfl, hbn, HLO.out, HHI.out⟩, HWV.out.trans (HBX2.out.mono HWV.out.size)⟩
theorem PqA.cell {w : World} {base : Nat} {F : Nat → Prop} {p : Pq} {rs : List Rv} (h : PqA w base F p rs) : w.cell? ⟨p.g, 1, none⟩ = some (.slice p.kA p.k.length p.kc) := by
 rcases h.st with h1 | ⟨A, c, l, h1, _⟩
 · rw [cell_of_row w p.g 1 _ _ (0, 0) h1]; rfl
 · rw [cell_of_row w p.g 1 _ _ (0, 0) h1]; rfl
set_option maxRecDepth 100000 in
theorem seek1_any (p : Pq) (rs : List Rv) (w : World) (base : Nat) (F : Nat → Prop) (h : PqA w base F p rs) (kA : Option Addr) (kc : Nat) (k : List UInt8) (hk : RdB w w.heap.size kA k) :
   Calls Tryz.prog 86 #[.pointer (some ⟨p.g, 0, none⟩), .slice kA k.length kc] w fun e w' => e = .returned (.int .i64 (Lib.compareBytes p.k k)) ∧ w = w' := by
 have c1 := h.cell
 have KB := hid (bcmp_any w.heap.size p.kA p.kc p.k w.heap.size kA kc k w h.mem.hk.rd hk)
 clear h hk
 obtain ⟨x, hx⟩ : ∃ x, x = Lib.compareBytes p.k k := ⟨_, rfl⟩
 rw [← hx] at KB ⊢
 clear hx
 go_enter Tryz.func86, Tryz.ntmps86
 go_wp2_with fail
 refine KB.out.mono ?_
 rintro e w' ⟨rfl, rfl⟩
 go_wp2_with fail
 go_ret
 exact ⟨rfl, rfl⟩
def SeekP (base : Nat) (F : Nat → Prop) (t : Ti) (R : List Rv) (q : Rv) (w : World) (e : Ending) (w' : World) : Prop := TbAt base F t w' ∧ Qry base t w w' ∧ ∃ at_ i : Nat, e = .returned (.tuple #[.int .i64 (at_ : Int), .int .i64 (i : Int)]) ∧ SeekQ t R q at_ i
theorem core_at {l m : List Rv} (h : l.map Rv.core = m.map Rv.core) {i : Nat} (hi : i < l.length) (hj : i < m.length) : l[i].core = m[i].core := by
 have h1 : (l.map Rv.core)[i]? = (m.map Rv.core)[i]? := by rw [h]
 rw [List.getElem?_map, List.getElem?_map, List.getElem?_eq_getElem hi, List.getElem?_eq_getElem hj] at h1
 simpa using h1
theorem TbR.rise {t : Ti} {R : List Rv} {bits : Nat} (h : TbR t R bits) {j : Nat} {x : Pq × List Rv} (hx : t.ps[j]? = some x) {l : List Rv} (hco : l.map Rv.core = x.2.map Rv.core) : l.length = x.2.length ∧ l.length ≤ 20000 ∧ ∀ a b (h1 : a < l.length) (h2 : b < l.length), a < b → Tb.ahead l[a] l[b] = true := by
 obtain ⟨hj, rfl⟩ := List.getElem?_eq_some_iff.1 hx
 have hll : l.length = t.ps[j].2.length := by
   have := congrArg List.length hco
   simpa using this
 refine ⟨hll, ?_, fun a b h1 h2 hlt => ?_⟩
 · have h1 := h.off_all
   have h2 := t.off_succ hj
   have h3 := t.off_le (i := j + 1) (j := t.ps.length) (by omega) (Nat.le_refl _)
   have h4 := h.len
   omega
 · obtain ⟨a1, a2⟩ := h.at_ hj (m := a) (by omega)
   obtain ⟨b1, b2⟩ := h.at_ hj (m := b) (by omega)
   rw [Tb.ahead_core (core_at hco h1 (by omega)) (core_at hco h2 (by omega)), ← a2, ← b2]
   exact Tb.sorted_any h.srt (by omega) b1
theorem TbR.hit {t : Ti} {R : List Rv} {bits : Nat} (h : TbR t R bits) (k : List UInt8) (seq : Int) (h1 : 1 ≤ seq) (h2 : seq ≤ 1099511627776) {a i : Nat} {x : Pq × List Rv} (hx : t.ps[a]? = some x) {l : List Rv} (hco : l.map Rv.core = x.2.map Rv.core)
   (hlo : ∀ j, j < a → if h : j < t.ps.length then Lib.compareBytes t.ps[j].1.k (Tb.ikey k seq) < 0 else False) (hhi : ¬ (if h : a < t.ps.length then Lib.compareBytes t.ps[a].1.k (Tb.ikey k seq) < 0 else False)) (hi : i ≤ l.length)
   (ilo : ∀ m, m < i → ∃ h : m < l.length, Tb.ahead l[m] (Tb.ask k seq) = true) (ihi : ∀ m, i ≤ m → m < l.length → ¬ ∃ h : m < l.length, Tb.ahead l[m] (Tb.ask k seq) = true) : SeekQ t R (Tb.ask k seq) a i := by
 have hll := (h.rise hx hco).1
 obtain ⟨ha, rfl⟩ := List.getElem?_eq_some_iff.1 hx
 refine h.found k seq h1 h2 ha (fun j hj hlt => ?_) ?_ (by omega) (fun m hm hlt => ?_) (fun m hm hge => ?_)
 · have h3 := hlo j hlt
   simp only [dif_pos hj] at h3
   exact h3
 · simp only [dif_pos ha] at hhi
   exact hhi
 · obtain ⟨hml, h3⟩ := ilo m hlt
   rw [Tb.ahead_core (core_at hco hml hm) rfl] at h3
   exact h3
 · have hml : m < l.length := by omega
   have h3 := ihi m hge hml
   cases hx3 : Tb.ahead t.ps[a].2[m] (Tb.ask k seq) with
   | false => rfl
   | true => exact absurd ⟨hml, by rw [Tb.ahead_core (core_at hco hml hm) rfl]; exact hx3⟩ h3
set_option maxHeartbeats 4000000 in
set_option maxRecDepth 100000 in
theorem seek_any (base : Nat) (F : Nat → Prop) (t : Ti) (R : List Rv) (bits : Nat) (hR : TbR t R bits) (kA : Option Addr) (kc : Nat) (k : List UInt8) (seq : Int) (w : World) (h : TbAt base F t w) (hk : HBs w base kA k) (hkl : k.length ≤ 10000) (hkc : k.length ≤ kc) (hs1 : 1 ≤ seq) (hs2 : seq ≤ 1099511627776) (hn : t.ps.length ≤ 100000) :
   Calls Tryz.prog 52 #[.pointer (some ⟨t.gt, 0, none⟩), .slice kA k.length kc, .int .i64 seq] w (SeekP base F t R (Tb.ask k seq) w) := by
 have KI := hid (ikeyT_any kA kc k seq w hk.rd (by omega) hs1 hs2)
 have HR := hid hR
 have HT := hid h
 have HK := hid hk
 clear hR h hk
 go_enter Tryz.func52, Tryz.ntmps52
 go_wp2_with fail
 refine KI.out.mono ?_
 rintro e w1 ⟨iA, ic, rfl, hoi, hb1⟩
 have HT1 := hid (HT.out.call hb1)
 have HQ1 := hid (Qry.of (t := t) hb1 HT.out.size)
 have HK1 := hid (HK.out.below hb1)
 obtain ⟨z, hz⟩ := HT1.out.box
 have c0 : w1.cell? ⟨t.gt, 0, none⟩ = some (.slice t.PA t.ps.length t.PC) := by rw [cell_of_row w1 t.gt 0 _ _ (0, 0) hz]; rfl
 have HOI := hid hoi
 have KB := bsearchP_any t.PA iA t.PC ic (t.ps.map (·.1.g)) (Tb.ikey k seq) (fun j => if h : j < t.ps.length then Lib.compareBytes t.ps[j].1.k (Tb.ikey k seq) else 0) (fun j => if h : j < t.ps.length then Lib.compareBytes t.ps[j].1.k (Tb.ikey k seq) < 0 else False)
   (fun j => by by_cases hj : j < t.ps.length <;> simp [hj]) w1 HT1.out.row.rd (by rw [List.length_map]; omega) (fun j hj => by
     have hj' : j < t.ps.length := by rw [List.length_map] at hj; exact hj
     have h1 := seek1_any t.ps[j].1 t.ps[j].2 w1 base F (HT1.out.parts _ (List.getElem_mem hj')) iA ic (Tb.ikey k seq) hoi.rd
     rw [dif_pos hj', List.getElem_map]
     exact h1) (fun a b hab hb hF => by
     have hb' : b < t.ps.length := by rw [List.length_map] at hb; exact hb
     have ha' : a < t.ps.length := by omega
     rw [dif_pos hb'] at hF
     rw [dif_pos ha']
     rw [HR.out.cmp k seq hs1 hs2 hb'] at hF
     rw [HR.out.cmp k seq hs1 hs2 ha']
     intro m hm hlt
     exact hF m hm (Nat.lt_of_lt_of_le hlt (t.off_le (by omega) (by omega))))
 rw [List.length_map] at KB
 have KB := hid KB
 obtain ⟨ikn, hikn⟩ : ∃ ikn, ikn = (Tb.ikey k seq).length := ⟨_, rfl⟩
 rw [← hikn] at KB ⊢
 clear hoi hb1 hz hikn
 go_wp2_with fail
 refine KB.out.mono ?_
 rintro e w' ⟨⟨at_, bb, rfl, hat, hlo, hhi⟩, rfl⟩
 have HLO := hid hlo
 have HHI := hid hhi
 clear hlo hhi
 by_cases hae : at_ = t.ps.length
 · have HS : Hid (SeekQ t R (Tb.ask k seq) t.ps.length 0) := hid (HR.out.behind k seq hs1 hs2 (fun j hj => by
     have h1 := HLO.out j (by omega)
     simp only [dif_pos hj] at h1
     exact h1))
   subst hae
   go_wp2_with fail
   go_ret2
   exact ⟨HT1.out, HQ1.out, _, 0, rfl, HS.out⟩
 · have hal : at_ < t.ps.length := by omega
   obtain ⟨pb, po, hA, hpbl, hpc⟩ := RdS.row (f := Ptc) (n := 1) (fun _ => rfl) (by omega) HT1.out.row.rd (by rw [List.length_map]; omega)
   have s0o := hpc at_ (by rw [List.length_map]; exact hal) 0 _ rfl
   simp only [Nat.mul_one, Nat.add_zero, List.getElem_map] at s0o
   have hxm : t.ps[at_] ∈ t.ps := List.getElem_mem hal
   have KAo := hid (all_any base F t t.ps[at_] hxm w1 HT1.out (HR.out.prt _ hxm))
   have HAL := hid hal
   obtain ⟨n, hnn⟩ : ∃ n, n = t.ps.length := ⟨_, rfl⟩
   obtain ⟨x, hx, s0, KA⟩ : ∃ x, t.ps[at_]? = some x ∧ w1.cell? ⟨pb, po + at_, none⟩ = some (.pointer (some ⟨x.1.g, 0, none⟩)) ∧ Hid (Calls Tryz.prog 33 #[.pointer (some ⟨x.1.g, 0, none⟩)] w1 (AllQ base F t x.2 w1)) := ⟨_, List.getElem?_eq_getElem hal, s0o, KAo⟩
   clear s0o KAo
   rw [← hnn] at c0 hal hae ⊢
   rw [hA] at c0 ⊢
   have HX := hid hx
   have HNN := hid hnn
   have hnb : n ≤ 100000 := by omega
   have hd : (at_ == n) = false := by simpa using hae
   have hd2 : ((at_ : Int) == (n : Int)) = false := by simp; omega
   clear hpc hxm hx hnn hA hat hae
   go_wp2_with fail
   refine KA.out.mono ?_
   rintro e w3 ⟨hT3, hQ3, lA, lc, l, rfl, hrec, hco, _⟩
   have HT3 := hid hT3
   have HQ3 := hid (HQ1.out.trans hQ3)
   have HK3 := hQ3.hbs (Nat.le_refl _) HK1.out
   obtain ⟨hll, hl20, HFA⟩ := HR.out.rise HX.out hco
   have KR := hid (bsearchR_any lA lc l ⟨kA, kc, k, seq, false, none, 0, []⟩ (fun m => ∃ h : m < l.length, Tb.ahead l[m] (Tb.ask k seq) = true) (fun m hm => by
       rw [Tb.ordI_neg]
       exact ⟨fun ⟨_, h⟩ => h, fun h => ⟨hm, h⟩⟩) w3 hrec.rd ⟨HK3.rd, RdB.nil, hkc, Nat.le_refl _⟩ (by omega) (fun a b hab hb ⟨_, hF⟩ => by
       refine ⟨by omega, ?_⟩
       rcases Nat.lt_or_ge a b with h1 | h1
       · exact Tb.ahead_trans (HFA a b (by omega) hb h1) hF
       · have : a = b := by omega
         subst this; exact hF))
   have HCO := hid hco
   have HLL := hid hll
   have HHT3 := hid hT3.size
   clear hT3 hQ3 HK3 hrec hco hll HFA c0 s0
   simp only [Rv.val, List.length_nil] at KR
   go_wp2_with fail
   refine KR.out.mono ?_
   rintro e w4 ⟨⟨i, b2, rfl, hi, hilo, hihi⟩, hb4⟩
   have HS : Hid (SeekQ t R (Tb.ask k seq) at_ i) := hid (HR.out.hit k seq hs1 hs2 HX.out HCO.out HLO.out (HHI.out at_ (Nat.le_refl _) HAL.out) hi hilo hihi)
   have HFIN := hid (And.intro (HT3.out.call hb4) (HQ3.out.trans (Qry.of (t := t) hb4 HHT3.out)))
   clear hb4 hilo hihi
   go_wp2_with fail
   go_ret2
   exact ⟨HFIN.out.1, HFIN.out.2, at_, i, rfl, HS.out⟩
def CpdQ (w : World) (r : Rv) (e : Ending) (w' : World) : Prop := Below w.heap.size w w' ∧ ∃ r' : Rv, e = .returned r'.val ∧ r'.core = r.core ∧ Own w' w.heap.size 5 r'.kA r'.kc r'.k ∧ Own w' w.heap.size 5 r'.vA r'.vc r'.v
set_option maxHeartbeats 2000000 in
set_option maxRecDepth 100000 in
theorem copied_any (r : Rv) (w : World) (hk : RdB w w.heap.size r.kA r.k) (hv : RdB w w.heap.size r.vA r.v) (hkl : r.k.length ≤ 1000000) (hvl : r.v.length ≤ 1000000) :
   Calls Tryz.prog 53 #[r.val] w (CpdQ w r) := by
 obtain ⟨kA, kc, k, seq, del, vA, vc, v⟩ := r
 simp only at hk hv hkl hvl
 have HKR : Hid (∀ X, Below w.heap.size w X → Calls Tryz.prog 34 #[.slice kA k.length kc] X (GivesB X k)) := hid (fun X hX => cloneU_any kA kc k X ((hk.below hX (Nat.le_refl _)).more hX.size) (by omega))
 have HVR : Hid (∀ X, Below w.heap.size w X → Calls Tryz.prog 34 #[.slice vA v.length vc] X (GivesB X v)) := hid (fun X hX => cloneU_any vA vc v X ((hv.below hX (Nat.le_refl _)).more hX.size) (by omega))
 clear hk hv
 simp only [Rv.val]
 go_enter Tryz.func53, Tryz.ntmps53
 go_wp2_with fail
 obtain ⟨V, hV⟩ : ∃ V, ((w.alloc (.cells #[.slice kA k.length kc, .int .i64 seq, .bool del, .slice vA v.length vc] 35)).alloc (.cells #[.slice none 0 0, .int .i64 0, .bool false, .slice none 0 0] 35)).drew = V := ⟨_, rfl⟩
 have hbV : Below w.heap.size w V := by rw [← hV]; exact (below_al2 w _ _).drew
 have hz : V.heap.size = w.heap.size + 2 := by rw [← hV]; simp
 have hx0 : V.heap[w.heap.size]? = some (.cells #[.slice kA k.length kc, .int .i64 seq, .bool del, .slice vA v.length vc] 35) := by
   rw [← hV]
   exact (((Below.refl _ _).alloc (Nat.le_refl _) _).block _ (by simp)).trans (heap_alloc_new w _)
 have hx1 : V.heap[w.heap.size + 1]? = some (.cells #[.slice none 0 0, .int .i64 0, .bool false, .slice none 0 0] 35) := by
   rw [← hV]
   have h1 := heap_alloc_new (w.alloc (.cells #[.slice kA k.length kc, .int .i64 seq, .bool del, .slice vA v.length vc] 35)) (.cells #[.slice none 0 0, .int .i64 0, .bool false, .slice none 0 0] 35)
   rw [show (w.alloc (.cells #[.slice kA k.length kc, .int .i64 seq, .bool del, .slice vA v.length vc] 35)).heap.size = w.heap.size + 1 by simp] at h1
   exact h1
 have HSV : V.cell? ⟨w.heap.size, 3, none⟩ = some (.slice vA v.length vc) := by rw [cell_of_row V w.heap.size 3 _ _ (0, 0) hx0]; rfl
 have c0 : V.cell? ⟨w.heap.size, 0, none⟩ = some (.slice kA k.length kc) := by rw [cell_of_row V w.heap.size 0 _ _ (0, 0) hx0]; rfl
 have HBV := hid hbV
 have HX0 := hid hx0
 have HX1 := hid hx1
 have HZ := hid hz
 clear hbV hx0 hx1 hz
 refine wp_region_E 9 (fun w' => w'.cell? ⟨w.heap.size, 3, none⟩ = some (.slice vA v.length vc)) (by kernel_rfl) ?_
 rw [hV]
 clear hV
 refine wpAnyE_take (i := 0) (v := ?_) rfl (by kernel_rfl) (by kernel_rfl) (by kernel_rfl) (by kernel_rfl) (fun _ _ _ h => h) (Or.inl ⟨by rfl, ?_⟩) HSV ?_
 rotate_left
 · (intro wy hSw; go_simp; try with_reducible rfl)
 try simp only [Act.put, List.setIfInBounds_toArray]
 refine wpAnyE_take (i := 3) (v := ?_) rfl (by kernel_rfl) (by kernel_rfl) (by kernel_rfl) (by kernel_rfl) (fun _ _ _ h => h) (Or.inl ⟨by rfl, ?_⟩) HSV ?_
 rotate_left
 · (intro wy hSw; go_simp; try with_reducible rfl)
 try simp only [Act.put]
 refine wpAnyE_take (i := 4) (v := ?_) rfl (by kernel_rfl) (by kernel_rfl) (by kernel_rfl) (by kernel_rfl) (fun _ _ _ h => h) (Or.inl ⟨by rfl, ?_⟩) HSV ?_
 rotate_left
 · (intro wy hSw; go_simp; try with_reducible rfl)
 try simp only [Act.put]
 refine wpAnyE_one (i := 1) (by kernel_rfl) rfl (fun K hK => ?_)
 go_simp
 refine hK _ _ HSV ?_
 try simp only [Act.put, List.setIfInBounds_toArray]
 refine wpAnyE_one (i := 2) (by kernel_rfl) rfl (fun K hK => ?_)
 refine step_call1_d (by rfl) (some 5) (by rfl) (.tmp 4) (by rfl) (.slice kA k.length kc) rfl (enters_of Tryz.func34 (by kernel_rfl) rfl) _ (HKR.out V HBV.out) ?_
 rintro e w1 ⟨A1, c1, rfl, ho1, hb1⟩
 refine ⟨_, rfl, ?_⟩
 have hS1 : w1.cell? ⟨w.heap.size, 3, none⟩ = some (.slice vA v.length vc) := (hb1.cell (p := ⟨w.heap.size, 3, none⟩) (by have := HZ.out; simp; omega)).trans HSV
 refine hK _ _ hS1 ?_
 try simp only [Act.put, List.setIfInBounds_toArray]
 refine wpAnyE_take (i := 6) (v := ?_) rfl (by kernel_rfl) (by kernel_rfl) (by kernel_rfl) (by kernel_rfl) (fun _ _ _ h => h) (Or.inl ⟨by rfl, ?_⟩) hS1 ?_
 rotate_left
 · (intro wy hSw; go_simp; try with_reducible rfl)
 try simp only [Act.put, List.setIfInBounds_toArray]
 refine wpAnyE_one (i := 5) (by kernel_rfl) rfl (fun K hK => ?_)
 refine step_call1_d (by rfl) (some 8) (by rfl) (.tmp 7) (by rfl) (.slice vA v.length vc) rfl (enters_of Tryz.func34 (by kernel_rfl) rfl) _ (HVR.out w1 (HBV.out.trans (hb1.mono HBV.out.size))) ?_
 rintro e w2 ⟨A2, c2, rfl, ho2, hb2⟩
 refine ⟨_, rfl, ?_⟩
 have hS2 : w2.cell? ⟨w.heap.size, 3, none⟩ = some (.slice vA v.length vc) := (hb2.cell (p := ⟨w.heap.size, 3, none⟩) (by have := HZ.out; have := hb1.size; simp; omega)).trans hS1
 refine hK _ _ hS2 ?_
 try simp only [Act.put]
 have hz1 := hb1.size
 have hz2 := hb2.size
 have hzV := HZ.out
 have HX02 : Hid (w2.heap[w.heap.size]? = some (.cells #[.slice kA k.length kc, .int .i64 seq, .bool del, .slice vA v.length vc] 35)) := hid ((hb2.block _ (by omega)).trans ((hb1.block _ (by omega)).trans HX0.out))
 have HX12 : Hid (w2.heap[w.heap.size + 1]? = some (.cells #[.slice none 0 0, .int .i64 0, .bool false, .slice none 0 0] 35)) := hid ((hb2.block _ (by omega)).trans ((hb1.block _ (by omega)).trans HX1.out))
 have HO1 : Hid (Own w2 w.heap.size 5 A1 c1 k) := hid ((ho1.below hb2).mono (by omega))
 have HO2 : Hid (Own w2 w.heap.size 5 A2 c2 v) := hid (ho2.mono (by omega))
 have HB2 : Hid (Below w.heap.size w w2) := hid ((HBV.out.trans (hb1.mono HBV.out.size)).trans (hb2.mono (by omega)))
 clear ho1 ho2 hb1 hb2 HSV c0 hzV
 have f0 := frozen_of_row w2 w.heap.size 0 _ _ HX02.out
 have d0 : w2.cell? ⟨w.heap.size, 0, none⟩ = some (.slice kA k.length kc) := by rw [cell_of_row w2 w.heap.size 0 _ _ (0, 0) HX02.out]; rfl
 refine wpAnyE_one (i := 7) (by kernel_rfl) rfl (fun K hK => ?_)
 go_simp
 have hx3 : (w2.setCell ⟨w.heap.size, 0, none⟩ (.slice A1 k.length c1)).heap[w.heap.size]? = some (.cells #[.slice A1 k.length c1, .int .i64 seq, .bool del, .slice vA v.length vc] 35) := by
   have := heap_setCell_same w2 w.heap.size 0 _ _ (.slice A1 k.length c1) HX02.out
   simpa using this
 have hS3 : (w2.setCell ⟨w.heap.size, 0, none⟩ (.slice A1 k.length c1)).cell? ⟨w.heap.size, 3, none⟩ = some (.slice vA v.length vc) := by rw [cell_of_row _ w.heap.size 3 _ _ (0, 0) hx3]; rfl
 refine hK _ _ hS3 ?_
 try simp only [Act.put, List.setIfInBounds_toArray]
 refine wpAnyE_one (i := 8) (by kernel_rfl) rfl (fun K hK => ?_)
 go_simp
 refine hK _ _ hS3 ?_
 try simp only [Act.put, List.setIfInBounds_toArray]
 have f3 := frozen_of_row _ w.heap.size 3 _ _ hx3
 refine wpAnyE_last (by kernel_rfl) (by kernel_rfl) rfl (fun K hK => ?_)
 go_simp
 refine hK _ _ ?_
 have hx4 : ((w2.setCell ⟨w.heap.size, 0, none⟩ (.slice A1 k.length c1)).setCell ⟨w.heap.size, 3, none⟩ (.slice A2 v.length c2)).heap[w.heap.size]? = some (.cells #[.slice A1 k.length c1, .int .i64 seq, .bool del, .slice A2 v.length c2] 35) := by
   have := heap_setCell_same _ w.heap.size 3 _ _ (.slice A2 v.length c2) hx3
   simpa using this
 have hx5 : ((w2.setCell ⟨w.heap.size, 0, none⟩ (.slice A1 k.length c1)).setCell ⟨w.heap.size, 3, none⟩ (.slice A2 v.length c2)).heap[w.heap.size + 1]? = some (.cells #[.slice none 0 0, .int .i64 0, .bool false, .slice none 0 0] 35) := by
   rw [heap_setD _ (by simp), heap_setD _ (by simp)]; exact HX12.out
 have HB4 : Hid (Below w.heap.size w ((w2.setCell ⟨w.heap.size, 0, none⟩ (.slice A1 k.length c1)).setCell ⟨w.heap.size, 3, none⟩ (.slice A2 v.length c2))) := hid ((HB2.out.setCell (Nat.le_refl _) _).setCell (Nat.le_refl _) _)
 have hnb : ∀ {A : Option Addr} {c : Nat} {l : List UInt8}, Own w2 w.heap.size 5 A c l → Own ((w2.setCell ⟨w.heap.size, 0, none⟩ (.slice A1 k.length c1)).setCell ⟨w.heap.size, 3, none⟩ (.slice A2 v.length c2)) w.heap.size 5 A c l := fun {A c l} ho => by
   have hne : blk A ≠ some w.heap.size := fun e => by
     obtain ⟨_, cs, fr, h1⟩ := own_tag ho e
     exact tag_ne2 h1 HX02.out (by decide) rfl
   exact (ho.cellput ⟨w.heap.size, 0, none⟩ _ hne).cellput ⟨w.heap.size, 3, none⟩ _ hne
 have HO1' := hid (hnb HO1.out)
 have HO2' := hid (hnb HO2.out)
 obtain ⟨W4, hW4⟩ : ∃ W4, (w2.setCell ⟨w.heap.size, 0, none⟩ (.slice A1 k.length c1)).setCell ⟨w.heap.size, 3, none⟩ (.slice A2 v.length c2) = W4 := ⟨_, rfl⟩
 rw [hW4] at hx4 hx5 HB4 HO1' HO2' ⊢
 have g0 := cell_of_row W4 w.heap.size 0 _ _ (0, 0) hx4
 have g1 := cell_of_row W4 w.heap.size 1 _ _ (0, 0) hx4
 have g2 := cell_of_row W4 w.heap.size 2 _ _ (0, 0) hx4
 have g3 := cell_of_row W4 w.heap.size 3 _ _ (0, 0) hx4
 have i0 := cell_of_row W4 (w.heap.size + 1) 0 _ _ (0, 0) hx5
 have i1 := cell_of_row W4 (w.heap.size + 1) 1 _ _ (0, 0) hx5
 have i2 := cell_of_row W4 (w.heap.size + 1) 2 _ _ (0, 0) hx5
 have i3 := cell_of_row W4 (w.heap.size + 1) 3 _ _ (0, 0) hx5
 have j0 := frozen_of_row W4 (w.heap.size + 1) 0 _ _ hx5
 have j1 := frozen_of_row W4 (w.heap.size + 1) 1 _ _ hx5
 have j2 := frozen_of_row W4 (w.heap.size + 1) 2 _ _ hx5
 have j3 := frozen_of_row W4 (w.heap.size + 1) 3 _ _ hx5
 simp only [List.getElem?_toArray, List.getElem?_cons_zero, List.getElem?_cons_succ] at g0 g1 g2 g3 i0 i1 i2 i3
 have HX5 := hid hx5
 clear hW4 hx3 hx4 hS3 hS2 hS1 f0 f3 d0 hnb hx5
 go_wp2_with fail
 obtain ⟨W5, hW5, hx6, HB5, HO15, HO25⟩ : ∃ W5, (((W4.setCell ⟨w.heap.size + 1, 0, none⟩ (.slice A1 k.length c1)).setCell ⟨w.heap.size + 1, 1, none⟩ (.int .i64 seq)).setCell ⟨w.heap.size + 1, 2, none⟩ (.bool del)).setCell ⟨w.heap.size + 1, 3, none⟩ (.slice A2 v.length c2) = W5 ∧
     W5.heap[w.heap.size + 1]? = some (.cells #[.slice A1 k.length c1, .int .i64 seq, .bool del, .slice A2 v.length c2] 35) ∧ Hid (Below w.heap.size w W5) ∧ Hid (Own W5 w.heap.size 5 A1 c1 k) ∧ Hid (Own W5 w.heap.size 5 A2 c2 v) := by
   have hnb : ∀ {A : Option Addr} {c : Nat} {l : List UInt8}, Own W4 w.heap.size 5 A c l → blk A ≠ some (w.heap.size + 1) := fun {A c l} ho e => by
     obtain ⟨_, cs, fr, h1⟩ := own_tag ho e
     exact tag_ne2 h1 HX5.out (by decide) rfl
   refine ⟨_, rfl, heap_set4 HX5.out, hid ((((HB4.out.setCell (by simp) _).setCell (by simp) _).setCell (by simp) _).setCell (by simp) _), hid ?_, hid ?_⟩
   · have h1 := hnb HO1'.out
     exact (((HO1'.out.cellput ⟨w.heap.size + 1, 0, none⟩ _ h1).cellput ⟨w.heap.size + 1, 1, none⟩ _ h1).cellput ⟨w.heap.size + 1, 2, none⟩ _ h1).cellput ⟨w.heap.size + 1, 3, none⟩ _ h1
   · have h1 := hnb HO2'.out
     exact (((HO2'.out.cellput ⟨w.heap.size + 1, 0, none⟩ _ h1).cellput ⟨w.heap.size + 1, 1, none⟩ _ h1).cellput ⟨w.heap.size + 1, 2, none⟩ _ h1).cellput ⟨w.heap.size + 1, 3, none⟩ _ h1
 rw [hW5]
 have e0 := cell_of_row W5 (w.heap.size + 1) 0 _ _ (0, 0) hx6
 have e1 := cell_of_row W5 (w.heap.size + 1) 1 _ _ (0, 0) hx6
 have e2 := cell_of_row W5 (w.heap.size + 1) 2 _ _ (0, 0) hx6
 have e3 := cell_of_row W5 (w.heap.size + 1) 3 _ _ (0, 0) hx6
 simp only [List.getElem?_toArray, List.getElem?_cons_zero, List.getElem?_cons_succ] at e0 e1 e2 e3
 exact bodyPost_ret (v := .agg #[.slice A1 k.length c1, .int .i64 seq, .bool del, .slice A2 v.length c2]) (by simp [results, Tryz.results53, go_sem, e0, e1, e2, e3]) rfl
   ⟨HB5.out, ⟨A1, c1, k, seq, del, A2, c2, v⟩, rfl, rfl, HO15.out, HO25.out⟩
def zeroRec : Value := .agg #[.slice none 0 0, .int .i64 0, .bool false, .slice none 0 0]
def RgQ (L : List Rv) (key : List UInt8) (seq : Int) (w : World) (e : Ending) (w' : World) : Prop := Below w.heap.size w w' ∧ ((Tb.get L key seq = none ∧ e = .returned (.tuple #[zeroRec, .bool false])) ∨ ∃ r, r ∈ L ∧ Tb.get L key seq = some r ∧ e = .returned (.tuple #[r.val, .bool true]))
theorem get_first {L : List Rv} {key : List UInt8} {seq : Int} {k : Nat} (hk : k < L.length) (h0 : ∀ j (hj : j < L.length), j < k → (L[j].k == key && decide (L[j].seq ≤ seq)) = false) (h1 : (L[k].k == key && decide (L[k].seq ≤ seq)) = true) : Tb.get L key seq = some L[k] := by
 unfold Tb.get
 rw [List.find?_eq_some_iff_getElem]
 exact ⟨h1, k, hk, rfl, fun j hj => by rw [h0 j (by omega) hj]; rfl⟩
theorem get_never {L : List Rv} {key : List UInt8} {seq : Int} (h0 : ∀ j (hj : j < L.length), (L[j].k == key && decide (L[j].seq ≤ seq)) = false) : Tb.get L key seq = none := by
 unfold Tb.get
 rw [List.find?_eq_none]
 intro r hr
 obtain ⟨m, hm, rfl⟩ := List.mem_iff_getElem.1 hr
 rw [h0 m hm]; simp
set_option maxHeartbeats 2000000 in
set_option maxRecDepth 100000 in
theorem rget_any (gl : Nat) (A : Option Addr) (c : Nat) (L : List Rv) (hv : Value) (kA : Option Addr) (kc : Nat) (key : List UInt8) (seq : Int) (w : World) (hbox : w.heap[gl]? = some (.cells #[.slice A L.length c, hv] 33)) (hr : RdRv w w.heap.size A L) (hk : RdB w w.heap.size kA key) (hl : L.length ≤ 1000000) :
   Calls Tryz.prog 35 #[.pointer (some ⟨gl, 0, none⟩), .slice kA key.length kc, .int .i64 seq] w (RgQ L key seq w) := by
 have HBOX := hid hbox
 have HR := hid hr
 have HK := hid hk
 have hgl := (Array.getElem?_eq_some_iff.1 hbox).1
 clear hbox hr hk
 have HBA : Hid (Below w.heap.size w (w.alloc (.cells #[.slice none 0 0, .int .i64 0, .bool false, .slice none 0 0] 35))) := hid ((Below.refl _ _).alloc (Nat.le_refl _) _)
 have HRES : Hid (∀ W, Below (w.heap.size + 1) (w.alloc (.cells #[.slice none 0 0, .int .i64 0, .bool false, .slice none 0 0] 35)) W → W.heap[w.heap.size]? = some (.cells #[.slice none 0 0, .int .i64 0, .bool false, .slice none 0 0] 35) ∧ Below w.heap.size w W) := hid (fun W hb => ⟨(hb.block _ (by omega)).trans (heap_alloc_new w _), HBA.out.trans (hb.mono (by omega))⟩)
 go_enter Tryz.func35, Tryz.ntmps35
 go_wp2_with fail
 go_loopw [8] (fun i wr => ∃ k : Nat, k ≤ L.length ∧ i = .int .i64 (k : Int) ∧ Hid (∀ j (hj : j < L.length), j < k → (L[j].k == key && decide (L[j].seq ≤ seq)) = false) ∧ Hid (Below (w.heap.size + 1) (w.alloc (.cells #[.slice none 0 0, .int .i64 0, .bool false, .slice none 0 0] 35)) wr)) (fun i _ => L.length - (intOf i).toNat)
 case atStart => exact ⟨0, by omega, rfl, hid (fun j hj h => by omega), hid (Below.refl _ _)⟩
 case round =>
   obtain ⟨k, hk, rfl, HNO, HW⟩ := hrel
   have hwr := (HRES.out wr HW.out).2
   have hres := (HRES.out wr HW.out).1
   have hglr : gl < wr.heap.size := Nat.lt_of_lt_of_le hgl hwr.size
   have l0 : wr.cell? ⟨gl, 0, none⟩ = some (.slice A L.length c) := by rw [cell_of_row wr gl 0 _ _ (0, 0) ((hwr.block _ hgl).trans HBOX.out)]; rfl
   have hzr := (Array.getElem?_eq_some_iff.1 hres).1
   by_cases hlt : k < L.length
   · obtain ⟨ab, ao, hA, hab, hac⟩ := (HR.out.below hwr (Nat.le_refl _)).row4 (by omega)
     subst hA
     obtain ⟨a0, a1, a2, a3⟩ := hac k hlt
     have hok := (HR.out.below hwr (Nat.le_refl _)).ok _ (List.getElem_mem hlt)
     have hkey := (HK.out.below hwr (Nat.le_refl _)).more hwr.size
     have hnx := HNO.out
     have HGF : Hid ((L[k].k == key && decide (L[k].seq ≤ seq)) = true → Tb.get L key seq = some L[k]) := hid (fun h1 => get_first hlt HNO.out h1)
     have HGN : Hid ((L[k].k == key && decide (L[k].seq ≤ seq)) = false → ∀ j (hj : j < L.length), j < k + 1 → (L[j].k == key && decide (L[j].seq ≤ seq)) = false) := hid (fun h1 j hj h2 => by
       by_cases e : j = k
       · subst e; exact h1
       · exact HNO.out j hj (by omega))
     have HMEM : Hid (L[k] ∈ L) := hid (List.getElem_mem hlt)
     have HSTR : Hid (∀ Y, Below wr.heap.size wr Y → StrB Y L[k].kA L[k].k.length L[k].kc L[k].k ∧ StrB Y kA key.length kc key) := hid (fun Y hy => ⟨strB_of (((hok.more hwr.size).below hy (Nat.le_refl _)).key), strB_of (hkey.below hy (Nat.le_refl _))⟩)
     obtain ⟨x, hx⟩ : ∃ x, x = L[k] := ⟨_, rfl⟩
     rw [← hx] at a0 a1 a2 a3 HGF HGN HMEM HSTR
     obtain ⟨xA, xc, xk, xs, xd, xvA, xvc, xv⟩ := x
     simp only at a0 a1 a2 a3 HGF HGN HSTR
     unfold StrB at HSTR
     obtain ⟨SA, hSA⟩ : ∃ SA : ByteArray, SA = ⟨xk.toArray⟩ := ⟨_, rfl⟩
     obtain ⟨SB, hSB⟩ : ∃ SB : ByteArray, SB = ⟨key.toArray⟩ := ⟨_, rfl⟩
     rw [← hSA, ← hSB] at HSTR
     have HWR := hid hwr
     have HRS := hid hres
     have HKEEP : Hid (∀ Y, Below wr.heap.size wr Y → Y.cell? ⟨gl, 0, none⟩ = some (.slice (some ⟨ab, ao, none⟩) L.length c) ∧ Y.cell? ⟨ab, ao + k * 4, none⟩ = some (.slice xA xk.length xc) ∧ Y.cell? ⟨ab, ao + k * 4 + 1, none⟩ = some (.int .i64 xs) ∧ (convert 22 9 (.slice xA xk.length xc)).run Tryz.prog Y = .ok (.string SA) Y ∧ (convert 22 9 (.slice kA key.length kc)).run Tryz.prog Y = .ok (.string SB) Y ∧ Below wr.heap.size wr Y) := hid (fun Y hy => ⟨(hy.cell (p := ⟨gl, 0, none⟩) hglr).trans l0, (hy.cell (p := ⟨ab, _, none⟩) (by have := hwr.size; simp; omega)).trans a0, (hy.cell (p := ⟨ab, _, none⟩) (by have := hwr.size; simp; omega)).trans a1, (HSTR.out Y hy).1, (HSTR.out Y hy).2, hy⟩)
     have hk0 : (0 : Int) ≤ (k : Int) := by omega
     have hk1 : (k : Int) < (L.length : Int) := by omega
     clear hac hok hkey hx hnx hres
     by_cases hkk : xk = key
     · have hss : SB = SA := by rw [hSA, hSB, hkk]
       subst hss
       have HKK := hid hkk
       clear hSA hSB hkk
       by_cases hsq : xs ≤ seq
       · have HG := hid (HGF.out (by rw [HKK.out]; simpa using hsq))
         go_wp2_with fail
         go_region_held (fun w' => w'.cell? ⟨gl, 0, none⟩ = some (.slice (some ⟨ab, ao, none⟩) L.length c) ∧ w'.cell? ⟨ab, ao + k * 4, none⟩ = some (.slice xA xk.length xc) ∧ w'.cell? ⟨ab, ao + k * 4 + 1, none⟩ = some (.int .i64 xs) ∧ (convert 22 9 (.slice xA xk.length xc)).run Tryz.prog w' = .ok (.string SB) w' ∧ (convert 22 9 (.slice kA key.length kc)).run Tryz.prog w' = .ok (.string SB) w' ∧ Below wr.heap.size wr w') (first | exact HKEEP.out _ ((Below.refl _ _).drew) | exact HKEEP.out _ (Below.refl _ _)) (fail)
         have p0 : wr.drew.cell? ⟨gl, 0, none⟩ = some (.slice (some ⟨ab, ao, none⟩) L.length c) := l0
         have r0 : wr.drew.cell? ⟨ab, ao + k * 4, none⟩ = some (.slice xA xk.length xc) := a0
         have r1 : wr.drew.cell? ⟨ab, ao + k * 4 + 1, none⟩ = some (.int .i64 xs) := a1
         have r2 : wr.drew.cell? ⟨ab, ao + k * 4 + 2, none⟩ = some (.bool xd) := a2
         have r3 : wr.drew.cell? ⟨ab, ao + k * 4 + 3, none⟩ = some (.slice xvA xv.length xvc) := a3
         obtain ⟨V, hV⟩ : ∃ V, wr.drew = V := ⟨_, rfl⟩
         have hvr : V.heap[w.heap.size]? = some (.cells #[.slice none 0 0, .int .i64 0, .bool false, .slice none 0 0] 35) := by rw [← hV]; exact HRS.out
         have HBV : Hid (Below w.heap.size w V) := hid (by rw [← hV]; exact HWR.out.drew)
         rw [hV] at p0 r0 r1 r2 r3 ⊢
         have i0 := cell_of_row V w.heap.size 0 _ _ (0, 0) hvr
         have i1 := cell_of_row V w.heap.size 1 _ _ (0, 0) hvr
         have i2 := cell_of_row V w.heap.size 2 _ _ (0, 0) hvr
         have i3 := cell_of_row V w.heap.size 3 _ _ (0, 0) hvr
         have j0 := frozen_of_row V w.heap.size 0 _ _ hvr
         have j1 := frozen_of_row V w.heap.size 1 _ _ hvr
         have j2 := frozen_of_row V w.heap.size 2 _ _ hvr
         have j3 := frozen_of_row V w.heap.size 3 _ _ hvr
         simp only [List.getElem?_toArray, List.getElem?_cons_zero, List.getElem?_cons_succ] at i0 i1 i2 i3
         have HVR := hid hvr
         clear hV hvr l0 a0 a1 a2 a3
         go_wp2_with fail
         obtain ⟨W5, hW5, hx6, HB5⟩ : ∃ W5, (((V.setCell ⟨w.heap.size, 0, none⟩ (.slice xA xk.length xc)).setCell ⟨w.heap.size, 1, none⟩ (.int .i64 xs)).setCell ⟨w.heap.size, 2, none⟩ (.bool xd)).setCell ⟨w.heap.size, 3, none⟩ (.slice xvA xv.length xvc) = W5 ∧
             W5.heap[w.heap.size]? = some (.cells #[.slice xA xk.length xc, .int .i64 xs, .bool xd, .slice xvA xv.length xvc] 35) ∧ Hid (Below w.heap.size w W5) :=
           ⟨_, rfl, heap_set4 HVR.out, hid ((((HBV.out.setCell (Nat.le_refl _) _).setCell (Nat.le_refl _) _).setCell (Nat.le_refl _) _).setCell (Nat.le_refl _) _)⟩
         rw [hW5]
         have e0 := cell_of_row W5 w.heap.size 0 _ _ (0, 0) hx6
         have e1 := cell_of_row W5 w.heap.size 1 _ _ (0, 0) hx6
         have e2 := cell_of_row W5 w.heap.size 2 _ _ (0, 0) hx6
         have e3 := cell_of_row W5 w.heap.size 3 _ _ (0, 0) hx6
         simp only [List.getElem?_toArray, List.getElem?_cons_zero, List.getElem?_cons_succ] at e0 e1 e2 e3
         exact bodyPost_ret (v := .tuple #[.agg #[.slice xA xk.length xc, .int .i64 xs, .bool xd, .slice xvA xv.length xvc], .bool true]) (by simp [results, Tryz.results35, go_sem, e0, e1, e2, e3]) rfl
           ⟨HB5.out, .inr ⟨_, HMEM.out, HG.out, rfl⟩⟩
       · have HG := hid (HGN.out (by rw [HKK.out]; simpa using hsq))
         go_wp2_with fail
         go_region_held (fun w' => w'.cell? ⟨gl, 0, none⟩ = some (.slice (some ⟨ab, ao, none⟩) L.length c) ∧ w'.cell? ⟨ab, ao + k * 4, none⟩ = some (.slice xA xk.length xc) ∧ w'.cell? ⟨ab, ao + k * 4 + 1, none⟩ = some (.int .i64 xs) ∧ (convert 22 9 (.slice xA xk.length xc)).run Tryz.prog w' = .ok (.string SB) w' ∧ (convert 22 9 (.slice kA key.length kc)).run Tryz.prog w' = .ok (.string SB) w' ∧ Below wr.heap.size wr w') (first | exact HKEEP.out _ ((Below.refl _ _).drew) | exact HKEEP.out _ (Below.refl _ _)) (fail)
         have HWD := hid HW.out.drew
         go_wp2_with fail
         go_roundw
         case rel => exact ⟨k + 1, hlt, by simp, HG, HWD⟩
         case measure => simp [intOf]; omega
     · have hne := str_ne hSA.symm hSB.symm hkk
       have HG := hid (HGN.out (by simp [hkk]))
       have q1 := fun a => (HSTR.out (wr.drewN a) (below_drN (Below.refl _ _))).1
       have q2 := fun a => (HSTR.out (wr.drewN a) (below_drN (Below.refl _ _))).2
       clear hSA hSB hkk
       go_wp2_with fail
       go_quiet (fail)
       refine drewN_any ?_
       intro X hbX hX
       have HWD := hid (HW.out.trans (hbX.mono (by omega)))
       clear hbX hX q1 q2 hne
       go_wp2_with fail
       go_roundw
       case rel => exact ⟨k + 1, hlt, by simp, HG, HWD⟩
       case measure => simp [intOf]; omega
   · have HG := hid (get_never (L := L) (key := key) (seq := seq) (fun j hj => HNO.out j hj (by omega)))
     have i0 := cell_of_row wr w.heap.size 0 _ _ (0, 0) hres
     have i1 := cell_of_row wr w.heap.size 1 _ _ (0, 0) hres
     have i2 := cell_of_row wr w.heap.size 2 _ _ (0, 0) hres
     have i3 := cell_of_row wr w.heap.size 3 _ _ (0, 0) hres
     have j0 := frozen_of_row wr w.heap.size 0 _ _ hres
     have j1 := frozen_of_row wr w.heap.size 1 _ _ hres
     have j2 := frozen_of_row wr w.heap.size 2 _ _ hres
     have j3 := frozen_of_row wr w.heap.size 3 _ _ hres
     simp only [List.getElem?_toArray, List.getElem?_cons_zero, List.getElem?_cons_succ] at i0 i1 i2 i3
     have HWR := hid hwr
     have HRS := hid hres
     clear hwr hres
     go_wp2_with fail
     obtain ⟨W5, hW5, hx6, HB5⟩ : ∃ W5, (((wr.setCell ⟨w.heap.size, 0, none⟩ (.slice none 0 0)).setCell ⟨w.heap.size, 1, none⟩ (.int .i64 0)).setCell ⟨w.heap.size, 2, none⟩ (.bool false)).setCell ⟨w.heap.size, 3, none⟩ (.slice none 0 0) = W5 ∧
         W5.heap[w.heap.size]? = some (.cells #[.slice none 0 0, .int .i64 0, .bool false, .slice none 0 0] 35) ∧ Hid (Below w.heap.size w W5) :=
       ⟨_, rfl, heap_set4 HRS.out, hid ((((HWR.out.setCell (Nat.le_refl _) _).setCell (Nat.le_refl _) _).setCell (Nat.le_refl _) _).setCell (Nat.le_refl _) _)⟩
     rw [hW5]
     have e0 := cell_of_row W5 w.heap.size 0 _ _ (0, 0) hx6
     have e1 := cell_of_row W5 w.heap.size 1 _ _ (0, 0) hx6
     have e2 := cell_of_row W5 w.heap.size 2 _ _ (0, 0) hx6
     have e3 := cell_of_row W5 w.heap.size 3 _ _ (0, 0) hx6
     simp only [List.getElem?_toArray, List.getElem?_cons_zero, List.getElem?_cons_succ] at e0 e1 e2 e3
     exact bodyPost_ret (v := .tuple #[zeroRec, .bool false]) (by simp [zeroRec, results, Tryz.results35, go_sem, e0, e1, e2, e3]) rfl
       ⟨HB5.out, .inl ⟨HG.out, rfl⟩⟩
theorem passed_any (g : Nat) (z : Int) (w : World) (hc : w.cell? ⟨g, 5, none⟩ = some (.int .i64 z)) (hz : w.frozen? ⟨g, 5, none⟩ = false) :
   Calls Tryz.prog 55 #[.pointer (some ⟨g, 5, none⟩), .int .i64 1] w fun e w' => ∃ v : Int, e = .returned (.int .i64 v) ∧ w.setCell ⟨g, 5, none⟩ (.int .i64 v) = w' := by
 have hadd := run_call_add (P := Tryz.prog) Tryz.func89 (by kernel_rfl) (by kernel_rfl) (by kernel_rfl) .i64 (by kernel_rfl) (y := 1) (s := IntKind.i64.wrap (z + 1)) hc hz (by simp [go_sem])
 go_enter Tryz.func55, Tryz.ntmps55
 go_wp2
 go_ret
 exact ⟨_, rfl, rfl⟩
theorem TbR.hitAt {t : Ti} {R : List Rv} {bits : Nat} (h : TbR t R bits) {key : List UInt8} {s : Int} {a i : Nat} (hq : SeekQ t R (Tb.ask key s) a i) {x : Pq × List Rv} (hx : t.ps[a]? = some x) {l : List Rv} (hco : l.map Rv.core = x.2.map Rv.core) :
   ∃ (hi : i < l.length) (r : Rv), r.core = l[i].core ∧ Tb.get R key s = if l[i].k = key then some r else none := by
 obtain ⟨hll, _, _⟩ := h.rise hx hco
 obtain ⟨ha, rfl⟩ := List.getElem?_eq_some_iff.1 hx
 rcases hq with ⟨_, hi, hp⟩ | ⟨h1, _, _⟩
 · obtain ⟨h3, h4⟩ := h.at_ ha hi
   have hil : i < l.length := by omega
   have hc := core_at hco hil hi
   refine ⟨hil, R[t.off a + i], by rw [h4, hc], ?_⟩
   rw [hp.get h.srt, List.getElem?_eq_getElem h3]
   have hk : R[t.off a + i].k = l[i].k := by
     have h5 : R[t.off a + i].core = l[i].core := by rw [h4, hc]
     unfold Rv.core at h5
     injection h5
   simp only [hk]
 · omega
theorem TbR.hitEnd {t : Ti} {R : List Rv} {bits : Nat} (h : TbR t R bits) {key : List UInt8} {s : Int} {i : Nat} (hq : SeekQ t R (Tb.ask key s) t.ps.length i) : Tb.get R key s = none := by
 rcases hq with ⟨h1, _⟩ | ⟨_, _, hp⟩
 · omega
 · rw [hp.get h.srt, List.getElem?_eq_none (Nat.le_refl _)]
def TgQ (base : Nat) (F : Nat → Prop) (t : Ti) (R : List Rv) (key : List UInt8) (seq : Int) (w : World) (e : Ending) (w' : World) : Prop := TbAt base F t w' ∧ Qry base t w w' ∧ ((Tb.get R key seq = none ∧ e = .returned (.tuple #[zeroRec, .bool false])) ∨
 ∃ r r' : Rv, Tb.get R key seq = some r ∧ r'.core = r.core ∧ e = .returned (.tuple #[r'.val, .bool true]) ∧ Own w' base 5 r'.kA r'.kc r'.k ∧ Own w' base 5 r'.vA r'.vc r'.v)
def zObj : Obj := .cells #[.slice none 0 0, .int .i64 0, .bool false, .slice none 0 0] 35
structure GtR (base : Nat) (F : Nat → Prop) (t : Ti) (w : World) (W : World) : Prop where
 tab : TbAt base (fun g => F g ∨ g = w.heap.size) t W
 qry : Qry base t w W
 res : W.heap[w.heap.size]? = some zObj
theorem GtR.start {base : Nat} {F : Nat → Prop} {t : Ti} {w : World} (h : TbAt base F t w) : GtR base F t w (w.alloc zObj) :=
 ⟨h.more (fun g hg => hg.imp id (fun e => by omega)) ((Below.refl _ _).alloc (Nat.le_refl _) _) (fun g hg => by
   rcases hg with h1 | h1
   · have := h.frn g h1; simp; omega
   · simp; omega), Qry.of (t := t) ((Below.refl _ _).alloc (Nat.le_refl _) _) h.size, heap_alloc_new w _⟩
theorem GtR.step {base : Nat} {F : Nat → Prop} {t : Ti} {w W W' : World} (h : GtR base F t w W) (ht : TbAt base (fun g => F g ∨ g = w.heap.size) t W') (hq : Qry base t W W') : GtR base F t w W' := ⟨ht, h.qry.trans hq, (hq.tagd _ _ _ _ h.res (by decide) (by decide)).trans h.res⟩
theorem grownBy_set4 (W : World) (b : Nat) (x y z u : Value) : W.grownBy ((((W.setCell ⟨b, 0, none⟩ x).setCell ⟨b, 1, none⟩ y).setCell ⟨b, 2, none⟩ z).setCell ⟨b, 3, none⟩ u) (some b) :=
 grownBy_new (grownBy_new (grownBy_new (grownBy_set W ⟨b, 0, none⟩ x) (grownBy_set _ ⟨b, 1, none⟩ y) (fun _ e => .inr e)) (grownBy_set _ ⟨b, 2, none⟩ z) (fun _ e => .inr e)) (grownBy_set _ ⟨b, 3, none⟩ u) (fun _ e => .inr e)
theorem GtR.fin {base : Nat} {F : Nat → Prop} {t : Ti} {w W : World} (h : GtR base F t w W) (hs : base ≤ w.heap.size) (x y z u : Value) : ∃ W5, (((W.setCell ⟨w.heap.size, 0, none⟩ x).setCell ⟨w.heap.size, 1, none⟩ y).setCell ⟨w.heap.size, 2, none⟩ z).setCell ⟨w.heap.size, 3, none⟩ u = W5 ∧
   W5.heap[w.heap.size]? = some (.cells #[x, y, z, u] 35) ∧ TbAt base F t W5 ∧ Qry base t w W5 ∧ W.grownBy W5 (some w.heap.size) := by
 have hg := grownBy_set4 W w.heap.size x y z u
 refine ⟨_, rfl, heap_set4 h.res, ?_, h.qry.new hg hs (fun g e => by injection e with e; omega), hg⟩
 exact (h.tab.foreign hg (fun g e => by
   injection e with e
   subst e
   exact ⟨.inr rfl, hs, _, _, h.res⟩)).less (fun g hg => .inl hg)
theorem TbAt.fcell {base : Nat} {F : Nat → Prop} {t : Ti} {w : World} (h : TbAt base F t w) : w.cell? ⟨t.gt, 0, none⟩ = some (.slice t.PA t.ps.length t.PC) ∧ w.cell? ⟨t.gt, 1, none⟩ = some (.slice t.fA t.f.length t.fc) ∧ w.cell? ⟨t.gt, 2, none⟩ = some (.int .i64 t.many) ∧
   w.cell? ⟨t.gt, 3, none⟩ = some (.int .i64 t.low) ∧ w.cell? ⟨t.gt, 4, none⟩ = some (.int .i64 t.high) ∧ ∃ z : Int, w.cell? ⟨t.gt, 5, none⟩ = some (.int .i64 z) ∧ w.frozen? ⟨t.gt, 5, none⟩ = false := by
 obtain ⟨z, hz⟩ := h.box
 refine ⟨?_, ?_, ?_, ?_, ?_, z, ?_, frozen_of_row w t.gt 5 _ _ hz⟩
 · rw [cell_of_row w t.gt 0 _ _ (0, 0) hz]; rfl
 · rw [cell_of_row w t.gt 1 _ _ (0, 0) hz]; rfl
 · rw [cell_of_row w t.gt 2 _ _ (0, 0) hz]; rfl
 · rw [cell_of_row w t.gt 3 _ _ (0, 0) hz]; rfl
 · rw [cell_of_row w t.gt 4 _ _ (0, 0) hz]; rfl
 · rw [cell_of_row w t.gt 5 _ _ (0, 0) hz]; rfl
theorem TbR.filt {t : Ti} {R : List Rv} {bits : Nat} (h : TbR t R bits) : 9 ≤ t.f.length ∧ 1 ≤ (t.f.getD 0 0).toNat ∧ (t.f.getD 0 0).toNat ≤ 12 ∧ ∀ key, Blm.Miss t.f key → ∀ seq, Tb.get R key seq = none := by
 have hp := Blm.probes_le bits
 have hp1 : 1 ≤ Blm.probes bits := by unfold Blm.probes; omega
 have hh : (t.f.getD 0 0).toNat = Blm.probes bits := by
   rw [h.f, Blm.build_head]
   simp; omega
 refine ⟨?_, by omega, by omega, fun key hm seq => Tb.get_no key seq (fun r hr e => ?_)⟩
 · rw [h.f, Blm.build_len]
   unfold Blm.size; omega
 · rw [h.f] at hm
   exact Blm.build_no_miss bits (R.map Rv.k) key (List.mem_map.2 ⟨r, hr, e⟩) hm
theorem TgQ.none_ {base : Nat} {F : Nat → Prop} {t : Ti} {R : List Rv} {key : List UInt8} {seq : Int} {w W5 : World} (h1 : TbAt base F t W5) (h2 : Qry base t w W5) (hg : Tb.get R key seq = none) : TgQ base F t R key seq w (.returned (.tuple #[zeroRec, .bool false])) W5 := ⟨h1, h2, .inl ⟨hg, rfl⟩⟩
theorem zfacts {W : World} {b : Nat} (h : W.heap[b]? = some zObj) : (W.cell? ⟨b, 0, none⟩ = some (.slice none 0 0) ∧ W.cell? ⟨b, 1, none⟩ = some (.int .i64 0) ∧ W.cell? ⟨b, 2, none⟩ = some (.bool false) ∧ W.cell? ⟨b, 3, none⟩ = some (.slice none 0 0)) ∧
   (W.frozen? ⟨b, 0, none⟩ = false ∧ W.frozen? ⟨b, 1, none⟩ = false ∧ W.frozen? ⟨b, 2, none⟩ = false ∧ W.frozen? ⟨b, 3, none⟩ = false) := by
 refine ⟨⟨?_, ?_, ?_, ?_⟩, frozen_of_row W b 0 _ _ h, frozen_of_row W b 1 _ _ h, frozen_of_row W b 2 _ _ h, frozen_of_row W b 3 _ _ h⟩
 · rw [cell_of_row W b 0 _ _ (0, 0) h]; rfl
 · rw [cell_of_row W b 1 _ _ (0, 0) h]; rfl
 · rw [cell_of_row W b 2 _ _ (0, 0) h]; rfl
 · rw [cell_of_row W b 3 _ _ (0, 0) h]; rfl
theorem rfacts {W : World} {b : Nat} {x y z u : Value} {T : TypeId} (h : W.heap[b]? = some (.cells #[x, y, z, u] T)) : W.cell? ⟨b, 0, none⟩ = some x ∧ W.cell? ⟨b, 1, none⟩ = some y ∧ W.cell? ⟨b, 2, none⟩ = some z ∧ W.cell? ⟨b, 3, none⟩ = some u := by
 refine ⟨?_, ?_, ?_, ?_⟩
 · rw [cell_of_row W b 0 _ _ (0, 0) h]; rfl
 · rw [cell_of_row W b 1 _ _ (0, 0) h]; rfl
 · rw [cell_of_row W b 2 _ _ (0, 0) h]; rfl
 · rw [cell_of_row W b 3 _ _ (0, 0) h]; rfl
set_option maxHeartbeats 4000000 in
set_option maxRecDepth 100000 in
theorem tget_any (base : Nat) (F : Nat → Prop) (t : Ti) (R : List Rv) (bits : Nat) (hR : TbR t R bits) (kA : Option Addr) (kc : Nat) (key : List UInt8) (seq : Int) (w : World) (h : TbAt base F t w) (hk : HBs w base kA key) (hkl : key.length ≤ 10000) (hkc : key.length ≤ kc) (hn : t.ps.length ≤ 100000) :
   Calls Tryz.prog 19 #[.pointer (some ⟨t.gt, 0, none⟩), .slice kA key.length kc, .int .i64 seq] w (TgQ base F t R key seq w) := by
 have hs := h.size
 have HR := hid hR
 have HG0 := hid (GtR.start h)
 have HQ0 := hid (Qry.of (t := t) ((Below.refl w.heap.size w).alloc (Nat.le_refl _) zObj) hs)
 have HK0 := hid (HQ0.out.hbs (Nat.le_refl _) hk)
 have hgtl : t.gt < w.heap.size := by
   obtain ⟨z, hz⟩ := h.box
   exact (Array.getElem?_eq_some_iff.1 hz).1
 have HZ0 : Hid ((w.alloc zObj).heap.size = w.heap.size + 1) := hid (by simp)
 clear hR h hk
 by_cases hlow : seq < 1
 · have HN := hid (Tb.get_low HR.out.rt key seq hlow)
   obtain ⟨⟨z0, z1, z2, z3⟩, f0, f1, f2, f3⟩ := zfacts HG0.out.res
   unfold zObj at z0 z1 z2 z3 f0 f1 f2 f3
   go_enter Tryz.func19, Tryz.ntmps19
   go_wp2_with fail
   exact bodyPost_ret (v := .tuple #[zeroRec, .bool false]) (by simp [zeroRec, results, Tryz.results19, go_sem, z0, z1, z2, z3]) rfl (TgQ.none_ (HG0.out.tab.less (fun g hg => .inl hg)) HG0.out.qry HN.out)
 obtain ⟨s, hsm⟩ : ∃ s, s = min seq 1099511627776 := ⟨_, rfl⟩
 have hs1 : 1 ≤ s ∧ s ≤ 1099511627776 := by omega
 have HSM : Hid (Tb.get R key seq = Tb.get R key s) := hid (by rw [hsm]; exact Tb.get_min HR.out.rt key seq)
 obtain ⟨hf9, hf1, hf2, hmiss⟩ := HR.out.filt
 have HMS := hid hmiss
 obtain ⟨fb, fo, hfA, hfb, hfc⟩ := HG0.out.tab.filt.rd.at_ (k := 0) (by omega)
 clear hfc
 have KM := may_any fb fo t.fc t.f kA kc key (w.alloc zObj) (by rw [← hfA]; exact HG0.out.tab.filt.rd) HK0.out.rd (by omega) hf9 (by have := HG0.out.tab.f3; omega) hf1 hf2
 have c1 := HG0.out.tab.fcell.2.1
 rw [hfA] at c1
 have KM := hid KM
 have HFA := hid hfA
 unfold zObj at KM c1
 clear hmiss hfA
 obtain ⟨fl, hfl⟩ : ∃ fl, fl = t.f.length := ⟨_, rfl⟩
 rw [← hfl] at KM c1
 clear hf9 hfl
 go_enter Tryz.func19, Tryz.ntmps19
 go_wp2_with fail
 refine KM.out.mono ?_
 rintro e w2 ⟨hb2, rfl | ⟨rfl, hms⟩⟩
 · have HG2 : Hid (GtR base F t w w2) := hid (HG0.out.step (HG0.out.tab.call hb2) (Qry.of (t := t) hb2 HG0.out.tab.size))
   have HK2 := hid (HK0.out.below hb2)
   obtain ⟨d0, _, _, _, _, z, dz, fz⟩ := HG2.out.tab.fcell
   have KA := hid (passed_any t.gt z w2 dz fz)
   clear hb2 c1 d0
   go_wp2_with fail
   refine KA.out.mono ?_
   rintro e w3 ⟨v, rfl, hw3⟩
   have HG3 : Hid (GtR base F t w w3) := hid (by rw [← hw3]; exact HG2.out.step (HG2.out.tab.count v).1 (HG2.out.tab.count v).2)
   have HK3 : Hid (HBs w3 base kA key) := hid (by rw [← hw3]; exact (HG2.out.tab.count v).2.hbs (Nat.le_refl _) HK2.out)
   clear hw3 dz fz
   go_wp2_with fail
   have KS := hid (seek_any base _ t R bits HR.out kA kc key s w3 HG3.out.tab HK3.out hkl hkc hs1.1 hs1.2 hn)
   rw [← hsm]
   refine KS.out.mono ?_
   rintro e w4 ⟨ht4, hq4, at_, i, rfl, hsk⟩
   have HG4 := hid (HG3.out.step ht4 hq4)
   have HK4 := hid (hq4.hbs (Nat.le_refl _) HK3.out)
   have HSK := hid hsk
   have c4 := HG4.out.tab.fcell.1
   clear ht4 hq4 hsk KS KA
   by_cases hae : at_ = t.ps.length
   · have HN : Hid (Tb.get R key seq = none) := hid (by
       rw [HSM.out]
       exact HR.out.hitEnd (i := i) (by rw [← hae]; exact HSK.out))
     subst hae
     obtain ⟨⟨z0, z1, z2, z3⟩, f0, f1, f2, f3⟩ := zfacts HG4.out.res
     obtain ⟨W5, hW5, hx5, ht5, hq5, _⟩ := HG4.out.fin hs (.slice none 0 0) (.int .i64 0) (.bool false) (.slice none 0 0)
     obtain ⟨e0, e1, e2, e3⟩ := rfacts hx5
     have HT5 := hid ht5
     have HQ5 := hid hq5
     have HW5 := hid hW5
     clear hx5 ht5 hq5 hW5
     go_wp2_with fail
     rw [HW5.out]
     exact bodyPost_ret (v := .tuple #[zeroRec, .bool false]) (by simp [zeroRec, results, Tryz.results19, go_sem, e0, e1, e2, e3]) rfl (TgQ.none_ HT5.out HQ5.out HN.out)
   · have hal : at_ < t.ps.length := by
       rcases HSK.out with ⟨h1, _⟩ | ⟨h1, _⟩
       · exact h1
       · exact absurd h1 hae
     obtain ⟨pb, po, hA, hpbl, hpc⟩ := RdS.row (f := Ptc) (n := 1) (fun _ => rfl) (by omega) HG4.out.tab.row.rd (by rw [List.length_map]; omega)
     have s0o := hpc at_ (by rw [List.length_map]; exact hal) 0 _ rfl
     simp only [Nat.mul_one, Nat.add_zero, List.getElem_map] at s0o
     have hxm : t.ps[at_] ∈ t.ps := List.getElem_mem hal
     have KAo := hid (all_any base _ t t.ps[at_] hxm w4 HG4.out.tab (HR.out.prt _ hxm))
     obtain ⟨x, hx, s0, KA⟩ : ∃ x, t.ps[at_]? = some x ∧ w4.cell? ⟨pb, po + at_, none⟩ = some (.pointer (some ⟨x.1.g, 0, none⟩)) ∧ Hid (Calls Tryz.prog 33 #[.pointer (some ⟨x.1.g, 0, none⟩)] w4 (AllQ base (fun g => F g ∨ g = w.heap.size) t x.2 w4)) := ⟨_, List.getElem?_eq_getElem hal, s0o, KAo⟩
     clear s0o KAo hpc hxm
     obtain ⟨n, hnn⟩ : ∃ n, n = t.ps.length := ⟨_, rfl⟩
     rw [← hnn] at c4 hal hae hn
     rw [hA] at c4
     have HX := hid hx
     have HA := hid hA
     have hd2 : ((at_ : Int) == (n : Int)) = false := by simp; omega
     clear hx hnn hA hae
     go_wp2_with fail
     refine KA.out.mono ?_
     rintro e w5 ⟨ht5, hq5, lA, lc, l, rfl, hrec, hco, _⟩
     have HG5 := hid (HG4.out.step ht5 hq5)
     have HK5 := hid (hq5.hbs (Nat.le_refl _) HK4.out)
     obtain ⟨hi, r, hrc, hget⟩ := HR.out.hitAt HSK.out HX.out hco
     obtain ⟨lb, lo, hlA, hlb, hlc⟩ := hrec.rd.row4 (by omega)
     subst hlA
     obtain ⟨a0, a1, a2, a3⟩ := hlc i hi
     have hin := hrec.inn l[i] (List.getElem_mem hi)
     have hbaw : ∀ o, Below w5.heap.size w5 (w5.alloc o) := fun o => (Below.refl _ _).alloc (Nat.le_refl _) o
     obtain ⟨y, hy⟩ : ∃ y, y = l[i] := ⟨_, rfl⟩
     rw [← hy] at a0 a1 a2 a3 hin hrc hget
     have hil : i < l.length := hi
     have HGET := hid hget
     have HRC := hid hrc
     obtain ⟨yA, yc, yk, ys, yd, yvA, yvc, yv⟩ := y
     simp only at a0 a1 a2 a3 hin HGET
     have HRY : Hid (HBs w5 base yA yk ∧ HBs w5 base yvA yv ∧ yk.length ≤ 70000 ∧ yv.length ≤ 70000) := hid ⟨hin.1.1, hin.1.2.2.1, hin.2⟩
     have KE := hid (bytesEq_any yA kA yc kc yk key (w5.alloc (.cells #[.slice yA yk.length yc, .int .i64 ys, .bool yd, .slice yvA yv.length yvc] 35)) ((HRY.out.1.below (hbaw _)).rd) ((HK5.out.below (hbaw _)).rd))
     clear ht5 hq5 hrec hco hlc hin hy hi hrc hget hbaw s0 c4 KA
     obtain ⟨q, hq⟩ : ∃ q, q = (yk == key) := ⟨_, rfl⟩
     rw [← hq] at KE
     have HQE := hid hq
     clear hq
     rcases q with _ | _
     · have HN : Hid (Tb.get R key seq = none) := hid (by
         have h1 := HQE.out
         rw [HSM.out, HGET.out, if_neg (by simpa using h1.symm)])
       go_wp2_with fail
       refine KE.out.mono ?_
       rintro e w6 ⟨rfl, rfl⟩
       have HG6 : Hid (GtR base F t w (w5.alloc (.cells #[.slice yA yk.length yc, .int .i64 ys, .bool yd, .slice yvA yv.length yvc] 35))) := hid (HG5.out.step (HG5.out.tab.call ((Below.refl _ _).alloc (Nat.le_refl _) _)) (Qry.of (t := t) ((Below.refl _ _).alloc (Nat.le_refl _) _) HG5.out.tab.size))
       obtain ⟨V, hV⟩ : ∃ V, w5.alloc (.cells #[.slice yA yk.length yc, .int .i64 ys, .bool yd, .slice yvA yv.length yvc] 35) = V := ⟨_, rfl⟩
       rw [hV] at HG6 ⊢
       clear hV a0 a1 a2 a3
       obtain ⟨⟨z0, z1, z2, z3⟩, f0, f1, f2, f3⟩ := zfacts HG6.out.res
       obtain ⟨W5, hW5, hx5, ht5, hq5, _⟩ := HG6.out.fin hs (.slice none 0 0) (.int .i64 0) (.bool false) (.slice none 0 0)
       obtain ⟨e0, e1, e2, e3⟩ := rfacts hx5
       have HT5 := hid ht5
       have HQ5 := hid hq5
       have HW5 := hid hW5
       clear hx5 ht5 hq5 hW5
       go_wp2_with fail
       rw [HW5.out]
       exact bodyPost_ret (v := .tuple #[zeroRec, .bool false]) (by simp [zeroRec, results, Tryz.results19, go_sem, e0, e1, e2, e3]) rfl (TgQ.none_ HT5.out HQ5.out HN.out)
     · have HN : Hid (Tb.get R key seq = some r) := hid (by
         have h1 := HQE.out
         rw [HSM.out, HGET.out, if_pos (by simpa using h1.symm)])
       go_wp2_with fail
       refine KE.out.mono ?_
       rintro e w6 ⟨rfl, rfl⟩
       have hbw6 : Below w5.heap.size w5 (w5.alloc (.cells #[.slice yA yk.length yc, .int .i64 ys, .bool yd, .slice yvA yv.length yvc] 35)) := (Below.refl _ _).alloc (Nat.le_refl _) _
       have KC := hid (copied_any ⟨yA, yc, yk, ys, yd, yvA, yvc, yv⟩ (w5.alloc (.cells #[.slice yA yk.length yc, .int .i64 ys, .bool yd, .slice yvA yv.length yvc] 35)) (HRY.out.1.below hbw6).rd (HRY.out.2.1.below hbw6).rd (by have := HRY.out.2.2.1; simp only; omega) (by have := HRY.out.2.2.2; simp only; omega))
       have HG6 : Hid (GtR base F t w (w5.alloc (.cells #[.slice yA yk.length yc, .int .i64 ys, .bool yd, .slice yvA yv.length yvc] 35))) := hid (HG5.out.step (HG5.out.tab.call hbw6) (Qry.of (t := t) hbw6 HG5.out.tab.size))
       simp only [Rv.val] at KC
       clear hbw6 a0 a1 a2 a3
       go_wp2_with fail
       refine KC.out.mono ?_
       rintro e w7 ⟨hb7, r', rfl, hcr, hok, hov⟩
       have HG7 : Hid (GtR base F t w w7) := hid (HG6.out.step (HG6.out.tab.call hb7) (Qry.of (t := t) hb7 HG6.out.tab.size))
       obtain ⟨⟨z0, z1, z2, z3⟩, f0, f1, f2, f3⟩ := zfacts HG7.out.res
       have HCR : Hid (r'.core = r.core) := hid (hcr.trans HRC.out.symm)
       have hszz := HG6.out.tab.size
       have HOK : Hid (Own w7 base 5 r'.kA r'.kc r'.k) := hid (hok.mono hszz)
       have HOV : Hid (Own w7 base 5 r'.vA r'.vc r'.v) := hid (hov.mono hszz)
       obtain ⟨W5, hW5, hx5, ht5, hq5, hg5⟩ := HG7.out.fin hs (.slice r'.kA r'.k.length r'.kc) (.int .i64 r'.seq) (.bool r'.del) (.slice r'.vA r'.v.length r'.vc)
       obtain ⟨e0, e1, e2, e3⟩ := rfacts hx5
       have HT5 := hid ht5
       have HQ5 := hid hq5
       have HW5 := hid hW5
       have HO5 : Hid (∀ (A : Option Addr) (c : Nat) (l : List UInt8), Own w7 base 5 A c l → Own W5 base 5 A c l) := hid (fun A c l ho => ho.kept hg5 (by
         rcases hA : blk A with _ | g
         · exact .inl rfl
         · refine .inr (fun e => ?_)
           injection e with e
           subst e
           obtain ⟨_, cs, fr, h1⟩ := own_tag ho hA
           exact tag_ne2 h1 HG7.out.res (by decide) rfl))
       clear hx5 ht5 hq5 hW5 hg5 hb7 hcr hok hov
       obtain ⟨rA, rc, rk, rs, rd, rvA, rvc, rv⟩ := r'
       simp only [Rv.val] at e0 e1 e2 e3 HW5 ⊢
       go_wp2_with fail
       rw [HW5.out]
       exact bodyPost_ret (v := .tuple #[.agg #[.slice rA rk.length rc, .int .i64 rs, .bool rd, .slice rvA rv.length rvc], .bool true]) (by simp [results, Tryz.results19, go_sem, e0, e1, e2, e3]) rfl
         ⟨HT5.out, HQ5.out, .inr ⟨r, ⟨rA, rc, rk, rs, rd, rvA, rvc, rv⟩, HN.out, HCR.out, rfl, HO5.out _ _ _ HOK.out, HO5.out _ _ _ HOV.out⟩⟩
 · have HN := hid (HMS.out key hms seq)
   have HG2 : Hid (GtR base F t w w2) := hid (HG0.out.step (HG0.out.tab.call hb2) (Qry.of (t := t) hb2 HG0.out.tab.size))
   obtain ⟨⟨z0, z1, z2, z3⟩, f0, f1, f2, f3⟩ := zfacts HG2.out.res
   obtain ⟨W5, hW5, hx5, ht5, hq5, _⟩ := HG2.out.fin hs (.slice none 0 0) (.int .i64 0) (.bool false) (.slice none 0 0)
   obtain ⟨e0, e1, e2, e3⟩ := rfacts hx5
   have HT5 := hid ht5
   have HQ5 := hid hq5
   have HW5 := hid hW5
   clear hx5 ht5 hq5 hW5 hb2 hms
   go_wp2_with fail
   rw [HW5.out]
   exact bodyPost_ret (v := .tuple #[zeroRec, .bool false]) (by simp [zeroRec, results, Tryz.results19, go_sem, e0, e1, e2, e3]) rfl (TgQ.none_ HT5.out HQ5.out HN.out)
namespace Tb
theorem fromL_snoc (L : List Rv) (key : List UInt8) {k : Nat} (h : k < L.length) : fromL (L.take (k + 1)) key = fromL (L.take k) key ++ (if Op.bytesLess L[k].k key = true then [] else [L[k]]) := by
 unfold fromL
 rw [List.take_succ_eq_append_getElem h, List.filter_append]
 congr 1
 cases hx : Op.bytesLess L[k].k key <;> simp [hx]
theorem fromL_pre (L : List Rv) (key : List UInt8) (k : Nat) : ∃ t, fromL L key = fromL (L.take k) key ++ t := by
 refine ⟨fromL (L.drop k) key, ?_⟩
 unfold fromL
 rw [← List.filter_append, List.take_append_drop]
theorem fromL_len (L : List Rv) (key : List UInt8) : (fromL L key).length ≤ L.length := List.length_filter_le _ _
end Tb
def RfQ (L : List Rv) (key : List UInt8) (most : Int) (w : World) (e : Ending) (w' : World) : Prop := Below w.heap.size w w' ∧ ∃ (A : Option Addr) (c : Nat) (l : List Rv), e = .returned (.slice A l.length c) ∧ OwnS Rv.cells 4 w' w.heap.size 35 A c l ∧ l = (Tb.fromL L key).take most.toNat
set_option maxHeartbeats 2000000 in
set_option maxRecDepth 100000 in
theorem rfrom_any (gl : Nat) (A : Option Addr) (c : Nat) (L : List Rv) (hv : Value) (kA : Option Addr) (kc : Nat) (key : List UInt8) (most : Int) (w : World) (hbox : w.heap[gl]? = some (.cells #[.slice A L.length c, hv] 33)) (hr : RdRv w w.heap.size A L) (hk : RdB w w.heap.size kA key) (hl : L.length ≤ 1000000) :
   Calls Tryz.prog 36 #[.pointer (some ⟨gl, 0, none⟩), .slice kA key.length kc, .int .i64 most] w (RfQ L key most w) := by
 have HBOX := hid hbox
 have HR := hid hr
 have HK := hid hk
 have hgl := (Array.getElem?_eq_some_iff.1 hbox).1
 clear hbox hr hk
 go_enter Tryz.func36, Tryz.ntmps36
 go_wp2_with fail
 go_loopw [7, 8] (fun o i wr => ∃ (k : Nat) (OA : Option Addr) (oc : Nat) (l : List Rv), k ≤ L.length ∧ i = .int .i64 (k : Int) ∧ o = .slice OA l.length oc ∧ l.length ≤ L.length ∧ Hid (l = Tb.fromL (L.take k) key) ∧ Hid (l.length ≤ most.toNat) ∧ Hid (OwnS Rv.cells 4 wr w.heap.size 35 OA oc l) ∧ Hid (Below w.heap.size w wr)) (fun _ i _ => L.length - (intOf i).toNat)
 case atStart => exact ⟨0, none, 0, [], by omega, rfl, rfl, by simp, hid rfl, hid (Nat.zero_le _), hid (OwnS.nil _ _ _), hid (Below.refl _ _)⟩
 case round =>
   obtain ⟨k, OA, oc, l, hk, rfl, rfl, hll, HL, HLM, HO, HW⟩ := hrel
   have hglr : gl < wr.heap.size := Nat.lt_of_lt_of_le hgl HW.out.size
   have l0 : wr.cell? ⟨gl, 0, none⟩ = some (.slice A L.length c) := by rw [cell_of_row wr gl 0 _ _ (0, 0) ((HW.out.block _ hgl).trans HBOX.out)]; rfl
   have HFIN : Hid (k = L.length ∨ most ≤ (l.length : Int) → l = (Tb.fromL L key).take most.toNat) := hid (fun h => by
     obtain ⟨t, ht⟩ := Tb.fromL_pre L key k
     rw [ht, ← HL.out]
     rcases h with h | h
     · have : t = [] := by
         have h2 := HL.out
         rw [h, List.take_length] at h2
         rw [h, List.take_length] at ht
         have h3 := congrArg List.length ht
         rw [List.length_append] at h3
         exact List.length_eq_zero_iff.1 (by omega)
       rw [this, List.append_nil, List.take_of_length_le HLM.out]
     · have h3 : most.toNat = l.length := by have := HLM.out; omega
       rw [h3, List.take_left'] 
       rfl)
   by_cases hlt : k < L.length
   · by_cases hm : (l.length : Int) < most
     · obtain ⟨ab, ao, hA, hab, hac⟩ := (HR.out.below HW.out (Nat.le_refl _)).row4 (by omega)
       subst hA
       obtain ⟨a0, a1, a2, a3⟩ := hac k hlt
       have hok := (HR.out.below HW.out (Nat.le_refl _)).ok _ (List.getElem_mem hlt)
       have hkey := (HK.out.below HW.out (Nat.le_refl _)).more HW.out.size
       have HSN := hid (Tb.fromL_snoc L key hlt)
       have HSTR : Hid (∀ Y, Below wr.heap.size wr Y → StrB Y L[k].kA L[k].k.length L[k].kc L[k].k ∧ StrB Y kA key.length kc key) := hid (fun Y hy => ⟨strB_of (((hok.more HW.out.size).below hy (Nat.le_refl _)).key), strB_of (hkey.below hy (Nat.le_refl _))⟩)
       obtain ⟨x, hx⟩ : ∃ x, x = L[k] := ⟨_, rfl⟩
       rw [← hx] at a0 a1 a2 a3 HSN HSTR
       obtain ⟨xA, xc, xk, xs, xd, xvA, xvc, xv⟩ := x
       simp only at a0 a1 a2 a3 HSN HSTR
       unfold StrB at HSTR
       obtain ⟨SA, hSA⟩ : ∃ SA : ByteArray, SA = ⟨xk.toArray⟩ := ⟨_, rfl⟩
       obtain ⟨SB, hSB⟩ : ∃ SB : ByteArray, SB = ⟨key.toArray⟩ := ⟨_, rfl⟩
       rw [← hSA, ← hSB] at HSTR
       have q1 := fun a => (HSTR.out (wr.drewN a) (below_drN (Below.refl _ _))).1
       have q2 := fun a => (HSTR.out (wr.drewN a) (below_drN (Below.refl _ _))).2
       have hta : SA.toList = xk := by rw [hSA, ByteArray.toList_eq]
       have htb : SB.toList = key := by rw [hSB, ByteArray.toList_eq]
       have hk0 : (0 : Int) ≤ (k : Int) := by omega
       have hk1 : (k : Int) < (L.length : Int) := by omega
       have habr : ab < wr.heap.size := by have := HW.out.size; omega
       clear hac hok hkey hx hSA hSB
       rcases hls : Op.bytesLess xk key with _ | _
       · rw [hls] at HSN
         go_wp2_with fail
         go_quiet (fail)
         refine drewN_any ?_
         intro X hbX hX
         have p0 := (hbX.cell (p := ⟨gl, 0, none⟩) hglr).trans l0
         have r0 := (hbX.cell (p := ⟨ab, _, none⟩) habr).trans a0
         have r1 := (hbX.cell (p := ⟨ab, _, none⟩) habr).trans a1
         have r2 := (hbX.cell (p := ⟨ab, _, none⟩) habr).trans a2
         have r3 := (hbX.cell (p := ⟨ab, _, none⟩) habr).trans a3
         have HBX := hid hbX
         clear hbX hX q1 q2 hls hta htb l0 a0 a1 a2 a3
         have HOX := hid (HO.out.below HBX.out)
         have hzx : w.heap.size ≤ X.heap.size := Nat.le_trans HW.out.size HBX.out.size
         go_wp2_with (at_builtin; refine wpList_append_s _ rfl _ _ recT rfl w.heap.size OA oc l rfl (HOX.out.alloc _) (X.heap.size + 1) (some ⟨X.heap.size, 0, none⟩) 1 1 [⟨xA, xc, xk, xs, xd, xvA, xvc, xv⟩] rfl rfl (rd_rec_new X ⟨xA, xc, xk, xs, xd, xvA, xvc, xv⟩) (by simp; omega) (by unfold maxLen; simp; omega) (by simp; omega) ?_)
         intro A3 c3 l3 w6 hl3 ho3 hg3 hat3
         have HO3 := hid ho3
         have HW3 : Hid (Below w.heap.size w w6) := hid (below_grow ((HW.out.trans (HBX.out.mono HW.out.size)).alloc hzx _) hg3 (fun g hg => (HOX.out.blk_ge g hg).1) (by simp; omega))
         have HL3 : Hid (l3 = Tb.fromL (L.take (k + 1)) key) := hid (by rw [hl3, HSN.out, ← HL.out]; rfl)
         have hl3l : l3.length = l.length + 1 := by rw [hl3]; simp
         have HLM3 : Hid (l3.length ≤ most.toNat) := hid (by rw [hl3l]; omega)
         have hl3b : l3.length ≤ L.length := by
           have h1 := Tb.fromL_len (L.take (k + 1)) key
           rw [← HL3.out, List.length_take] at h1
           omega
         clear hl3 ho3 hg3 hat3 hl3l
         go_wp2_with fail
         go_roundw
         case rel => exact ⟨k + 1, A3, c3, l3, hlt, by simp, rfl, hl3b, HL3, HLM3, HO3, HW3⟩
         case measure => simp [intOf]; omega
       · rw [hls] at HSN
         go_wp2_with fail
         go_quiet (fail)
         refine drewN_any ?_
         intro X hbX hX
         have HWX : Hid (Below w.heap.size w X) := hid (HW.out.trans (hbX.mono HW.out.size))
         have HOX := hid (HO.out.below hbX)
         have HLX : Hid (l = Tb.fromL (L.take (k + 1)) key) := hid (by rw [HSN.out, ← HL.out]; simp)
         clear hbX hX q1 q2 hls hta htb l0 a0 a1 a2 a3
         go_wp2_with fail
         go_roundw
         case rel => exact ⟨k + 1, OA, oc, l, hlt, by simp, rfl, hll, HLX, HLM, HOX, HWX⟩
         case measure => simp [intOf]; omega
     · have HF := hid (HFIN.out (.inr (by omega)))
       go_wp2_with fail
       go_ret
       exact ⟨HW.out, OA, oc, l, rfl, HO.out, HF.out⟩
   · have HF := hid (HFIN.out (.inl (by omega)))
     go_wp2_with fail
     go_ret
     exact ⟨HW.out, OA, oc, l, rfl, HO.out, HF.out⟩
def TfQ (base : Nat) (F : Nat → Prop) (t : Ti) (R : List Rv) (key : List UInt8) (most : Int) (w : World) (e : Ending) (w' : World) : Prop := TbAt base F t w' ∧ Qry base t w w' ∧ ∃ (A : Option Addr) (c : Nat) (l : List Rv), e = .returned (.slice A l.length c) ∧ RdRv w' w'.heap.size A l ∧ l.map Rv.core = ((Tb.fromL R key).take most.toNat).map Rv.core
structure FrR (base : Nat) (F : Nat → Prop) (t : Ti) (w : World) (OA : Option Addr) (oc : Nat) (l : List Rv) (W : World) : Prop where
 tab : TbAt base (fun g => F g ∨ blk OA = some g) t W
 qry : Qry base t w W
 row : OwnS Rv.cells 4 W w.heap.size 35 OA oc l
 inn : ∀ r ∈ l, Own W base 5 r.kA r.kc r.k ∧ Own W base 5 r.vA r.vc r.v
section
variable {base oc oc' : Nat} {F : Nat → Prop} {t : Ti} {w W W' : World} {OA OA' : Option Addr} {l : List Rv} {r : Rv}
theorem FrR.start (h : TbAt base F t w) : FrR base F t w none 0 [] w := ⟨h.less (fun g hg => hg.elim id (fun e => by cases e)), Qry.refl _ _ _, OwnS.nil _ _ _, fun r hr => by cases hr⟩
theorem FrR.step (h : FrR base F t w OA oc l W) (ht : TbAt base (fun g => F g ∨ blk OA = some g) t W') (hq : Qry base t W W') : FrR base F t w OA oc l W' :=
 ⟨ht, h.qry.trans hq, hq.ownS h.row (by decide) (by decide), fun r hr => ⟨hq.own (h.inn r hr).1, hq.own (h.inn r hr).2⟩⟩
theorem FrR.call (h : FrR base F t w OA oc l W) (hb : Below W.heap.size W W') : FrR base F t w OA oc l W' := h.step (h.tab.call hb) (Qry.of (t := t) hb h.tab.size)
theorem FrR.app (h : FrR base F t w OA oc l W) (hs : base ≤ w.heap.size) (hr : Own W base 5 r.kA r.kc r.k ∧ Own W base 5 r.vA r.vc r.v) (ho : OwnS Rv.cells 4 W' w.heap.size 35 OA' oc' (l ++ [r])) (hg : W.grownBy W' (blk OA)) (hat : blk OA' = blk OA ∨ blk OA' = some W.heap.size) : FrR base F t w OA' oc' (l ++ [r]) W' := by
 have htag : ∀ g, blk OA = some g → (F g ∨ blk OA = some g) ∧ base ≤ g ∧ ∃ cs fr, W.heap[g]? = some (.cells cs 35 fr) := fun g e => by
   obtain ⟨h1, cs, fr, h2⟩ := ownS_tag h.row e
   exact ⟨.inr e, by omega, cs, fr, h2⟩
 have hnb : NoB W (blk OA) := h.row.nob (by decide)
 refine ⟨h.tab.foreignM hg htag (fun g hf => ?_) (fun g hf => ?_), h.qry.new hg hs (fun g e => (ownS_tag h.row e).1), ho, fun q hq => ?_⟩
 · rcases hf with h1 | h1
   · exact .inl (.inl h1)
   · rcases hat with h2 | h2
     · exact .inl (.inr (h2 ▸ h1))
     · rw [h2] at h1; injection h1 with h1; exact .inr (by omega)
 · rcases hf with h1 | h1
   · exact Nat.lt_of_lt_of_le (h.tab.frn g (.inl h1)) hg.size
   · exact (ho.blk_ge g h1).2
 · simp only [List.mem_append, List.mem_singleton] at hq
   rcases hq with hq | hq
   · exact ⟨(h.inn q hq).1.kept_tag hg hnb, (h.inn q hq).2.kept_tag hg hnb⟩
   · rw [hq]; exact ⟨hr.1.kept_tag hg hnb, hr.2.kept_tag hg hnb⟩
theorem FrR.rd (h : FrR base F t w OA oc l W) : RdRv W W.heap.size OA l := ⟨h.row.rd, fun r hr => ⟨(h.inn r hr).1.rd, (h.inn r hr).2.rd, (h.inn r hr).1.cap, (h.inn r hr).2.cap⟩⟩
end
structure FrP (t : Ti) (R : List Rv) (key : List UInt8) (most : Int) (l : List Rv) (P : Nat) : Prop where
 le : P ≤ R.length
 few : l.length ≤ most.toNat
 now : (R.drop P).length + l.length = (Tb.fromL R key).length
 eq : l.map Rv.core = ((Tb.fromL R key).take l.length).map Rv.core
 rest : (Tb.fromL R key).drop l.length = R.drop P
theorem FrP.start {t : Ti} {R : List Rv} {key : List UInt8} {most : Int} {P : Nat} (hr : ∀ r ∈ R, Tb.right r = true) (h : Tb.Pos R (Tb.ask key 1099511627776) P) : FrP t R key most [] P := by
 have e := h.from hr
 exact ⟨h.le, Nat.zero_le _, by rw [e]; simp, by simp, by rw [e]; simp⟩
theorem FrP.snoc {t : Ti} {R : List Rv} {key : List UInt8} {most : Int} {l : List Rv} {P : Nat} (h : FrP t R key most l P) {r r0 : Rv} (hm : (l.length : Int) < most) (hP : R[P]? = some r0) (hc : r.core = r0.core) : FrP t R key most (l ++ [r]) (P + 1) := by
 obtain ⟨hlt, e0⟩ := List.getElem?_eq_some_iff.1 hP
 have hd : R.drop P = r0 :: R.drop (P + 1) := by rw [List.drop_eq_getElem_cons hlt, e0]
 have hn : l.length < (Tb.fromL R key).length := by
   have := h.now
   rw [hd, List.length_cons] at this
   omega
 have hx : (Tb.fromL R key)[l.length]? = some r0 := by
   have h1 : ((Tb.fromL R key).drop l.length)[0]? = some r0 := by rw [h.rest, hd]; rfl
   rw [List.getElem?_drop] at h1
   simpa using h1
 refine ⟨hlt, by simp; omega, ?_, ?_, ?_⟩
 · have := h.now
   rw [hd, List.length_cons] at this
   rw [List.length_append]
   simp only [List.length_cons, List.length_nil]
   omega
 · rw [List.length_append]
   simp only [List.length_cons, List.length_nil]
   rw [List.take_succ_eq_append_getElem hn, List.map_append, List.map_append, h.eq]
   congr 1
   obtain ⟨h1, h2⟩ := List.getElem?_eq_some_iff.1 hx
   simp only [List.map_cons, List.map_nil, h2, hc]
 · rw [List.length_append]
   simp only [List.length_cons, List.length_nil]
   have h1 : (Tb.fromL R key).drop (l.length + 1) = ((Tb.fromL R key).drop l.length).drop 1 := by rw [List.drop_drop]
   rw [h1, h.rest, List.drop_drop]
theorem FrP.full {t : Ti} {R : List Rv} {key : List UInt8} {most : Int} {l : List Rv} {P : Nat} (h : FrP t R key most l P) (hm : most ≤ (l.length : Int)) : l.map Rv.core = ((Tb.fromL R key).take most.toNat).map Rv.core := by
 have h1 : most.toNat = l.length := by have := h.few; omega
 rw [h1]; exact h.eq
theorem FrP.fin {t : Ti} {R : List Rv} {key : List UInt8} {most : Int} {l : List Rv} (h : FrP t R key most l R.length) : l.map Rv.core = ((Tb.fromL R key).take most.toNat).map Rv.core := by
 have h1 := h.now
 rw [List.drop_length, List.length_nil] at h1
 have h2 := h.eq
 rw [List.take_of_length_le (by omega)] at h2
 rw [List.take_of_length_le (by have := h.few; omega)]
 exact h2
set_option maxHeartbeats 4000000 in
set_option maxRecDepth 100000 in
theorem tfrom_any (base : Nat) (F : Nat → Prop) (t : Ti) (R : List Rv) (bits : Nat) (hR : TbR t R bits) (kA : Option Addr) (kc : Nat) (key : List UInt8) (most : Int) (w : World) (h : TbAt base F t w) (hk : HBs w base kA key) (hkl : key.length ≤ 10000) (hkc : key.length ≤ kc) (hn : t.ps.length ≤ 100000) :
   Calls Tryz.prog 17 #[.pointer (some ⟨t.gt, 0, none⟩), .slice kA key.length kc, .int .i64 most] w (TfQ base F t R key most w) := by
 have hs := h.size
 have HR := hid hR
 have KS := hid (seek_any base F t R bits hR kA kc key 1099511627776 w h hk hkl hkc (by omega) (by omega) hn)
 have HF0 := hid (FrR.start h)
 have hrl := hR.len
 clear hR h hk
 go_enter Tryz.func17, Tryz.ntmps17
 go_wp2_with fail
 refine KS.out.mono ?_
 rintro e w1 ⟨ht1, hq1, at0, i0, rfl, hsk⟩
 have HF1 : Hid (FrR base F t w none 0 [] w1) := hid (HF0.out.step (ht1.less (fun g hg => hg.elim id (fun e => by cases e))) hq1)
 have hat0 : at0 ≤ t.ps.length := by
   rcases hsk with ⟨h1, _⟩ | ⟨h1, _⟩ <;> omega
 have HP0 : Hid (FrP t R key most [] (t.off at0 + i0)) := hid (by
   rcases hsk with ⟨_, _, hp⟩ | ⟨e1, e2, hp⟩
   · exact FrP.start HR.out.rt hp
   · rw [e1, e2, Nat.add_zero, HR.out.off_all]; exact FrP.start HR.out.rt hp)
 have HI0 : Hid (∀ x, t.ps[at0]? = some x → i0 < x.2.length) := hid (fun x hx => by
   obtain ⟨ha, rfl⟩ := List.getElem?_eq_some_iff.1 hx
   rcases hsk with ⟨_, h2, _⟩ | ⟨e1, _⟩
   · exact h2
   · omega)
 have HE0 : Hid (at0 = t.ps.length → i0 = 0) := hid (fun h1 => by
   rcases hsk with ⟨h2, _⟩ | ⟨_, e2, _⟩
   · omega
   · exact e2)
 obtain ⟨n, hnn⟩ : ∃ n, n = t.ps.length := ⟨_, rfl⟩
 have HNN := hid hnn
 rw [← hnn] at hn hat0 HE0
 clear ht1 hq1 hsk hnn
 go_wp2_with fail
 go_loopw [7, 8, 9] (fun o a ii wr => ∃ (j i : Nat) (OA : Option Addr) (oc : Nat) (l : List Rv), j ≤ n ∧ a = .int .i64 (j : Int) ∧ ii = .int .i64 (i : Int) ∧ o = .slice OA l.length oc ∧ l.length ≤ 20000 ∧ Hid (∀ x, t.ps[j]? = some x → i < x.2.length) ∧ Hid (j = n → i = 0) ∧ Hid (FrR base F t w OA oc l wr) ∧ Hid (FrP t R key most l (t.off j + i))) (fun _ a _ _ => n - (intOf a).toNat)
 case atStart => exact ⟨at0, i0, none, 0, [], hat0, rfl, rfl, rfl, by simp, HI0, HE0, HF1, HP0⟩
 case round =>
   obtain ⟨j, i, OA, oc, l, hj, rfl, rfl, rfl, hll, HI, HE, HF, HP⟩ := hrel
   have c4 := HF.out.tab.fcell.1
   rw [← HNN.out] at c4
   by_cases hlt : j < n
   · have hal : j < t.ps.length := by have := HNN.out; omega
     obtain ⟨pb, po, hA, hpbl, hpc⟩ := RdS.row (f := Ptc) (n := 1) (fun _ => rfl) (by omega) HF.out.tab.row.rd (by rw [List.length_map]; omega)
     have s0o := hpc j (by rw [List.length_map]; exact hal) 0 _ rfl
     simp only [Nat.mul_one, Nat.add_zero, List.getElem_map] at s0o
     have hxm : t.ps[j] ∈ t.ps := List.getElem_mem hal
     have KAo := hid (all_any base _ t t.ps[j] hxm wr HF.out.tab (HR.out.prt _ hxm))
     obtain ⟨x, hx, s0, KA⟩ : ∃ x, t.ps[j]? = some x ∧ wr.cell? ⟨pb, po + j, none⟩ = some (.pointer (some ⟨x.1.g, 0, none⟩)) ∧ Hid (Calls Tryz.prog 33 #[.pointer (some ⟨x.1.g, 0, none⟩)] wr (AllQ base (fun g => F g ∨ blk OA = some g) t x.2 wr)) := ⟨_, List.getElem?_eq_getElem hal, s0o, KAo⟩
     clear s0o KAo hpc hxm
     rw [hA] at c4
     have HX := hid hx
     have HA := hid hA
     clear hx hA
     go_wp2_with fail
     refine KA.out.mono ?_
     rintro e w5 ⟨ht5, hq5, lA, lc, L, rfl, hrec, hco, hfr⟩
     have HF5 := hid (HF.out.step ht5 hq5)
     obtain ⟨hLL, hL2, _⟩ := HR.out.rise HX.out hco
     have hiL : i < L.length := by have := HI.out x HX.out; omega
     have hLc : L.length ≤ lc := hrec.row.cap
     have hLc2 : lc ≤ 9223372036854775807 := ownS_cap_le hrec.row
     obtain ⟨lb, lo, hlA, hlb, hlc⟩ := hrec.rd.row4 (by omega)
     subst hlA
     have HREC := hid hrec
     have HCO := hid hco
     have HFRN := hid hfr
     have HLL := hid hLL
     have hic : ¬ lc = i := by omega
     have hi0 : (0 : Int) ≤ (i : Int) := by omega
     have hi1 : (i : Int) ≤ (L.length : Int) := by omega
     clear ht5 hq5 hrec hco hfr hlc hLL s0 c4
     go_wp2_with fail
     obtain ⟨N, hN⟩ : ∃ N, N = L.length - i := ⟨_, rfl⟩
     rw [← hN]
     have HNL : Hid (i + N = L.length) := hid (by omega)
     have hN2 : N ≤ 20000 := by omega
     have HNE : Hid (some lb ≠ blk OA) := hid (fun e => HFRN.out lb rfl (.inr e.symm))
     clear hN
     obtain ⟨jj, hjj⟩ : ∃ jj, jj = j := ⟨_, rfl⟩
     subst hjj
     obtain ⟨wo, hwo⟩ : ∃ wo, wo = wr := ⟨_, rfl⟩
     subst hwo
     go_loopw [7, 38] (fun o q wx => ∃ (m : Nat) (OA2 : Option Addr) (oc2 : Nat) (l2 : List Rv), m ≤ N ∧ q = .int .i64 (m : Int) ∧ o = .slice OA2 l2.length oc2 ∧ l2.length ≤ 20000 ∧ Hid (FrR base F t w OA2 oc2 l2 wx) ∧ Hid (FrP t R key most l2 (t.off jj + i + m)) ∧ Hid (RecsAt wx base (some ⟨lb, lo, none⟩) lc L) ∧ Hid (some lb ≠ blk OA2)) (fun _ q _ => N - (intOf q).toNat)
     case atStart => exact ⟨0, OA, oc, l, by omega, rfl, rfl, hll, HF5, HP, HREC, HNE⟩
     case round =>
       obtain ⟨m, OA2, oc2, l2, hm, rfl, rfl, hl2, HF2, HP2, HREC2, HNE2⟩ := hrel
       by_cases hml : m < N
       · have himl : i + m < L.length := by have := HNL.out; omega
         obtain ⟨lb', lo', hlA, hlb2, hlc⟩ := HREC2.out.rd.row4 (by omega)
         cases hlA
         obtain ⟨a0, a1, a2, a3⟩ := hlc (i + m) himl
         rw [show lo + (i + m) * 4 = lo + i * 4 + m * 4 by omega] at a0 a1 a2 a3
         have hin := HREC2.out.inn L[i + m] (List.getElem_mem himl)
         obtain ⟨r0, hr0, hrc0⟩ : ∃ r0, R[t.off jj + i + m]? = some r0 ∧ L[i + m].core = r0.core := by
           obtain ⟨ha, he⟩ := List.getElem?_eq_some_iff.1 HX.out
           have h1 : i + m < t.ps[jj].2.length := by rw [he]; have := HLL.out; omega
           obtain ⟨h2, h3⟩ := HR.out.at_ ha h1
           refine ⟨R[t.off jj + (i + m)], ?_, ?_⟩
           · rw [Nat.add_assoc, List.getElem?_eq_getElem h2]
           · rw [h3]
             have hco2 : L.map Rv.core = t.ps[jj].2.map Rv.core := by rw [he]; exact HCO.out
             exact core_at hco2 himl h1
         obtain ⟨y, hy⟩ : ∃ y, y = L[i + m] := ⟨_, rfl⟩
         rw [← hy] at a0 a1 a2 a3 hin hrc0
         have HR0 := hid hr0
         have HRC0 := hid hrc0
         obtain ⟨yA, yc, yk, ys, yd, yvA, yvc, yv⟩ := y
         simp only at a0 a1 a2 a3 hin
         have HRY : Hid (HBs wr base yA yk ∧ HBs wr base yvA yv ∧ yk.length ≤ 70000 ∧ yv.length ≤ 70000) := hid ⟨hin.1.1, hin.1.2.2.1, hin.2⟩
         clear hlc hin hy hr0 hrc0
         have hm0 : (0 : Int) ≤ (m : Int) := by omega
         have hm1 : (m : Int) < (N : Int) := by omega
         by_cases hmost : (l2.length : Int) < most
         · have hbw6 : Below wr.heap.size wr (wr.alloc (.cells #[.slice yA yk.length yc, .int .i64 ys, .bool yd, .slice yvA yv.length yvc] 35)) := (Below.refl _ _).alloc (Nat.le_refl _) _
           have KC := hid (copied_any ⟨yA, yc, yk, ys, yd, yvA, yvc, yv⟩ (wr.alloc (.cells #[.slice yA yk.length yc, .int .i64 ys, .bool yd, .slice yvA yv.length yvc] 35)) (HRY.out.1.below hbw6).rd (HRY.out.2.1.below hbw6).rd (by have := HRY.out.2.2.1; simp only; omega) (by have := HRY.out.2.2.2; simp only; omega))
           have HBW6 := hid hbw6
           simp only [Rv.val] at KC
           clear hbw6
           go_wp2_with fail
           refine KC.out.mono ?_
           rintro e w7 ⟨hb7, r', rfl, hcr, hok, hov⟩
           have hb77 : Below wr.heap.size wr w7 := HBW6.out.trans (hb7.mono HBW6.out.size)
           have HF7 := hid (HF2.out.call hb77)
           have HREC7 := hid ((Qry.of (t := t) hb77 HF2.out.tab.size).recs (Nat.le_refl _) HREC2.out)
           have HCR : Hid (r'.core = r0.core) := hid (hcr.trans HRC0.out)
           have hszb : base ≤ (wr.alloc (.cells #[.slice yA yk.length yc, .int .i64 ys, .bool yd, .slice yvA yv.length yvc] 35)).heap.size := Nat.le_trans HF2.out.tab.size HBW6.out.size
           have HOK : Hid (Own w7 base 5 r'.kA r'.kc r'.k ∧ Own w7 base 5 r'.vA r'.vc r'.v) := hid ⟨hok.mono hszb, hov.mono hszb⟩
           have hw7 : w.heap.size ≤ w7.heap.size := HF7.out.qry.below.size
           obtain ⟨rr, hrr⟩ : ∃ rr, rr = r' := ⟨_, rfl⟩
           have HRR := hid hrr
           rw [← hrr] at HCR HOK
           obtain ⟨rA, rc, rk, rs, rd, rvA, rvc, rv⟩ := r'
           simp only [Rv.val]
           clear hb7 hb77 hcr hok hov hszb a0 a1 a2 a3 hrr
           go_wp2_with (at_builtin; refine wpList_append_s _ rfl _ _ recT rfl w.heap.size OA2 oc2 l2 rfl (HF7.out.row.alloc _) (w7.heap.size + 1) (some ⟨w7.heap.size, 0, none⟩) 1 1 [⟨rA, rc, rk, rs, rd, rvA, rvc, rv⟩] rfl rfl (rd_rec_new w7 ⟨rA, rc, rk, rs, rd, rvA, rvc, rv⟩) (by simp; omega) (by unfold maxLen; simp; omega) (by simp; omega) ?_)
           intro A3 c3 l3 w8 hl3 ho3 hg3 hat3
           have hbo : Below w7.heap.size w7 (w7.alloc (.cells #[.slice rA rk.length rc, .int .i64 rs, .bool rd, .slice rvA rv.length rvc] 35)) := (Below.refl _ _).alloc (Nat.le_refl _) _
           have hl3r : l3 = l2 ++ [rr] := by rw [hl3, HRR.out]
           rw [hl3r] at ho3
           have HF8 := hid ((HF7.out.call hbo).app (r := rr) hs ⟨HOK.out.1.below hbo, HOK.out.2.below hbo⟩ ho3 hg3 (by simpa using hat3))
           have HREC8 := hid (((Qry.of (t := t) hbo HF7.out.tab.size).recs (Nat.le_refl _) HREC7.out).grown hg3 ((HF7.out.row.alloc _).nob (by decide)) (fun g e => by have := (HF7.out.row.blk_ge g e).1; omega) (.inr HNE2.out))
           have HNE8 : Hid (some lb ≠ blk A3) := hid (fun e => by
             rcases hat3 with h1 | h1
             · exact HNE2.out (e.trans h1)
             · rw [h1] at e
               injection e with e
               have h2 := (HREC7.out.row.blk_ge lb rfl).2
               omega)
           have HP8 := hid (HP2.out.snoc (r := rr) hmost HR0.out HCR.out)
           have hl38 : l3.length ≤ 20000 := by
             have h1 := HP8.out.now
             have h2 := Tb.fromL_len R key
             rw [hl3r]
             omega
           have HL3R := hid hl3r
           clear hl3 ho3 hg3 hat3 hbo hl3r
           go_wp2_with fail
           go_roundw
           case rel => exact ⟨m + 1, A3, c3, l3, hml, by simp, rfl, hl38, hid (by rw [HL3R.out]; exact HF8.out), hid (by rw [HL3R.out, ← Nat.add_assoc]; exact HP8.out), HREC8, HNE8⟩
           case measure => simp [intOf]; omega
         · have HFIN := hid (HP2.out.full (by omega))
           have HF7 := hid (HF2.out.call ((Below.refl wr.heap.size wr).alloc (Nat.le_refl _) (.cells #[.slice yA yk.length yc, .int .i64 ys, .bool yd, .slice yvA yv.length yvc] 35)))
           go_wp2_with fail
           go_ret
           exact ⟨HF7.out.tab.less (fun g hg => .inl hg), HF7.out.qry, OA2, oc2, l2, rfl, HF7.out.rd, HFIN.out⟩
       · have hme : m = N := by omega
         have HPN : Hid (FrP t R key most l2 (t.off (jj + 1) + 0)) := hid (by
           obtain ⟨ha, he⟩ := List.getElem?_eq_some_iff.1 HX.out
           have h1 := t.off_succ ha
           rw [he] at h1
           have h2 := HLL.out
           have h3 := HNL.out
           have h4 := HP2.out
           rw [show t.off (jj + 1) + 0 = t.off jj + i + m by omega]
           exact h4)
         have HIN : Hid (∀ x, t.ps[jj + 1]? = some x → 0 < x.2.length) := hid (fun x hx => by
           obtain ⟨ha, rfl⟩ := List.getElem?_eq_some_iff.1 hx
           exact HR.out.pne ha)
         go_wp2_with fail
         go_roundw
         case rel => exact ⟨jj + 1, 0, OA2, oc2, l2, hlt, by simp, rfl, rfl, hl2, HIN, hid (fun _ => rfl), HF2, HPN⟩
         case measure => simp [intOf]; omega
   · have hje : j = n := by omega
     have HFIN : Hid (l.map Rv.core = ((Tb.fromL R key).take most.toNat).map Rv.core) := hid (by
       have h1 := HP.out
       rw [HE.out hje, hje, HNN.out, HR.out.off_all, Nat.add_zero] at h1
       exact h1.fin)
     go_wp2_with fail
     go_ret
     exact ⟨HF.out.tab.less (fun g hg => .inl hg), HF.out.qry, OA, oc, l, rfl, HF.out.rd, HFIN.out⟩
theorem tlen_any (base : Nat) (F : Nat → Prop) (t : Ti) (w : World) (h : TbAt base F t w) : Calls Tryz.prog 10 #[.pointer (some ⟨t.gt, 0, none⟩)] w fun e w' => e = .returned (.int .i64 t.many) ∧ w = w' := by
 have c := h.fcell.2.2.1
 go_enter Tryz.func10, Tryz.ntmps10
 go_wp2
 go_ret
 exact ⟨rfl, rfl⟩
theorem tseqs_any (base : Nat) (F : Nat → Prop) (t : Ti) (w : World) (h : TbAt base F t w) : Calls Tryz.prog 9 #[.pointer (some ⟨t.gt, 0, none⟩)] w fun e w' => e = .returned (.tuple #[.int .i64 t.low, .int .i64 t.high]) ∧ Below w.heap.size w w' := by
 have c := h.fcell.2.2.2.1
 have d := h.fcell.2.2.2.2.1
 clear h
 go_enter Tryz.func9, Tryz.ntmps9
 go_wp2
 go_quiet (fail)
 refine drewN_any ?_
 intro X hbX hX
 have HBX := hid hbX
 clear hbX hX
 go_wp2
 go_ret2
 exact ⟨rfl, HBX.out⟩
def EnQ (base : Nat) (F : Nat → Prop) (t : Ti) (R : List Rv) (w : World) (e : Ending) (w' : World) : Prop := TbAt base F t w' ∧ Qry base t w w' ∧ ∃ (A B : Option Addr) (c d : Nat) (k z : List UInt8), e = .returned (.tuple #[.slice A k.length c, .slice B z.length d]) ∧ Own w' base 5 A c k ∧ Own w' base 5 B d z ∧ R.head?.map Rv.k = some k ∧ R.getLast?.map Rv.k = some z
theorem core_k {a b : Rv} (h : a.core = b.core) : a.k = b.k := by
 unfold Rv.core at h
 injection h
set_option maxHeartbeats 4000000 in
set_option maxRecDepth 100000 in
theorem tends_any (base : Nat) (F : Nat → Prop) (t : Ti) (R : List Rv) (bits : Nat) (hR : TbR t R bits) (w : World) (h : TbAt base F t w) (hn : t.ps.length ≤ 100000) :
   Calls Tryz.prog 8 #[.pointer (some ⟨t.gt, 0, none⟩)] w (EnQ base F t R w) := by
 have HR := hid hR
 have hne := List.length_pos_iff.2 hR.ne
 obtain ⟨N, hnn⟩ : ∃ N, t.ps.length = N := ⟨_, rfl⟩
 obtain ⟨n, hNn⟩ : ∃ n, N = n + 1 := ⟨N - 1, by omega⟩
 obtain ⟨V, hV⟩ : ∃ V, w.drew = V := ⟨_, rfl⟩
 have hbV : Below w.heap.size w V := by rw [← hV]; exact (Below.refl _ _).drew
 have hTV := h.call hbV
 have HQV := hid (Qry.of (t := t) hbV h.size)
 have HT := hid hTV
 have c0 := hTV.fcell.1
 obtain ⟨pb, po, hA, hpbl, hpc⟩ := RdS.row (f := Ptc) (n := 1) (fun _ => rfl) (by omega) hTV.row.rd (by rw [List.length_map]; omega)
 have hl0 : 0 < t.ps.length := by omega
 have hlz : n < t.ps.length := by omega
 have s0o := hpc 0 (by rw [List.length_map]; exact hl0) 0 _ rfl
 have szo := hpc n (by rw [List.length_map]; exact hlz) 0 _ rfl
 simp only [Nat.mul_one, Nat.add_zero, List.getElem_map] at s0o szo
 have hmz : t.ps[n] ∈ t.ps := List.getElem_mem hlz
 have KZo := hid (all_any base F t t.ps[n] hmz V hTV (hR.prt _ hmz))
 obtain ⟨xz, hxz, sz, KZ⟩ : ∃ x, t.ps[n]? = some x ∧ V.cell? ⟨pb, po + n, none⟩ = some (.pointer (some ⟨x.1.g, 0, none⟩)) ∧ Hid (Calls Tryz.prog 33 #[.pointer (some ⟨x.1.g, 0, none⟩)] V (AllQ base F t x.2 V)) := ⟨_, List.getElem?_eq_getElem hlz, szo, KZo⟩
 have hm0 : t.ps[0] ∈ t.ps := List.getElem_mem hl0
 have KFo : ∀ X, TbAt base F t X → Calls Tryz.prog 33 #[.pointer (some ⟨t.ps[0].1.g, 0, none⟩)] X (AllQ base F t t.ps[0].2 X) := fun X hX => all_any base F t t.ps[0] hm0 X hX (hR.prt _ hm0)
 obtain ⟨x0, hx0, KF, HXM⟩ : ∃ x, t.ps[0]? = some x ∧ Hid (∀ X, TbAt base F t X → Calls Tryz.prog 33 #[.pointer (some ⟨x.1.g, 0, none⟩)] X (AllQ base F t x.2 X)) ∧ Hid (∀ X, TbAt base F t X → X.cell? ⟨pb, po, none⟩ = some (.pointer (some ⟨x.1.g, 0, none⟩)) ∧ X.cell? ⟨t.gt, 0, none⟩ = some (.slice (some ⟨pb, po, none⟩) N t.PC)) := ⟨_, List.getElem?_eq_getElem hl0, hid KFo, hid (fun X hX => by
   obtain ⟨pb', po', hA', _, hpc'⟩ := RdS.row (f := Ptc) (n := 1) (fun _ => rfl) (by omega) hX.row.rd (by rw [List.length_map]; omega)
   rw [hA] at hA'
   cases hA'
   have h1 := hpc' 0 (by rw [List.length_map]; exact hl0) 0 _ rfl
   simp only [Nat.mul_one, Nat.add_zero, List.getElem_map] at h1
   refine ⟨h1, ?_⟩
   have h2 := hX.fcell.1
   rw [hnn, hA] at h2
   exact h2)⟩
 rw [hnn, hA] at c0
 have HXZ := hid hxz
 have HX0 := hid hx0
 have HNN := hid hnn
 have hnb : N ≤ 100000 := by omega
 have ix : IntKind.i64.wrap ((N : Int) - 1) = (n : Int) := by rw [IntKind.wrap_i64]; omega
 have hn0 : (0 : Int) ≤ (n : Int) := by omega
 have hn1 : (n : Int) < (N : Int) := by omega
 have hN0 : (0 : Int) < (N : Int) := by omega
 have hN0n : 0 < N := by omega
 have HNn := hid hNn
 have HVW := hid hV
 clear hR h hne hnn hNn hbV hTV hpc hl0 hlz s0o szo hmz KZo hxz hm0 KFo hx0 hA hn
 go_enter Tryz.func8, Tryz.ntmps8
 go_wp2_with fail
 refine region_still_tail 12 (by kernel_rfl) (by kernel_rfl) hV ?_
 clear hV
 simp only [List.take_succ_cons, List.take_zero, List.drop_succ_cons, List.drop_zero]
 repeat still_step
 refine wpStill_nil ?_
 go_wp2_with fail
 refine KZ.out.mono ?_
 rintro e w1 ⟨ht1, hq1, lA, lc, L, rfl, hrec, hco, hfr⟩
 have HT1 := hid ht1
 have HQ1 := hid (HQV.out.trans hq1)
 obtain ⟨hLL, hL2, _⟩ := HR.out.rise HXZ.out hco
 have hLp : 0 < L.length := by
   obtain ⟨ha, he⟩ := List.getElem?_eq_some_iff.1 HXZ.out
   have h1 := HR.out.pne ha
   rw [he] at h1
   omega
 obtain ⟨m, hm⟩ : ∃ m, L.length = m + 1 := ⟨L.length - 1, by omega⟩
 obtain ⟨lb, lo, hlA, hlb, hlc⟩ := hrec.rd.row4 (by omega)
 subst hlA
 have hml : m < L.length := by omega
 have a0 := (hlc m hml).1
 have hin := (hrec.inn L[m] (List.getElem_mem hml))
 have HLAST : Hid (R.getLast?.map Rv.k = some (L[m]).k) := hid (by
   obtain ⟨ha, he⟩ := List.getElem?_eq_some_iff.1 HXZ.out
   have h1 : m < t.ps[n].2.length := by rw [he]; omega
   obtain ⟨h2, h3⟩ := HR.out.at_ ha h1
   have h4 := HR.out.off_all
   have h5 := t.off_succ ha
   rw [HNN.out, HNn.out] at h4
   have h6 : R.length - 1 = t.off n + m := by rw [he] at h5; omega
   have hco2 : L.map Rv.core = t.ps[n].2.map Rv.core := by rw [he]; exact hco
   rw [List.getLast?_eq_getElem?, h6, List.getElem?_eq_getElem h2, Option.map_some, h3, core_k (core_at hco2 hml h1)])
 obtain ⟨lb0, cs0, fr0, htag⟩ := ownS_tag hrec.row (g := lb) rfl
 have HTAG : Hid (∀ X, Qry base t w1 X → X.cell? ⟨lb, lo + m * 4, none⟩ = w1.cell? ⟨lb, lo + m * 4, none⟩) := hid (fun X hX => World.cell?_of_block (hX.tagd lb cs0 _ fr0 htag (by decide) (by decide)))
 obtain ⟨zA, zc, zk, hz0, HZK, HLZ, hzl⟩ : ∃ (zA : Option Addr) (zc : Nat) (zk : List UInt8), w1.cell? ⟨lb, lo + m * 4, none⟩ = some (.slice zA zk.length zc) ∧ Hid (HBs w1 base zA zk) ∧ Hid (R.getLast?.map Rv.k = some zk) ∧ zk.length ≤ 70000 := ⟨_, _, _, a0, hid hin.1.1, HLAST, hin.2.1⟩
 have HSB : Hid (∀ X, TbAt base F t X → Qry base t w1 X → X.cell? ⟨t.gt, 0, none⟩ = some (.slice (some ⟨pb, po, none⟩) N t.PC) ∧ X.cell? ⟨pb, po, none⟩ = some (.pointer (some ⟨x0.1.g, 0, none⟩)) ∧ X.cell? ⟨lb, lo + m * 4, none⟩ = some (.slice zA zk.length zc)) := hid (fun X hX hq => ⟨(HXM.out X hX).2, (HXM.out X hX).1, (HTAG.out X hq).trans hz0⟩)
 obtain ⟨M, hM⟩ : ∃ M, M = L.length := ⟨_, rfl⟩
 rw [← hM]
 rw [← hM] at hm hL2
 have ixm : IntKind.i64.wrap ((M : Int) - 1) = (m : Int) := by rw [IntKind.wrap_i64]; omega
 have hm0 : (0 : Int) ≤ (m : Int) := by omega
 have hm1 : (m : Int) < (M : Int) := by omega
 obtain ⟨W, hW⟩ : ∃ W, w1.drew = W := ⟨_, rfl⟩
 have hbW : Below w1.heap.size w1 W := by rw [← hW]; exact (Below.refl _ _).drew
 have HTW := hid (ht1.call hbW)
 have HQW := hid (Qry.of (t := t) hbW ht1.size)
 have HSW := HSB.out W HTW.out HQW.out
 have HZW := hid (HZK.out.below hbW)
 clear ht1 hq1 hrec hco hfr hLL hLp hm hM hlc hml a0 hin htag hz0 hbW HLAST KZ c0 sz
 go_wp2_with fail
 refine wp_region_E 20 (fun w' => w'.cell? ⟨t.gt, 0, none⟩ = some (.slice (some ⟨pb, po, none⟩) N t.PC) ∧ w'.cell? ⟨pb, po, none⟩ = some (.pointer (some ⟨x0.1.g, 0, none⟩)) ∧ w'.cell? ⟨lb, lo + m * 4, none⟩ = some (.slice zA zk.length zc)) (by kernel_rfl) ?_
 rw [hW]
 clear hW
 refine wpAnyE_take (i := 0) (v := ?_) rfl (by kernel_rfl) (by kernel_rfl) (by kernel_rfl) (by kernel_rfl) (fun _ _ _ h => h) (Or.inl ⟨by rfl, ?_⟩) HSW ?_
 rotate_left
 · (intro wy hSw; obtain ⟨s1, s2x, s3⟩ := hSw; go_simp; try with_reducible rfl)
 try simp only [Act.put, List.setIfInBounds_toArray]
 refine wpAnyE_take (i := 1) (v := ?_) rfl (by kernel_rfl) (by kernel_rfl) (by kernel_rfl) (by kernel_rfl) (fun _ _ _ h => h) (Or.inl ⟨by rfl, ?_⟩) HSW ?_
 rotate_left
 · (intro wy hSw; obtain ⟨s1, s2x, s3⟩ := hSw; go_simp; try with_reducible rfl)
 try simp only [Act.put]
 refine wpAnyE_take (i := 2) (v := ?_) rfl (by kernel_rfl) (by kernel_rfl) (by kernel_rfl) (by kernel_rfl) (fun _ _ _ h => h) (Or.inl ⟨by rfl, ?_⟩) HSW ?_
 rotate_left
 · (intro wy hSw; obtain ⟨s1, s2x, s3⟩ := hSw; go_simp; try with_reducible rfl)
 try simp only [Act.put]
 refine wpAnyE_take (i := 3) (v := ?_) rfl (by kernel_rfl) (by kernel_rfl) (by kernel_rfl) (by kernel_rfl) (fun _ _ _ h => h) (Or.inl ⟨by rfl, ?_⟩) HSW ?_
 rotate_left
 · (intro wy hSw; obtain ⟨s1, s2x, s3⟩ := hSw; go_simp; try with_reducible rfl)
 try simp only [Act.put]
 refine wpAnyE_take (i := 4) (v := ?_) rfl (by kernel_rfl) (by kernel_rfl) (by kernel_rfl) (by kernel_rfl) (fun _ _ _ h => h) (Or.inl ⟨by rfl, ?_⟩) HSW ?_
 rotate_left
 · (intro wy hSw; obtain ⟨s1, s2x, s3⟩ := hSw; go_simp; try with_reducible rfl)
 try simp only [Act.put]
 refine wpAnyE_take (i := 11) (v := ?_) rfl (by kernel_rfl) (by kernel_rfl) (by kernel_rfl) (by kernel_rfl) (fun _ _ _ h => h) (Or.inl ⟨by rfl, ?_⟩) HSW ?_
 rotate_left
 · (intro wy hSw; obtain ⟨s1, s2x, s3⟩ := hSw; go_simp; try with_reducible rfl)
 try simp only [Act.put]
 refine wpAnyE_take (i := 12) (v := ?_) rfl (by kernel_rfl) (by kernel_rfl) (by kernel_rfl) (by kernel_rfl) (fun _ _ _ h => h) (Or.inl ⟨by rfl, ?_⟩) HSW ?_
 rotate_left
 · (intro wy hSw; obtain ⟨s1, s2x, s3⟩ := hSw; go_simp; try with_reducible rfl)
 try simp only [Act.put]
 refine wpAnyE_take (i := 13) (v := ?_) rfl (by kernel_rfl) (by kernel_rfl) (by kernel_rfl) (by kernel_rfl) (fun _ _ _ h => h) (Or.inl ⟨by rfl, ?_⟩) HSW ?_
 rotate_left
 · (intro wy hSw; obtain ⟨s1, s2x, s3⟩ := hSw; go_simp; try with_reducible rfl)
 try simp only [Act.put]
 refine wpAnyE_take (i := 14) (v := ?_) rfl (by kernel_rfl) (by kernel_rfl) (by kernel_rfl) (by kernel_rfl) (fun _ _ _ h => h) (Or.inl ⟨by rfl, ?_⟩) HSW ?_
 rotate_left
 · (intro wy hSw; obtain ⟨s1, s2x, s3⟩ := hSw; go_simp; try with_reducible rfl)
 try simp only [Act.put]
 refine wpAnyE_take (i := 15) (v := ?_) rfl (by kernel_rfl) (by kernel_rfl) (by kernel_rfl) (by kernel_rfl) (fun _ _ _ h => h) (Or.inl ⟨by rfl, ?_⟩) HSW ?_
 rotate_left
 · (intro wy hSw; obtain ⟨s1, s2x, s3⟩ := hSw; go_simp; try with_reducible rfl)
 try simp only [Act.put]
 refine wpAnyE_take (i := 16) (v := ?_) rfl (by kernel_rfl) (by kernel_rfl) (by kernel_rfl) (by kernel_rfl) (fun _ _ _ h => h) (Or.inl ⟨by rfl, ?_⟩) HSW ?_
 rotate_left
 · (intro wy hSw; obtain ⟨s1, s2x, s3⟩ := hSw; go_simp; try with_reducible rfl)
 try simp only [Act.put]
 refine wpAnyE_take (i := 17) (v := ?_) rfl (by kernel_rfl) (by kernel_rfl) (by kernel_rfl) (by kernel_rfl) (fun _ _ _ h => h) (Or.inl ⟨by rfl, ?_⟩) HSW ?_
 rotate_left
 · (intro wy hSw; obtain ⟨s1, s2x, s3⟩ := hSw; go_simp; try with_reducible rfl)
 try simp only [Act.put]
 obtain ⟨v1, v2, v3⟩ := HSW
 refine wpAnyE_one (i := 5) (by kernel_rfl) rfl (fun K hK => ?_)
 go_simp
 refine hK _ _ ⟨v1, v2, v3⟩ ?_
 try simp only [Act.put, List.setIfInBounds_toArray]
 clear v1 v2 v3
 refine wpAnyE_one (i := 6) (by kernel_rfl) rfl (fun K hK => ?_)
 refine step_call1_d (by rfl) (some 24) (by rfl) (.tmp 23) (by rfl) (.pointer (some ⟨x0.1.g, 0, none⟩)) rfl (enters_of Tryz.func33 (by kernel_rfl) rfl) _ (KF.out W HTW.out) ?_
 rintro e w2 ⟨ht2, hq2, qA, qc, Q, rfl, hrec2, hco2, _⟩
 obtain ⟨hQQ, hQ2, _⟩ := HR.out.rise HX0.out hco2
 have hQp : 0 < Q.length := by
   obtain ⟨ha, he⟩ := List.getElem?_eq_some_iff.1 HX0.out
   have h1 := HR.out.pne ha
   rw [he] at h1
   omega
 obtain ⟨qb, qo, hqA, _, hqcl⟩ := hrec2.rd.row4 hQp
 subst hqA
 have b0 := (hqcl 0 hQp).1
 have hin2 := hrec2.inn Q[0] (List.getElem_mem hQp)
 have HFIRST : Hid (R.head?.map Rv.k = some (Q[0]).k) := hid (by
   obtain ⟨ha, he⟩ := List.getElem?_eq_some_iff.1 HX0.out
   have h1 : 0 < t.ps[0].2.length := by rw [he]; omega
   obtain ⟨h2, h3⟩ := HR.out.at_ ha h1
   have h5 : t.ps[0].2 = x0.2 := by rw [he]
   have hco3 : Q.map Rv.core = t.ps[0].2.map Rv.core := by rw [he]; exact hco2
   have h4 : R.head? = some R[t.off 0 + 0] := by
     rw [List.head?_eq_getElem?]
     exact List.getElem?_eq_getElem h2
   rw [h4, Option.map_some, h3, core_k (core_at hco3 hQp h1)])
 obtain ⟨fA, fc, fk, f0, HFK, HFF, hfl⟩ : ∃ (fA : Option Addr) (fc : Nat) (fk : List UInt8), w2.cell? ⟨qb, qo, none⟩ = some (.slice fA fk.length fc) ∧ Hid (HBs w2 base fA fk) ∧ Hid (R.head?.map Rv.k = some fk) ∧ fk.length ≤ 70000 := ⟨_, _, _, by simpa using b0, hid hin2.1.1, HFIRST, hin2.2.1⟩
 have hQi : (0 : Int) < (Q.length : Int) := by omega
 refine ⟨_, rfl, ?_⟩
 have hq12 := HQW.out.trans hq2
 have hS2 := HSB.out w2 ht2 hq12
 have HT2 := hid ht2
 have HQ2 := hid hq12
 have HZ2 := hid (hq2.hbs (Nat.le_refl _) HZW.out)
 clear ht2 hq2 hrec2 hco2 hqcl b0 hin2 HFIRST hq12 hQQ
 refine hK _ _ hS2 ?_
 try simp only [Act.put, List.setIfInBounds_toArray]
 refine wpAnyE_one (i := 7) (by kernel_rfl) rfl (fun K hK => ?_)
 go_simp
 refine hK _ _ hS2 ?_
 try simp only [Act.put, List.setIfInBounds_toArray]
 refine wpAnyE_one (i := 8) (by kernel_rfl) rfl (fun K hK => ?_)
 go_simp
 refine hK _ _ hS2 ?_
 try simp only [Act.put, List.setIfInBounds_toArray]
 refine wpAnyE_one (i := 9) (by kernel_rfl) rfl (fun K hK => ?_)
 go_simp
 refine hK _ _ hS2 ?_
 try simp only [Act.put, List.setIfInBounds_toArray]
 refine wpAnyE_one (i := 10) (by kernel_rfl) rfl (fun K hK => ?_)
 refine step_call1_d (by rfl) (some 28) (by rfl) (.tmp 27) (by rfl) (.slice fA fk.length fc) rfl (enters_of Tryz.func34 (by kernel_rfl) rfl) _ (cloneU_any fA fc fk w2 HFK.out.rd (by omega)) ?_
 rintro e w3 ⟨A1, c1, rfl, ho1, hb1⟩
 refine ⟨_, rfl, ?_⟩
 have HT3 := hid (HT2.out.call hb1)
 have HQ3 := hid (HQ2.out.trans (Qry.of (t := t) hb1 HT2.out.size))
 have hS3 := HSB.out w3 HT3.out HQ3.out
 have HO1 := hid ho1
 have HZ3 := hid (HZ2.out.below hb1)
 clear hb1 ho1
 refine hK _ _ hS3 ?_
 try simp only [Act.put, List.setIfInBounds_toArray]
 refine wpAnyE_one (i := 18) (by kernel_rfl) rfl (fun K hK => ?_)
 refine step_call1_d (by rfl) (some 36) (by rfl) (.tmp 35) (by rfl) (.slice zA zk.length zc) rfl (enters_of Tryz.func34 (by kernel_rfl) rfl) _ (cloneU_any zA zc zk w3 HZ3.out.rd (by omega)) ?_
 rintro e w4 ⟨A2, c2, rfl, ho2, hb2⟩
 refine ⟨_, rfl, ?_⟩
 have HT4 := hid (HT3.out.call hb2)
 have HQ4 := hid (HQ3.out.trans (Qry.of (t := t) hb2 HT3.out.size))
 have hS4 := HSB.out w4 HT4.out HQ4.out
 have HO14 := hid ((HO1.out.below hb2).mono HT2.out.size)
 have HO24 := hid (ho2.mono HT3.out.size)
 clear hb2 ho2
 refine hK _ _ hS4 ?_
 try simp only [Act.put, List.setIfInBounds_toArray]
 refine wpAnyE_one (i := 19) (by kernel_rfl) rfl (fun K hK => ?_)
 go_simp
 refine hK _ _ hS4 ?_
 try simp only [Act.put, List.setIfInBounds_toArray]
 refine wpAnyE_last (by kernel_rfl) (by kernel_rfl) rfl (fun K hK => ?_)
 go_simp
 refine hK _ _ ?_
 clear hS4 hS3 hS2
 go_wp2_with fail
 go_ret2
 exact ⟨HT4.out, HQ1.out.trans HQ4.out, A1, A2, c1, c2, fk, zk, rfl, HO14.out, HO24.out, HFF.out, HLZ.out⟩
set_option maxHeartbeats 2000000 in
set_option maxRecDepth 100000 in
theorem awake_any (w : World) : Calls Tryz.prog 5 #[] w fun e w' => e = .returned (.bool true) ∧ Below w.heap.size w w' := by
 obtain ⟨q, hq⟩ : ∃ q : Rv, q = ⟨some ⟨w.heap.size, 0, none⟩, 1, [97], 2, false, none, 0, []⟩ := ⟨_, rfl⟩
 obtain ⟨W, hW⟩ : ∃ W, (w.alloc (.cells #[.int .u8 97] 5 (1, 2))).alloc (.cells #[.slice (some ⟨w.heap.size, 0, none⟩) 1 1, .int .i64 2, .bool false, .slice none 0 0] 35) = W := ⟨_, rfl⟩
 have hbW : Below w.heap.size w W := by rw [← hW]; exact below_al2 w _ _
 have hsz : W.heap.size = w.heap.size + 2 := by rw [← hW]; simp
 have hrd : RdRv W W.heap.size (some ⟨w.heap.size + 1, 0, none⟩) [q] := by
   refine ⟨?_, fun r hr => ?_⟩
   · have := rd_rec_new2 w (.cells #[.int .u8 97] 5 (1, 2)) q
     rw [hsz, ← hW]
     rw [hq] at this ⊢
     exact this
   · obtain rfl : r = q := by simpa using hr
     have h1 : RdB (w.alloc (.cells #[.int .u8 97] 5 (1, 2))) (w.heap.size + 1) (some ⟨w.heap.size, 0, none⟩) [97] := by
       have := rdB_one (w := w.alloc (.cells #[.int .u8 97] 5 (1, 2))) (g := w.heap.size) (x := 97) (b := 97) (by rw [cell_of_row _ w.heap.size 0 _ _ (1, 2) (heap_alloc_new w _)]; rfl) rfl (by simp)
       simpa using this
     have hb2 : Below (w.heap.size + 1) (w.alloc (.cells #[.int .u8 97] 5 (1, 2))) W := by
       rw [← hW]
       exact (Below.refl _ _).alloc (by simp) _
     have h2 := (h1.below hb2 (Nat.le_refl _)).more (show w.heap.size + 1 ≤ W.heap.size by omega)
     rw [hq]
     exact ⟨h2, Reads.none_, by simp, by simp⟩
 have hbe : Tb.build [q] 64 10 = Tb.build [Tb.one] 64 10 := Tb.build_core (by rw [hq]; rfl) _ _
 have KB := tbuild_any (some ⟨w.heap.size + 1, 0, none⟩) 1 [q] 64 10 W hrd (by simp)
 rw [hbe, Tb.one_built] at KB
 have HIS0 := hid (Tb.is_of Tb.one_built)
 obtain ⟨b, hb⟩ : ∃ b, b = (Tb.build [Tb.one] 64 10).2 := ⟨_, rfl⟩
 rw [← hb] at KB HIS0
 have HLB := hid (HIS0.out.long (by simp))
 have HK := hid KB
 have HBW := hid hbW
 have HSZ := hid hsz
 have HW := hid hW
 clear KB hb hbe hrd hq hsz hbW hW
 have kc := fun (w : World) (C : Array Value) (n c : Nat) => Lib.run_convert_bytes_const (P := Tryz.prog) w 22 5 C n c Tryz.underlying22 Tryz.underlying5
 go_enter Tryz.func5, Tryz.ntmps5
 go_wp2_with fail
 rw [HW.out]
 refine HK.out.mono ?_
 rintro e w1 ⟨hb1, ⟨h0, _⟩ | ⟨_, AA, ac, rfl, hoa⟩⟩
 · exact absurd rfl h0
 have HB1 := hid (HBW.out.trans (hb1.mono HBW.out.size))
 have KO := topen_any AA ac b w1 hoa.rd (by have := HLB.out; omega) hoa.cap hoa.cap_le
 have HK2 := hid KO
 clear KO hb1 hoa
 go_wp2_with fail
 refine HK2.out.mono ?_
 rintro e w2 ⟨hb2, ⟨_, hno⟩ | ⟨R, ti, base, s, t, rfl, _, hat, hR, _, hall⟩⟩
 · exact absurd HIS0.out (hno _ _ _)
 have hlen := congrArg List.length (hall _ _ _ HIS0.out)
 simp only [List.length_map, List.length_singleton] at hlen
 have HB2 := hid (HB1.out.trans (hb2.mono HB1.out.size))
 have hl1 : Calls Tryz.prog 10 #[.pointer (some ⟨ti.gt, 0, none⟩)] w2 fun e w' => e = .returned (.int .i64 1) ∧ w2 = w' := by
   have h1 := tlen_any base (fun _ => False) ti w2 hat
   rw [hR.many, ← hlen] at h1
   exact h1
 have HL := hid hl1
 clear hb2 hlen hat hR hall hl1
 go_wp2_with fail
 refine HL.out.mono ?_
 rintro e w3 ⟨rfl, rfl⟩
 go_wp2_with fail
 go_ret
 exact ⟨rfl, HB2.out⟩
def NoF : Nat → Prop := fun _ => False
structure ToR (base : Nat) (t : Ti) (gl : Nat) (LA : Option Addr) (lc : Nat) (L : List Rv) (hv : Value) (w : World) (W : World) : Prop where
 tab : TbAt base NoF t W
 qry : Qry base t w W
 lst : W.heap[gl]? = some (.cells #[.slice LA L.length lc, hv] 33)
 rd : RdRv W W.heap.size LA L
section
variable {base gl lc : Nat} {t : Ti} {LA : Option Addr} {L : List Rv} {hv : Value} {w W W' : World} {F : Nat → Prop}
theorem ToR.step (h : ToR base t gl LA lc L hv w W) (ht : TbAt base NoF t W') (hq : Qry base t W W') : ToR base t gl LA lc L hv w W' :=
 ⟨ht, h.qry.trans hq, (hq.tagd _ _ _ _ h.lst (by decide) (by decide)).trans h.lst, hq.rdRv h.tab h.rd⟩
theorem ToR.call (h : ToR base t gl LA lc L hv w W) (hb : Below W.heap.size W W') : ToR base t gl LA lc L hv w W' := h.step (h.tab.call hb) (Qry.of hb h.tab.size)
end
structure Got (base : Nat) (R : List Rv) (key : List UInt8) (seq : Int) (gx : Nat) (r : Rv) (is : Bool) (W : World) : Prop where
 box : W.heap[gx]? = some (.cells #[.slice r.kA r.k.length r.kc, .int .i64 r.seq, .bool r.del, .slice r.vA r.v.length r.vc] 35)
 hk : HBs W base r.kA r.k
 hval : HBs W base r.vA r.v
 kc : r.k.length ≤ r.kc
 vc : r.v.length ≤ r.vc
 is_ : is = (Tb.get R key seq).isSome
 core : r.core = match Tb.get R key seq with | none => ([], 0, false, []) | some q => q.core
theorem Got.step {base : Nat} {t : Ti} {R : List Rv} {key : List UInt8} {seq : Int} {gx : Nat} {r : Rv} {is : Bool} {W W' : World} (h : Got base R key seq gx r is W) (hq : Qry base t W W') : Got base R key seq gx r is W' :=
 ⟨(hq.tagd _ _ _ _ h.box (by decide) (by decide)).trans h.box, hq.hbs (Nat.le_refl _) h.hk, hq.hbs (Nat.le_refl _) h.hval, h.kc, h.vc, h.is_, h.core⟩
def TgV (base : Nat) (R : List Rv) (key : List UInt8) (seq : Int) (r : Rv) (is : Bool) (W : World) : Prop := HBs W base r.kA r.k ∧ HBs W base r.vA r.v ∧ r.k.length ≤ r.kc ∧ r.v.length ≤ r.vc ∧ is = (Tb.get R key seq).isSome ∧ r.core = match Tb.get R key seq with | none => ([], 0, false, []) | some q => q.core
theorem hbs_nil (W : World) (base : Nat) : HBs W base none [] := ⟨RdB.nil, fun h => absurd rfl h⟩
theorem tgetV_any (base : Nat) (F : Nat → Prop) (t : Ti) (R : List Rv) (bits : Nat) (hR : TbR t R bits) (kA : Option Addr) (kc : Nat) (key : List UInt8) (seq : Int) (w : World) (h : TbAt base F t w) (hk : HBs w base kA key) (hkl : key.length ≤ 10000) (hkc : key.length ≤ kc) (hn : t.ps.length ≤ 100000) :
   Calls Tryz.prog 19 #[.pointer (some ⟨t.gt, 0, none⟩), .slice kA key.length kc, .int .i64 seq] w fun e w' => TbAt base F t w' ∧ Qry base t w w' ∧ ∃ (r : Rv) (is : Bool), e = .returned (.tuple #[r.val, .bool is]) ∧ TgV base R key seq r is w' :=
 (tget_any base F t R bits hR kA kc key seq w h hk hkl hkc hn).mono fun e w' ⟨h1, h2, h3⟩ => ⟨h1, h2, by
   rcases h3 with ⟨hg, rfl⟩ | ⟨r, r', hg, hc, rfl, h4, h5⟩
   · exact ⟨⟨none, 0, [], 0, false, none, 0, []⟩, false, rfl, hbs_nil _ _, hbs_nil _ _, Nat.le_refl _, Nat.le_refl _, by rw [hg]; rfl, by rw [hg]; rfl⟩
   · exact ⟨r', true, rfl, h4.hbs, h5.hbs, h4.cap, h5.cap, by rw [hg]; rfl, by rw [hg]; exact hc⟩⟩
theorem TgV.step {base : Nat} {t : Ti} {R : List Rv} {key : List UInt8} {seq : Int} {r : Rv} {is : Bool} {W W' : World} (h : TgV base R key seq r is W) (hq : Qry base t W W') : TgV base R key seq r is W' := ⟨hq.hbs (Nat.le_refl _) h.1, hq.hbs (Nat.le_refl _) h.2.1, h.2.2⟩
theorem TgV.got {base : Nat} {R : List Rv} {key : List UInt8} {seq : Int} {gx : Nat} {r : Rv} {is : Bool} {W : World} (h : TgV base R key seq r is W) (hb : W.heap[gx]? = some (.cells #[.slice r.kA r.k.length r.kc, .int .i64 r.seq, .bool r.del, .slice r.vA r.v.length r.vc] 35)) : Got base R key seq gx r is W := ⟨hb, h.1, h.2.1, h.2.2.1, h.2.2.2.1, h.2.2.2.2.1, h.2.2.2.2.2⟩
theorem box_late {base : Nat} {t : Ti} {R : List Rv} {key : List UInt8} {seq : Int} {wr X w5 : World} {r : Rv} {is : Bool} (hs : base ≤ wr.heap.size) (hq0 : Qry base t wr X) (hb : w5.heap[wr.heap.size]? = some zObj) (h1 : TbAt base (fun g => g = wr.heap.size) t w5) (h2 : Qry base t X w5) (h3 : TgV base R key seq r is w5) :
   ∃ W6, (((w5.setCell ⟨wr.heap.size, 0, none⟩ (.slice r.kA r.k.length r.kc)).setCell ⟨wr.heap.size, 1, none⟩ (.int .i64 r.seq)).setCell ⟨wr.heap.size, 2, none⟩ (.bool r.del)).setCell ⟨wr.heap.size, 3, none⟩ (.slice r.vA r.v.length r.vc) = W6 ∧ TbAt base NoF t W6 ∧ Qry base t wr W6 ∧ Got base R key seq wr.heap.size r is W6 := by
 have hg := grownBy_set4 w5 wr.heap.size (.slice r.kA r.k.length r.kc) (.int .i64 r.seq) (.bool r.del) (.slice r.vA r.v.length r.vc)
 have hnb : NoB w5 (some wr.heap.size) := fun g e => by
   injection e with e; subst e
   exact ⟨_, _, _, hb, by decide⟩
 have hge : ∀ g, some wr.heap.size = some g → base ≤ g := fun g e => by injection e with e; omega
 refine ⟨_, rfl, (h1.foreign hg (fun g e => by
   injection e with e; subst e
   exact ⟨rfl, hs, _, _, hb⟩)).less (fun _ h => h.elim), (hq0.trans h2).new hg hs (fun g e => by injection e with e; omega), ?_⟩
 have h4 : TgV base R key seq r is ((((w5.setCell ⟨wr.heap.size, 0, none⟩ (.slice r.kA r.k.length r.kc)).setCell ⟨wr.heap.size, 1, none⟩ (.int .i64 r.seq)).setCell ⟨wr.heap.size, 2, none⟩ (.bool r.del)).setCell ⟨wr.heap.size, 3, none⟩ (.slice r.vA r.v.length r.vc)) := ⟨h3.1.grown hg hnb hge, h3.2.1.grown hg hnb hge, h3.2.2⟩
 exact h4.got (heap_set4 hb)
theorem box_early {base gl lc : Nat} {t : Ti} {LA : Option Addr} {L : List Rv} {hv : Value} {R : List Rv} {key : List UInt8} {seq : Int} {w wr w5 : World} {r : Rv} {is : Bool} (h : ToR base t gl LA lc L hv w wr) (h1 : TbAt base NoF t w5) (h2 : Qry base t wr w5) (h3 : TgV base R key seq r is w5) :
   Got base R key seq w5.heap.size r is (w5.alloc (.cells #[.slice r.kA r.k.length r.kc, .int .i64 r.seq, .bool r.del, .slice r.vA r.v.length r.vc] 35)) ∧ ToR base t gl LA lc L hv w (w5.alloc (.cells #[.slice r.kA r.k.length r.kc, .int .i64 r.seq, .bool r.del, .slice r.vA r.v.length r.vc] 35)) ∧ Qry base t wr (w5.alloc (.cells #[.slice r.kA r.k.length r.kc, .int .i64 r.seq, .bool r.del, .slice r.vA r.v.length r.vc] 35)) := by
 have hb : Below w5.heap.size w5 (w5.alloc (.cells #[.slice r.kA r.k.length r.kc, .int .i64 r.seq, .bool r.del, .slice r.vA r.v.length r.vc] 35)) := (Below.refl _ _).alloc (Nat.le_refl _) _
 have hq := Qry.of (t := t) hb h1.size
 exact ⟨(h3.step hq).got (heap_alloc_new w5 _), (h.step h1 h2).call hb, h2.trans hq⟩
def RgV (L : List Rv) (key : List UInt8) (seq : Int) (LA : Option Addr) (r : Rv) (is : Bool) : Prop := (∀ X, RdRv X X.heap.size LA L → Rv.Ok X X.heap.size r) ∧ is = (Tb.get L key seq).isSome ∧ r.core = match Tb.get L key seq with | none => ([], 0, false, []) | some q => q.core
theorem rgetV_any (gl : Nat) (A : Option Addr) (c : Nat) (L : List Rv) (hv : Value) (kA : Option Addr) (kc : Nat) (key : List UInt8) (seq : Int) (w : World) (hbox : w.heap[gl]? = some (.cells #[.slice A L.length c, hv] 33)) (hr : RdRv w w.heap.size A L) (hk : RdB w w.heap.size kA key) (hl : L.length ≤ 1000000) :
   Calls Tryz.prog 35 #[.pointer (some ⟨gl, 0, none⟩), .slice kA key.length kc, .int .i64 seq] w fun e w' => Below w.heap.size w w' ∧ ∃ (r : Rv) (is : Bool), e = .returned (.tuple #[r.val, .bool is]) ∧ RgV L key seq A r is :=
 (rget_any gl A c L hv kA kc key seq w hbox hr hk hl).mono fun e w' ⟨h1, h3⟩ => ⟨h1, by
   rcases h3 with ⟨hg, rfl⟩ | ⟨r, hm, hg, rfl⟩
   · exact ⟨⟨none, 0, [], 0, false, none, 0, []⟩, false, rfl, fun X _ => ⟨RdB.nil, RdB.nil, Nat.le_refl _, Nat.le_refl _⟩, by rw [hg]; rfl, by rw [hg]; rfl⟩
   · exact ⟨r, true, rfl, fun X hX => hX.ok r hm, by rw [hg]; rfl, by rw [hg]⟩⟩
theorem step_call3_d {P : Program} {w : World} {ops : Array Oper} {o : Oper} {a : Act} {K : Act → World → Prop} {Q : Exit → Act → World → Prop} {E : Prop} (hgd : o.guard = none) (d : Option Tmp) (hd : o.dst = d) {f : Nat} (x y z : Operand) {ats : Array TypeId}
   (ho : o.op = .call { callee := .value (.func f), args := #[x, y, z], argTypes := ats }) (vx vy vz : Value) (hx : a.eval x = vx) (hy : a.eval y = vy) (hz : a.eval z = vz) (hen : ∀ args w, (callFunc f args).run P w = .ok (.enter f args) w) (R : Ending → World → Prop) (hc : Calls P f #[vx, vy, vz] w R)
   (h : ∀ e w', R e w' → ∃ v, e = .returned v ∧ K (a.put d v) w') : if Region.wanted o (yielded ops a.tmps) = true then Oper.wp P o a w K Q else E := by
 subst hd hx hy hz
 have hw : Region.wanted o (yielded ops a.tmps) = true := by simp [Region.wanted, hgd]
 rw [if_pos hw]
 unfold Oper.wp execOp
 have e1 : a.eval (.func f) = .func (.func f) #[] #[] := rfl
 simp [ho, resolve, invoke, Deferred.ofValue, e1, hen]
 rw [Oper.upon_enter]
 refine hc.mono ?_
 intro e w' hr
 obtain ⟨v, rfl, hk⟩ := h e w' hr
 exact hk
theorem get_core {L R : List Rv} (h : L.map Rv.core = R.map Rv.core) (key : List UInt8) (seq : Int) : (Tb.get L key seq).map Rv.core = (Tb.get R key seq).map Rv.core := by
 unfold Tb.get
 have e : ∀ l : List Rv, (l.find? (fun r => r.k == key && decide (r.seq ≤ seq))).map Rv.core = (l.map Rv.core).find? (fun c => c.1 == key && decide (c.2.1 ≤ seq)) := fun l => by
   rw [List.find?_map]; rfl
 rw [e, e, h]
theorem fromL_core {L R : List Rv} (h : L.map Rv.core = R.map Rv.core) (key : List UInt8) : (Tb.fromL L key).map Rv.core = (Tb.fromL R key).map Rv.core := by
 unfold Tb.fromL
 have e : ∀ l : List Rv, (l.filter (fun r => !Op.bytesLess r.k key)).map Rv.core = (l.map Rv.core).filter (fun c => !Op.bytesLess c.1 key) := fun l => by
   rw [List.filter_map]; rfl
 rw [e, e, h]
theorem TbR.fewp {t : Ti} {R : List Rv} {bits : Nat} (h : TbR t R bits) : t.ps.length ≤ 20000 := by
 have key : ∀ j, j ≤ t.ps.length → j ≤ t.off j := fun j => by
   induction j with
   | zero => intro _; exact Nat.zero_le _
   | succ j ih =>
     intro hj
     have h1 := ih (by omega)
     have h2 := t.off_succ (show j < t.ps.length by omega)
     have h3 := h.pne (show j < t.ps.length by omega)
     omega
 have h1 := key _ (Nat.le_refl _)
 rw [h.off_all] at h1
 have := h.len
 omega
set_option maxHeartbeats 4000000 in
set_option maxRecDepth 100000 in
theorem told_any (base : Nat) (t : Ti) (R : List Rv) (bits : Nat) (hR : TbR t R bits) (gl : Nat) (LA : Option Addr) (lc : Nat) (L : List Rv) (hv : Value) (hL : L.map Rv.core = R.map Rv.core) (qA : Option Addr) (qc : Nat) (asks : List Rv) (w : World) (h : ToR base t gl LA lc L hv w w) (hq : RdRv w base qA asks) :
   Calls Tryz.prog 11 #[.pointer (some ⟨t.gt, 0, none⟩), .pointer (some ⟨gl, 0, none⟩), .slice qA asks.length qc] w fun e w' => e = .returned (.bool true) ∧ Qry base t w w' := by
 have HR := hid hR
 have HL := hid hL
 have HH := hid h
 have HQ := hid hq
 have hn := hR.fewp
 have hlr : L.length ≤ 20000 := by
   have := congrArg List.length hL
   rw [List.length_map, List.length_map] at this
   have := hR.len
   omega
 have hsz := h.tab.size
 clear hR hL h hq
 go_enter Tryz.func11, Tryz.ntmps11
 go_wp2_with fail
 go_loopw [7] (fun i wr => ∃ k : Nat, k ≤ asks.length ∧ k ≤ 60 ∧ i = .int .i64 (k : Int) ∧ Hid (ToR base t gl LA lc L hv w wr)) (fun i _ => 60 - (intOf i).toNat)
 case atStart => exact ⟨0, by omega, by omega, rfl, HH⟩
 case round =>
   obtain ⟨k, hk, hk60, rfl, HT⟩ := hrel
   by_cases hlt : k < asks.length
   · by_cases hl60 : k < 60
     · have hqw := HQ.out.below HT.out.qry.below (Nat.le_refl _)
       obtain ⟨qb, qo, hA, hqb, hqcl⟩ := hqw.row4 (by omega)
       subst hA
       obtain ⟨a0, a1, _, _⟩ := hqcl k hlt
       have hok := hqw.ok _ (List.getElem_mem hlt)
       obtain ⟨y, hy⟩ : ∃ y, y = asks[k] := ⟨_, rfl⟩
       rw [← hy] at a0 a1 hok
       obtain ⟨yA, yc, yk, ys, yd, yvA, yvc, yv⟩ := y
       simp only at a0 a1 hok
       have hqbr : qb < wr.heap.size := Nat.lt_of_lt_of_le hqb HT.out.tab.size
       have HKEY : Hid (∀ X, Qry base t wr X → HBs X base yA yk ∧ X.cell? ⟨qb, qo + k * 4, none⟩ = some (.slice yA yk.length yc) ∧ X.cell? ⟨qb, qo + k * 4 + 1, none⟩ = some (.int .i64 ys)) := hid (fun X hX => ⟨⟨(hok.key.below hX.below (Nat.le_refl _)).more (Nat.le_trans HT.out.tab.size hX.below.size), fun hne g hg => .inl (by
           obtain ⟨ad, e, hlt2, _⟩ := hok.key.2 (List.length_pos_iff.2 hne)
           have e' : yA = some ad := e
           have hg' : blk yA = some g := hg
           rw [e'] at hg'
           have : ad.block = g := by simpa [blk] using hg'
           omega)⟩, (hX.below.cell (p := ⟨qb, _, none⟩) hqb).trans a0, (hX.below.cell (p := ⟨qb, _, none⟩) hqb).trans a1⟩)
       have hyc : yk.length ≤ yc := hok.kc
       have hk0 : (0 : Int) ≤ (k : Int) := by omega
       have hk1 : (k : Int) < (asks.length : Int) := by omega
       have hk2 : (k : Int) < 60 := by omega
       clear hqcl hok hy hqw
       by_cases hbig : (2000 : Int) < (yk.length : Int)
       · go_wp2_with fail
         go_ret
         exact ⟨rfl, HT.out.qry⟩
       · have KG : Hid (∀ (F : Nat → Prop) X, TbAt base F t X → Qry base t wr X → Calls Tryz.prog 19 #[.pointer (some ⟨t.gt, 0, none⟩), .slice yA yk.length yc, .int .i64 ys] X fun e w' => TbAt base F t w' ∧ Qry base t X w' ∧ ∃ (r : Rv) (is : Bool), e = .returned (.tuple #[r.val, .bool is]) ∧ TgV base R yk ys r is w') := hid (fun F X h1 h2 => tgetV_any base F t R bits HR.out yA yc yk ys X h1 (HKEY.out X h2).1 (by omega) hyc (by omega))
         have H1 : Hid (TbAt base NoF t wr.drew ∧ Qry base t wr wr.drew) := hid ⟨HT.out.tab.call ((Below.refl _ _).drew), Qry.of (t := t) ((Below.refl _ _).drew) HT.out.tab.size⟩
         have hbX : Below wr.heap.size wr (wr.alloc zObj).drew := ((Below.refl _ _).alloc (Nat.le_refl _) _).drew
         have H2 : Hid (TbAt base (fun g => g = wr.heap.size) t (wr.alloc zObj).drew ∧ Qry base t wr (wr.alloc zObj).drew ∧ (wr.alloc zObj).drew.heap[wr.heap.size]? = some zObj) := hid ⟨HT.out.tab.more (fun g hg => .inr (by omega)) hbX (fun g hg => by simp; omega), Qry.of (t := t) hbX HT.out.tab.size, heap_alloc_new wr _⟩
         clear hbX
         go_wp2_with fail
         go_cut [8, 9] (fun v8 v9 wx => ∃ (gx : Nat) (r : Rv) (is : Bool), v8 = .pointer (some ⟨gx, 0, none⟩) ∧ v9 = .bool is ∧ Hid (Got base R yk ys gx r is wx) ∧ Hid (ToR base t gl LA lc L hv w wx) ∧ Hid (Qry base t wr wx))
         case first =>
           go_region_with (first
             | (go_at_call 19; (with_reducible refine (KG.out _ _ H1.out.1 H1.out.2).mono ?_); rintro e w5 ⟨ht5, hq5, r, is, rfl, hgv⟩; have HT5 := hid ht5; have HQ5 := hid hq5; have HGV := hid hgv; clear ht5 hq5 hgv; obtain ⟨gA, gc, gk, gs, gd, gvA, gvc, gv⟩ := r; simp only [Rv.val])
             | (go_at_call 19; refine (KG.out _ _ H2.out.1 H2.out.2.1).mono ?_; rintro e w5 ⟨ht5, hq5, r, is, rfl, hgv⟩; have hz5 := (hq5.tagd _ _ _ _ H2.out.2.2 (by decide) (by decide)).trans H2.out.2.2; obtain ⟨⟨z0, z1, z2, z3⟩, f0, f1, f2, f3⟩ := zfacts hz5; have HZ5 := hid hz5; have HT5 := hid ht5; have HQ5 := hid hq5; have HGV := hid hgv; clear ht5 hq5 hgv hz5; obtain ⟨gA, gc, gk, gs, gd, gvA, gvc, gv⟩ := r; simp only [Rv.val]))
           all_goals
             go_wp2_with fail
             go_meet
             first
               | exact ⟨_, ⟨gA, gc, gk, gs, gd, gvA, gvc, gv⟩, is, rfl, rfl, hid (box_early HT.out HT5.out (H1.out.2.trans HQ5.out) HGV.out).1, hid (box_early HT.out HT5.out (H1.out.2.trans HQ5.out) HGV.out).2.1, hid (box_early HT.out HT5.out (H1.out.2.trans HQ5.out) HGV.out).2.2⟩
               | (obtain ⟨W6, hW6, b1, b2, b3⟩ := box_late HT.out.tab.size H2.out.2.1 HZ5.out HT5.out HQ5.out HGV.out
                  subst hW6
                  exact ⟨_, ⟨gA, gc, gk, gs, gd, gvA, gvc, gv⟩, is, rfl, rfl, hid b3, hid (HT.out.step b1 b2), hid b2⟩)
         case rest =>
           obtain ⟨gx, r, is, rfl, rfl, HGX, HTC, HQC⟩ := hcut
           have c0 := (HKEY.out _ HQC.out).2.1
           have c1 := (HKEY.out _ HQC.out).2.2
           have HKC := hid (HKEY.out _ HQC.out).1
           clear H1 H2 a0 a1
           obtain ⟨wd, hwd⟩ : ∃ wd, wd = wc := ⟨_, rfl⟩
           subst hwd
           have hqd : qb < wd.heap.size := Nat.lt_of_lt_of_le hqb HTC.out.tab.size
           have KR : Hid (∀ X, Below wd.heap.size wd X → Calls Tryz.prog 35 #[.pointer (some ⟨gl, 0, none⟩), .slice yA yk.length yc, .int .i64 ys] X fun e w' => Below X.heap.size X w' ∧ ∃ (r : Rv) (is : Bool), e = .returned (.tuple #[r.val, .bool is]) ∧ RgV L yk ys LA r is) := hid (fun X h1 => rgetV_any gl LA lc L hv yA yc yk ys X (HTC.out.call h1).lst (HTC.out.call h1).rd (HKC.out.below h1).rd (by omega))
           have G1 : Hid (Below wd.heap.size wd wd.drew) := hid ((Below.refl _ _).drew)
           have G2 : Hid (Below wd.heap.size wd (wd.alloc zObj).drew ∧ (wd.alloc zObj).drew.heap[wd.heap.size]? = some zObj) := hid ⟨((Below.refl _ _).alloc (Nat.le_refl _) _).drew, heap_alloc_new wd _⟩
           go_wp2_with fail
           go_cut [10, 11] (fun v10 v11 wx => ∃ (gw : Nat) (r2 : Rv) (is2 : Bool), v10 = .pointer (some ⟨gw, 0, none⟩) ∧ v11 = .bool is2 ∧ Hid (wx.heap[gw]? = some (.cells #[.slice r2.kA r2.k.length r2.kc, .int .i64 r2.seq, .bool r2.del, .slice r2.vA r2.v.length r2.vc] 35)) ∧ Hid (RgV L yk ys LA r2 is2) ∧ Hid (Below wd.heap.size wd wx))
           case first =>
             go_region_with (first
               | (go_at_call 35; (with_reducible refine (KR.out _ G1.out).mono ?_); rintro e w5 ⟨hb5, r2, is2, rfl, hgv⟩; have HB5 := hid (G1.out.trans (hb5.mono G1.out.size)); have HGV := hid hgv; clear hb5 hgv; obtain ⟨gA, gc, gk, gs, gd, gvA, gvc, gv⟩ := r2; simp only [Rv.val])
               | (go_at_call 35; refine (KR.out _ G2.out.1).mono ?_; rintro e w5 ⟨hb5, r2, is2, rfl, hgv⟩; have hz5 := (hb5.block wd.heap.size (Array.getElem?_eq_some_iff.1 G2.out.2).1).trans G2.out.2; obtain ⟨⟨z0, z1, z2, z3⟩, f0, f1, f2, f3⟩ := zfacts hz5; have HZ5 := hid hz5; have HB5 := hid (G2.out.1.trans (hb5.mono G2.out.1.size)); have HGV := hid hgv; clear hb5 hgv hz5; obtain ⟨gA, gc, gk, gs, gd, gvA, gvc, gv⟩ := r2; simp only [Rv.val]))
             all_goals
               go_wp2_with fail
               go_meet
               first
                 | exact ⟨_, ⟨gA, gc, gk, gs, gd, gvA, gvc, gv⟩, is2, rfl, rfl, hid (heap_alloc_new w5 _), HGV, hid (HB5.out.alloc HB5.out.size _)⟩
                 | exact ⟨_, ⟨gA, gc, gk, gs, gd, gvA, gvc, gv⟩, is2, rfl, rfl, hid (heap_set4 HZ5.out), HGV, hid ((((HB5.out.setCell (Nat.le_refl _) _).setCell (Nat.le_refl _) _).setCell (Nat.le_refl _) _).setCell (Nat.le_refl _) _)⟩
           case rest =>
             obtain ⟨gw, r2, is2, rfl, rfl, HGW, HRV, HBW⟩ := hcut
             have HT2 := hid (HTC.out.call HBW.out)
             have hqo := Qry.of (t := t) HBW.out HTC.out.tab.size
             have HGX2 := hid (HGX.out.step hqo)
             have HQ2 := hid (HQC.out.trans hqo)
             have hgc := get_core HL.out yk ys
             have HCO : Hid (r.core = r2.core) := hid (by
               rw [HGX.out.core, HRV.out.2.2]
               revert hgc
               cases Tb.get L yk ys <;> cases Tb.get R yk ys <;> intro h <;> simp_all)
             have HIS : is2 = is := by
               rw [HGX.out.is_, HRV.out.2.1]
               revert hgc
               cases Tb.get L yk ys <;> cases Tb.get R yk ys <;> intro h <;> simp_all
             subst HIS
             obtain ⟨x0, x1, x2, x3⟩ := rfacts HGX2.out.box
             obtain ⟨y0, y1, y2, y3⟩ := rfacts HGW.out
             have KS := hid (same_yes r r2 wc ⟨HGX2.out.hk.rd, HGX2.out.hval.rd, HGX2.out.kc, HGX2.out.vc⟩ (HRV.out.1 wc HT2.out.rd) HCO.out)
             obtain ⟨gA, gc, gk, gs, gd, gvA, gvc, gv⟩ := r
             obtain ⟨hA, hc, hk2, hs2, hd2, hvA, hvc, hv2⟩ := r2
             simp only [Rv.val] at x0 x1 x2 x3 y0 y1 y2 y3 KS
             clear c0 c1 hqo hgc
             go_wp2_with fail
             refine KS.out.mono ?_
             rintro e w3 ⟨rfl, hb3⟩
             obtain ⟨V, hV⟩ : ∃ V, w3.drew = V := ⟨_, rfl⟩
             have hb3V : Below wc.heap.size wc V := by rw [← hV]; exact hb3.drew
             have HTV := hid (HT2.out.call hb3V)
             have HQV := hid (HQ2.out.trans (Qry.of (t := t) hb3V HT2.out.tab.size))
             have HKV := hid (HKEY.out _ HQV.out).1
             have HS0 := (HKEY.out _ HQV.out).2
             have KF := hid (tfrom_any base NoF t R bits HR.out yA yc yk ys V HTV.out.tab HKV.out (by omega) hyc (by omega))
             have hqV : qb < V.heap.size := Nat.lt_of_lt_of_le hqb HTV.out.tab.size
             clear hb3 hb3V x0 x1 x2 x3 y0 y1 y2 y3
             go_wp2_with fail
             refine wp_region_E 25 (fun w' => w'.cell? ⟨qb, qo + k * 4, none⟩ = some (.slice yA yk.length yc) ∧ w'.cell? ⟨qb, qo + k * 4 + 1, none⟩ = some (.int .i64 ys)) (by kernel_rfl) ?_
             rw [hV]
             clear hV
             refine wpAnyE_take (i := 0) (v := ?_) rfl (by kernel_rfl) (by kernel_rfl) (by kernel_rfl) (by kernel_rfl) (fun _ _ _ h => h) (Or.inl ⟨by rfl, ?_⟩) HS0 ?_
             rotate_left
             · (intro wy hSw; obtain ⟨s1, s2x⟩ := hSw; go_simp; try with_reducible rfl)
             try simp only [Act.put, List.setIfInBounds_toArray]
             refine wpAnyE_take (i := 1) (v := ?_) rfl (by kernel_rfl) (by kernel_rfl) (by kernel_rfl) (by kernel_rfl) (fun _ _ _ h => h) (Or.inl ⟨by rfl, ?_⟩) HS0 ?_
             rotate_left
             · (intro wy hSw; obtain ⟨s1, s2x⟩ := hSw; go_simp; try with_reducible rfl)
             try simp only [Act.put]
             refine wpAnyE_take (i := 2) (v := ?_) rfl (by kernel_rfl) (by kernel_rfl) (by kernel_rfl) (by kernel_rfl) (fun _ _ _ h => h) (Or.inl ⟨by rfl, ?_⟩) HS0 ?_
             rotate_left
             · (intro wy hSw; obtain ⟨s1, s2x⟩ := hSw; go_simp; try with_reducible rfl)
             try simp only [Act.put]
             refine wpAnyE_take (i := 3) (v := ?_) rfl (by kernel_rfl) (by kernel_rfl) (by kernel_rfl) (by kernel_rfl) (fun _ _ _ h => h) (Or.inl ⟨by rfl, ?_⟩) HS0 ?_
             rotate_left
             · (intro wy hSw; obtain ⟨s1, s2x⟩ := hSw; go_simp; try with_reducible rfl)
             try simp only [Act.put]
             refine wpAnyE_take (i := 4) (v := ?_) rfl (by kernel_rfl) (by kernel_rfl) (by kernel_rfl) (by kernel_rfl) (fun _ _ _ h => h) (Or.inl ⟨by rfl, ?_⟩) HS0 ?_
             rotate_left
             · (intro wy hSw; obtain ⟨s1, s2x⟩ := hSw; go_simp; try with_reducible rfl)
             try simp only [Act.put]
             refine wpAnyE_take (i := 5) (v := ?_) rfl (by kernel_rfl) (by kernel_rfl) (by kernel_rfl) (by kernel_rfl) (fun _ _ _ h => h) (Or.inl ⟨by rfl, ?_⟩) HS0 ?_
             rotate_left
             · (intro wy hSw; obtain ⟨s1, s2x⟩ := hSw; go_simp; try with_reducible rfl)
             try simp only [Act.put]
             refine wpAnyE_take (i := 6) (v := ?_) rfl (by kernel_rfl) (by kernel_rfl) (by kernel_rfl) (by kernel_rfl) (fun _ _ _ h => h) (Or.inl ⟨by rfl, ?_⟩) HS0 ?_
             rotate_left
             · (intro wy hSw; obtain ⟨s1, s2x⟩ := hSw; go_simp; try with_reducible rfl)
             try simp only [Act.put]
             refine wpAnyE_take (i := 7) (v := ?_) rfl (by kernel_rfl) (by kernel_rfl) (by kernel_rfl) (by kernel_rfl) (fun _ _ _ h => h) (Or.inl ⟨by rfl, ?_⟩) HS0 ?_
             rotate_left
             · (intro wy hSw; obtain ⟨s1, s2x⟩ := hSw; go_simp; try with_reducible rfl)
             try simp only [Act.put]
             refine wpAnyE_take (i := 8) (v := ?_) rfl (by kernel_rfl) (by kernel_rfl) (by kernel_rfl) (by kernel_rfl) (fun _ _ _ h => h) (Or.inl ⟨by rfl, ?_⟩) HS0 ?_
             rotate_left
             · (intro wy hSw; obtain ⟨s1, s2x⟩ := hSw; go_simp; try with_reducible rfl)
             try simp only [Act.put]
             refine wpAnyE_take (i := 9) (v := ?_) rfl (by kernel_rfl) (by kernel_rfl) (by kernel_rfl) (by kernel_rfl) (fun _ _ _ h => h) (Or.inl ⟨by rfl, ?_⟩) HS0 ?_
             rotate_left
             · (intro wy hSw; obtain ⟨s1, s2x⟩ := hSw; go_simp; try with_reducible rfl)
             try simp only [Act.put]
             refine wpAnyE_take (i := 12) (v := ?_) rfl (by kernel_rfl) (by kernel_rfl) (by kernel_rfl) (by kernel_rfl) (fun _ _ _ h => h) (Or.inl ⟨by rfl, ?_⟩) HS0 ?_
             rotate_left
             · (intro wy hSw; obtain ⟨s1, s2x⟩ := hSw; go_simp; try with_reducible rfl)
             try simp only [Act.put]
             refine wpAnyE_take (i := 13) (v := ?_) rfl (by kernel_rfl) (by kernel_rfl) (by kernel_rfl) (by kernel_rfl) (fun _ _ _ h => h) (Or.inl ⟨by rfl, ?_⟩) HS0 ?_
             rotate_left
             · (intro wy hSw; obtain ⟨s1, s2x⟩ := hSw; go_simp; try with_reducible rfl)
             try simp only [Act.put]
             refine wpAnyE_take (i := 14) (v := ?_) rfl (by kernel_rfl) (by kernel_rfl) (by kernel_rfl) (by kernel_rfl) (fun _ _ _ h => h) (Or.inl ⟨by rfl, ?_⟩) HS0 ?_
             rotate_left
             · (intro wy hSw; obtain ⟨s1, s2x⟩ := hSw; go_simp; try with_reducible rfl)
             try simp only [Act.put]
             refine wpAnyE_take (i := 15) (v := ?_) rfl (by kernel_rfl) (by kernel_rfl) (by kernel_rfl) (by kernel_rfl) (fun _ _ _ h => h) (Or.inl ⟨by rfl, ?_⟩) HS0 ?_
             rotate_left
             · (intro wy hSw; obtain ⟨s1, s2x⟩ := hSw; go_simp; try with_reducible rfl)
             try simp only [Act.put]
             refine wpAnyE_take (i := 16) (v := ?_) rfl (by kernel_rfl) (by kernel_rfl) (by kernel_rfl) (by kernel_rfl) (fun _ _ _ h => h) (Or.inl ⟨by rfl, ?_⟩) HS0 ?_
             rotate_left
             · (intro wy hSw; obtain ⟨s1, s2x⟩ := hSw; go_simp; try with_reducible rfl)
             try simp only [Act.put]
             refine wpAnyE_take (i := 17) (v := ?_) rfl (by kernel_rfl) (by kernel_rfl) (by kernel_rfl) (by kernel_rfl) (fun _ _ _ h => h) (Or.inl ⟨by rfl, ?_⟩) HS0 ?_
             rotate_left
             · (intro wy hSw; obtain ⟨s1, s2x⟩ := hSw; go_simp; try with_reducible rfl)
             try simp only [Act.put]
             refine wpAnyE_take (i := 18) (v := ?_) rfl (by kernel_rfl) (by kernel_rfl) (by kernel_rfl) (by kernel_rfl) (fun _ _ _ h => h) (Or.inl ⟨by rfl, ?_⟩) HS0 ?_
             rotate_left
             · (intro wy hSw; obtain ⟨s1, s2x⟩ := hSw; go_simp; try with_reducible rfl)
             try simp only [Act.put]
             refine wpAnyE_take (i := 19) (v := ?_) rfl (by kernel_rfl) (by kernel_rfl) (by kernel_rfl) (by kernel_rfl) (fun _ _ _ h => h) (Or.inl ⟨by rfl, ?_⟩) HS0 ?_
             rotate_left
             · (intro wy hSw; obtain ⟨s1, s2x⟩ := hSw; go_simp; try with_reducible rfl)
             try simp only [Act.put]
             refine wpAnyE_take (i := 20) (v := ?_) rfl (by kernel_rfl) (by kernel_rfl) (by kernel_rfl) (by kernel_rfl) (fun _ _ _ h => h) (Or.inl ⟨by rfl, ?_⟩) HS0 ?_
             rotate_left
             · (intro wy hSw; obtain ⟨s1, s2x⟩ := hSw; go_simp; try with_reducible rfl)
             try simp only [Act.put]
             refine wpAnyE_take (i := 21) (v := ?_) rfl (by kernel_rfl) (by kernel_rfl) (by kernel_rfl) (by kernel_rfl) (fun _ _ _ h => h) (Or.inl ⟨by rfl, ?_⟩) HS0 ?_
             rotate_left
             · (intro wy hSw; obtain ⟨s1, s2x⟩ := hSw; go_simp; try with_reducible rfl)
             try simp only [Act.put]
             refine wpAnyE_take (i := 22) (v := ?_) rfl (by kernel_rfl) (by kernel_rfl) (by kernel_rfl) (by kernel_rfl) (fun _ _ _ h => h) (Or.inl ⟨by rfl, ?_⟩) HS0 ?_
             rotate_left
             · (intro wy hSw; obtain ⟨s1, s2x⟩ := hSw; go_simp; try with_reducible rfl)
             try simp only [Act.put]
             obtain ⟨v1, v2⟩ := HS0
             refine wpAnyE_one (i := 10) (by kernel_rfl) rfl (fun K hK => ?_)
             go_simp
             refine hK _ _ ⟨v1, v2⟩ ?_
             try simp only [Act.put, List.setIfInBounds_toArray]
             clear v1 v2
             refine wpAnyE_one (i := 11) (by kernel_rfl) rfl (fun K hK => ?_)
             refine step_call3_d (by rfl) (some 75) (by rfl) (.tmp 64) (.tmp 69) (.tmp 74) (by rfl) (.pointer (some ⟨t.gt, 0, none⟩)) (.slice yA yk.length yc) (.int .i64 ys) rfl rfl rfl (enters_of Tryz.func17 (by kernel_rfl) rfl) _ KF.out ?_
             rintro e w5 ⟨ht5, hq5, A5, c5, l5, rfl, hr5, hc5⟩
             refine ⟨_, rfl, ?_⟩
             have HT5 := hid (HTV.out.step ht5 hq5)
             have HQ5 := hid (HQV.out.trans hq5)
             have HR5 := hid hr5
             have HC5 := hid hc5
             have KR2 := hid (rfrom_any gl LA lc L hv yA yc yk ys w5 HT5.out.lst HT5.out.rd (HKEY.out _ HQ5.out).1.rd (by omega))
             clear ht5 hq5 hr5 hc5
             refine hK _ _ (HKEY.out _ HQ5.out).2 ?_
             try simp only [Act.put, List.setIfInBounds_toArray]
             refine wpAnyE_one (i := 23) (by kernel_rfl) rfl (fun K hK => ?_)
             refine step_call3_d (by rfl) (some 87) (by rfl) (.tmp 76) (.tmp 81) (.tmp 86) (by rfl) (.pointer (some ⟨gl, 0, none⟩)) (.slice yA yk.length yc) (.int .i64 ys) rfl rfl rfl (enters_of Tryz.func36 (by kernel_rfl) rfl) _ KR2.out ?_
             rintro e w6 ⟨hb6, A6, c6, l6, rfl, ho6, hl6⟩
             refine ⟨_, rfl, ?_⟩
             have HT6 := hid (HT5.out.call hb6)
             have HQ6 := hid (HQ5.out.trans (Qry.of (t := t) hb6 HT5.out.tab.size))
             have hrd6 : RdRv w6 w6.heap.size A6 l6 := ⟨ho6.rd, fun q hq => HT6.out.rd.ok q (by
               rw [hl6] at hq
               exact (List.mem_filter.1 (List.mem_of_mem_take hq)).1)⟩
             have hll5 : l5.length ≤ 1000000000 := by
               have h1 := congrArg List.length HC5.out
               rw [List.length_map, List.length_map, List.length_take] at h1
               have h2 := Tb.fromL_len R yk
               have h3 := HR.out.len
               omega
             have KSA := hid (sameAll_yes A5 A6 c5 c6 l5 l6 w6 ((HR5.out.below hb6 (Nat.le_refl _)).more hb6.size) hrd6 (by
               rw [HC5.out, hl6, List.map_take, List.map_take, fromL_core HL.out yk]) hll5)
             clear hb6 ho6 hl6 hrd6 hll5
             refine hK _ _ (HKEY.out _ HQ6.out).2 ?_
             try simp only [Act.put, List.setIfInBounds_toArray]
             refine wpAnyE_one (i := 24) (by kernel_rfl) rfl (fun K hK => ?_)
             refine step_call_d (by rfl) (some 88) (by rfl) (.tmp 75) (.tmp 87) (by rfl) (.slice A5 l5.length c5) (.slice A6 l6.length c6) rfl rfl (enters_of Tryz.func16 (by kernel_rfl) rfl) _ KSA.out ?_
             rintro e w7 ⟨rfl, hb7⟩
             refine ⟨_, rfl, ?_⟩
             have HT7 := hid (HT6.out.call hb7)
             have HQ7 := hid (HQ6.out.trans (Qry.of (t := t) hb7 HT6.out.tab.size))
             clear hb7
             refine hK _ _ (HKEY.out _ HQ7.out).2 ?_
             try simp only [Act.put, List.setIfInBounds_toArray]
             refine wpAnyE_last (by kernel_rfl) (by kernel_rfl) rfl (fun K hK => ?_)
             go_simp
             refine hK _ _ ?_
             go_wp2_with fail
             exact ⟨⟨k + 1, hlt, by omega, by simp, HT7⟩, by simp [intOf]; omega⟩
     · go_wp2_with fail
       go_ret
       exact ⟨rfl, HT.out.qry⟩
   · go_wp2_with fail
     go_ret
     exact ⟨rfl, HT.out.qry⟩
end Go.Proofs.YtgafionfojnieaaGreatDoor
