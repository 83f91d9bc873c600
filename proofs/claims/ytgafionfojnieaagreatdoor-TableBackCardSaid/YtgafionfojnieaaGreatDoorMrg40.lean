/- Parts of the proof, one behind the other: The contract of block.Parse.; Plain: the record of a pair.; Plain: what a table's bytes are, frame by frame.; Plain: what is known while a table's bytes are read. -/
import Derived.Test.YtgafionfojnieaaGreatDoorMrg39
namespace Go.Proofs.YtgafionfojnieaaGreatDoor
open Go.RowKit
open Lib (hid)
structure PaI (w : World) (n gx gb gl : Nat) (XV : Obj) (B : Option Addr) (d : Nat) (r : List UInt8) (OA : Option Addr) (OC : Nat) (o : List Pv) (NA : Option Addr) (NC : Nat) (hs : List Nat) (LA : Option Addr) (LC : Nat) (last : List UInt8) (wr : World) : Prop where
 x : wr.heap[gx]? = some XV
 bx : wr.heap[gb]? = some (.cells #[.slice B r.length d] 22)
 lx : wr.heap[gl]? = some (.cells #[.slice LA last.length LC] 22)
 out : OwnPv wr n OA OC o
 hds : OwnS Nc 1 wr n 3 NA NC hs
 last : Own wr n 5 LA LC last
 rest : HBs wr n B r
 cap : r.length ≤ d ∧ d ≤ 9223372036854775807
 below : Below n w wr
 ge : n ≤ gb ∧ n ≤ gl ∧ gb ≠ gl
 sz : n ≤ wr.heap.size
theorem OwnS.keep_ne {α : Type} {f : α → List Value} {n base c gb gl : Nat} {w w' : World} {e : TypeId} {A : Option Addr} {l : List α} {x y : Value} (h : OwnS f n w base e A c l) (he : e ≠ 22) (hb : w.heap[gb]? = some (.cells #[x] 22)) (hg : w.heap[gl]? = some (.cells #[y] 22))
   (hk : ∀ k, k < w.heap.size → k ≠ gb → k ≠ gl → w'.heap[k]? = w.heap[k]?) : OwnS f n w' base e A c l := h.keep (fun g hgg => by
 obtain ⟨_, cs, fr, h1⟩ := ownS_tag h hgg
 exact hk g (Array.getElem?_eq_some_iff.1 h1).1 (tag_ne2 h1 hb he) (tag_ne2 h1 hg he))
theorem Own.keep_ne {base c gb gl : Nat} {w w' : World} {A : Option Addr} {l : List UInt8} {x y : Value} (h : Own w base 5 A c l) (hb : w.heap[gb]? = some (.cells #[x] 22)) (hg : w.heap[gl]? = some (.cells #[y] 22))
   (hk : ∀ k, k < w.heap.size → k ≠ gb → k ≠ gl → w'.heap[k]? = w.heap[k]?) : Own w' base 5 A c l := own_keep2 h (fun g hgg => by
 obtain ⟨_, cs, fr, h1⟩ := own_tag h hgg
 exact hk g (Array.getElem?_eq_some_iff.1 h1).1 (tag_ne2 h1 hb (by decide)) (tag_ne2 h1 hg (by decide)))
theorem OwnS.kept_ne {α : Type} {f : α → List Value} {n base c : Nat} {w w' : World} {e T : TypeId} {A : Option Addr} {l : List α} {row : Option Nat} (h : OwnS f n w base e A c l) (hg : w.grownBy w' row) (hr : ∀ g, row = some g → ∃ cs fr, w.heap[g]? = some (.cells cs T fr)) (hT : e ≠ T) : OwnS f n w' base e A c l := by
 refine h.kept hg ?_
 rcases hA : blk A with _ | g
 · exact .inl rfl
 · refine .inr (fun e2 => ?_)
   obtain ⟨_, cs, fr, h1⟩ := ownS_tag h hA
   obtain ⟨cs', fr', h2⟩ := hr g e2.symm
   exact tag_ne2 h1 h2 hT rfl
theorem OwnPv.kept_ne {base c : Nat} {w w' : World} {T : TypeId} {A : Option Addr} {l : List Pv} {row : Option Nat} (h : OwnPv w base A c l) (hg : w.grownBy w' row) (hr : ∀ g, row = some g → ∃ cs fr, w.heap[g]? = some (.cells cs T fr)) (hT : 77 ≠ T) (hT2 : T ≠ 5) : OwnPv w' base A c l := by
 have nob : NoB w row := fun g hg => by
   obtain ⟨cs, fr, h1⟩ := hr g hg
   exact ⟨cs, T, fr, h1, hT2⟩
 exact ⟨h.row.kept_ne hg hr hT, fun p hp => ⟨(h.own p hp).1.kept_tag hg nob, (h.own p hp).2.kept_tag hg nob⟩⟩
section
variable {w wr w' : World} {n gx gb gl d OC NC LC : Nat} {XV : Obj} {B OA NA LA : Option Addr} {r : List UInt8} {o : List Pv} {hs : List Nat} {last : List UInt8}
theorem PaI.call (h : PaI w n gx gb gl XV B d r OA OC o NA NC hs LA LC last wr) (hb : Below wr.heap.size wr w') : PaI w n gx gb gl XV B d r OA OC o NA NC hs LA LC last w' :=
 ⟨(hb.block _ (Array.getElem?_eq_some_iff.1 h.x).1).trans h.x, (hb.block _ (Array.getElem?_eq_some_iff.1 h.bx).1).trans h.bx, (hb.block _ (Array.getElem?_eq_some_iff.1 h.lx).1).trans h.lx, h.out.call hb, h.hds.below hb, h.last.below hb, h.rest.below hb, h.cap, h.below.trans (hb.mono h.sz), h.ge, Nat.le_trans h.sz hb.size⟩
theorem PaI.grow (h : PaI w n gx gb gl XV B d r OA OC o NA NC hs LA LC last wr) {row : Option Nat} {T : TypeId} (hT : T ≠ 5 ∧ T ≠ 22 ∧ ∀ cs fr, XV ≠ .cells cs T fr) (hr : ∀ g, row = some g → n ≤ g ∧ ∃ cs fr, wr.heap[g]? = some (.cells cs T fr)) (hg : wr.grownBy w' row)
   {OA' NA' : Option Addr} {OC' NC' : Nat} {o' : List Pv} {hs' : List Nat} (ho : OwnPv w' n OA' OC' o') (hh : OwnS Nc 1 w' n 3 NA' NC' hs') : PaI w n gx gb gl XV B d r OA' OC' o' NA' NC' hs' LA LC last w' := by
 have nob : NoB wr row := fun g hgg => by
   obtain ⟨_, cs, fr, h1⟩ := hr g hgg
   exact ⟨cs, T, fr, h1, hT.1⟩
 have ne1 : ∀ k cs fr, wr.heap[k]? = some (.cells cs 22 fr) → some k ≠ row := fun k cs fr hk e => by
   obtain ⟨_, cs', fr', h1⟩ := hr k e.symm
   exact tag_ne2 hk h1 (fun e => hT.2.1 e.symm) rfl
 have nex : some gx ≠ row := fun e => by
   obtain ⟨_, cs', fr', h1⟩ := hr gx e.symm
   rw [h.x] at h1
   injection h1 with h1
   exact hT.2.2 _ _ h1
 exact ⟨(hg.block _ (Array.getElem?_eq_some_iff.1 h.x).1 nex).trans h.x, (hg.block _ (Array.getElem?_eq_some_iff.1 h.bx).1 (ne1 _ _ _ h.bx)).trans h.bx, (hg.block _ (Array.getElem?_eq_some_iff.1 h.lx).1 (ne1 _ _ _ h.lx)).trans h.lx, ho, hh,
   h.last.kept_tag hg nob, h.rest.grown hg nob (fun g hgg => (hr g hgg).1), h.cap, h.below.grown hg h.sz (fun g hgg => (hr g hgg).1), h.ge, Nat.le_trans h.sz hg.size⟩
theorem PaI.next (h : PaI w n gx gb gl XV B d r OA OC o NA NC hs LA LC last wr) (hx : gx ≠ gb ∧ gx ≠ gl) {p : Pr} {R3 : List UInt8} {q : Pv} {B3 LA' : Option Addr} {d3 LC' : Nat} (hn : NextOk wr n gb gl p R3 q B3 d3 LA' LC' w') : PaI w n gx gb gl XV B3 d3 R3 OA OC o NA NC hs LA' LC' p.k w' := by
 refine ⟨(hn.keep _ (Array.getElem?_eq_some_iff.1 h.x).1 hx.1 hx.2).trans h.x, hn.bx, hn.lx, ⟨h.out.row.keep_ne (by decide) h.bx h.lx hn.keep, fun q hq => ⟨(h.out.own q hq).1.keep_ne h.bx h.lx hn.keep, (h.out.own q hq).2.keep_ne h.bx h.lx hn.keep⟩⟩, h.hds.keep_ne (by decide) h.bx h.lx hn.keep, hn.last.mono h.sz, hn.rest, hn.cap, h.below.trans hn.below, h.ge, Nat.le_trans h.sz hn.size⟩
end
namespace Blk
theorem ents_snoc (E : Nat) : ∀ (l : List Pr) (i : Nat) (last : List UInt8) (m : List Pr), ents E i last (l ++ m) = ents E i last l ++ ents E (i + l.length) ((l.getLast?.map Pr.k).getD last) m := by
 intro l
 induction l with
 | nil => intro i last m; simp [ents]
 | cons p l ih =>
   intro i last m
   rw [List.cons_append, ents, ents, ih, List.append_assoc, List.length_cons]
   congr 2
   rw [show i + 1 + l.length = i + (l.length + 1) by omega]
   congr 1
   cases l with
   | nil => simp
   | cons q l =>
     rw [List.getLast?_cons_cons, List.getLast?_eq_some_getLast (by simp : q :: l ≠ [])]
     rfl
theorem hds_snoc (E : Nat) : ∀ (l : List Pr) (i o : Nat) (last : List UInt8) (p : Pr), hds E i o last (l ++ [p]) = hds E i o last l ++ (if (i + l.length) % E = 0 then [o + (ents E i last l).length] else []) := by
 intro l
 induction l with
 | nil => intro i o last p; simp [hds, ents]
 | cons q l ih =>
   intro i o last p
   rw [List.cons_append, hds, ih, hds, List.append_assoc, List.length_cons, ents, List.length_append]
   congr 2
   rw [show i + 1 + l.length = i + (l.length + 1) by omega, Nat.add_assoc o]
theorem WRel.off {b last rest : List UInt8} {o : List Pr} (h : WRel b o last rest) (hk : lastK o = last) {l0 : List Pr} (hw : WFb b l0) : b.length - 5 - 4 * many b = (ents 16 0 [] o).length + rest.length := by
 obtain ⟨l2, e1, e2⟩ := h l0 hw
 obtain ⟨_, _, _, h4, h5, _⟩ := tail_of hw
 have h6 := congrArg List.length h5
 rw [e1, ents_snoc, List.length_append, List.length_take] at h6
 have h7 : (o.getLast?.map Pr.k).getD [] = last := hk
 rw [h7, Nat.zero_add, ← e2] at h6
 omega
def HRel (b : List UInt8) (o : List Pr) (hs : List Nat) : Prop := ∀ l0, WFb b l0 → hs = hds 16 0 0 [] o
theorem HRel.step {b last rest : List UInt8} {o : List Pr} {hs : List Nat} {p : Pr} {Z : Nat} (h : HRel b o hs) (hr : WRel b o last rest) (hk : lastK o = last) (hZ : Z = b.length - 5 - 4 * many b) : HRel b (o ++ [p]) (hs ++ (if o.length % 16 = 0 then [Z - rest.length] else [])) := fun l0 hw => by
 rw [hds_snoc, ← h l0 hw, Nat.zero_add, Nat.zero_add]
 have := hr.off hk hw
 rw [show Z - rest.length = (ents 16 0 [] o).length by omega]
end Blk
set_option maxHeartbeats 4000000 in
set_option maxRecDepth 100000 in
theorem parse_any (A : Option Addr) (c : Nat) (b : List UInt8) (w : World) (h : RdB w w.heap.size A b) (hl : b.length ≤ 65536) (hc : b.length ≤ c) (hcc : c ≤ 9223372036854775807) :
   Calls Tryz.prog 25 #[.slice A b.length c] w (ParsedP w b) := by
 have HH := hid h
 have KS := hid (split_any A c b w h hl hc hcc)
 clear h
 go_enter Tryz.func25, Tryz.ntmps25
 go_wp2_with fail
 refine KS.out.mono ?_
 rintro e w1 ⟨hb1, ⟨rfl, hno⟩ | ⟨HA, HC, ev, rfl, h5, hown, hev1, hev2, h16⟩⟩
 · have HG := hid (fun o => parsed_no (b := b) (hb1.trans ((((Below.refl w1.heap.size w1).alloc (Nat.le_refl _) o)).mono hb1.size)) 3 (by decide) hno)
   clear hb1 hno
   go_wp2_with fail
   go_ret2
   exact HG.out _
 · obtain ⟨Z, hZ⟩ : ∃ Z, Z = b.length - 5 - 4 * Blk.many b := ⟨_, rfl⟩
   obtain ⟨M, hM⟩ : ∃ M, M = (Blk.headsOf b (Blk.many b)).length := ⟨_, rfl⟩
   rw [← hZ, ← hM]
   have HB1 := hid hb1
   have HOWN := hid hown
   have H16 := hid h16
   have HZM : Hid (Z = b.length - 5 - 4 * Blk.many b ∧ M = (Blk.headsOf b (Blk.many b)).length) := hid ⟨hZ, hM⟩
   have hZb : Z ≤ b.length := by omega
   clear hb1 hown h16 hZ hM h5
   go_wp2_with fail
   obtain ⟨X0, hX0⟩ : ∃ X0, X0 = w1.alloc (.cells #[.slice A Z c, .slice HA M HC, .int .i64 (ev : Int)] 130) := ⟨_, rfl⟩
   have hx0 : X0.heap[w1.heap.size]? = some (.cells #[.slice A Z c, .slice HA M HC, .int .i64 (ev : Int)] 130) := by rw [hX0]; exact heap_alloc_new _ _
   have hz0 : X0.heap.size = w1.heap.size + 1 := by rw [hX0]; simp
   have hb0 : Below w1.heap.size w1 X0 := by rw [hX0]; exact (Below.refl _ _).alloc (Nat.le_refl _) _
   rw [← hX0]
   have HX0 := hid hx0
   have HZ0 := hid hz0
   have HB0 := hid hb0
   have HKEEP : Hid (∀ w', Below X0.heap.size X0 w' → w'.cell? ⟨w1.heap.size, 0, none⟩ = some (.slice A Z c) ∧ Below X0.heap.size X0 w') := hid (fun w' hb => ⟨by
     rw [cell_of_row w' w1.heap.size 0 _ _ (0, 0) ((hb.block _ (by omega)).trans hx0)]; rfl, hb⟩)
   clear hX0 hx0 hz0 hb0
   go_region_held (fun w' => w'.cell? ⟨w1.heap.size, 0, none⟩ = some (.slice A Z c) ∧ Below X0.heap.size X0 w') (first | exact HKEEP.out _ ((Below.refl _ _).drew) | exact HKEEP.out _ ((((Below.refl X0.heap.size X0).alloc (Nat.le_refl _) _).alloc (by simp) _).drew) | exact HKEEP.out _ (((Below.refl X0.heap.size X0).alloc (Nat.le_refl _) _).alloc (by simp) _))
     (first | (go_at_call 58; refine (pairs_any A Z c _).mono ?_; rintro e w2 ⟨rfl, rfl⟩))
   obtain ⟨W6, hW6⟩ : ∃ W6, W6 = ((X0.alloc (.cells #[.slice A Z c] 22)).alloc (.cells #[.slice none 0 0] 22)).drew := ⟨_, rfl⟩
   rw [← hW6]
   have hb6 : Below X0.heap.size X0 W6 := by rw [hW6]; exact (((Below.refl X0.heap.size X0).alloc (Nat.le_refl _) _).alloc (by simp) _).drew
   have y0 : W6.heap[X0.heap.size]? = some (.cells #[.slice A Z c] 22) := by
     rw [hW6]
     show ((X0.alloc (.cells #[.slice A Z c] 22)).alloc (.cells #[.slice none 0 0] 22)).heap[X0.heap.size]? = _
     rw [heap_alloc_old _ _ (by simp)]; exact heap_alloc_new _ _
   have y1 : W6.heap[X0.heap.size + 1]? = some (.cells #[.slice none 0 0] 22) := by
     rw [hW6]
     show ((X0.alloc (.cells #[.slice A Z c] 22)).alloc (.cells #[.slice none 0 0] 22)).heap[X0.heap.size + 1]? = _
     have := heap_alloc_new (X0.alloc (.cells #[.slice A Z c] 22)) (.cells #[.slice none 0 0] 22)
     simpa using this
   have y2 := (hb6.block _ (by have := HZ0.out; omega)).trans HX0.out
   have hb16 : Below w1.heap.size w1 W6 := HB0.out.trans (hb6.mono HB0.out.size)
   have hbw6 : Below w.heap.size w W6 := HB1.out.trans (hb16.mono HB1.out.size)
   have hzl : (b.take Z).length = Z := by rw [List.length_take]; omega
   obtain ⟨r0, hr0⟩ : ∃ r0, r0 = b.take Z := ⟨_, rfl⟩
   have hrl : r0.length = Z := by rw [hr0]; exact hzl
   have hHB : HBs W6 X0.heap.size A r0 := ⟨by rw [hr0]; exact ((HH.out.take hZb).below hbw6 (Nat.le_refl _)).more hbw6.size, fun hne g hg => by
     have hb0 : 0 < b.length := by
       rcases Nat.eq_zero_or_pos b.length with h0 | h0
       · exfalso; apply hne; rw [hr0, List.eq_nil_of_length_eq_zero h0]; simp
       · exact h0
     obtain ⟨ad, e, h1, _⟩ := HH.out.2 hb0
     rw [e] at hg
     have : ad.block = g := by simpa [blk] using hg
     exact .inl (by have := HB1.out.size; have := HZ0.out; omega)⟩
   have HI0 : Hid (PaI W6 X0.heap.size w1.heap.size X0.heap.size (X0.heap.size + 1) (.cells #[.slice A Z c, .slice HA M HC, .int .i64 (ev : Int)] 130) A c r0 none 0 [] none 0 [] none 0 [] W6) := hid
     ⟨y2, by rw [hrl]; exact y0, y1, OwnPv.nil, OwnS.nil _ _ _, Own.nil _ _ _, hHB, ⟨by omega, hcc⟩, Below.refl _ _, ⟨by omega, by omega, by omega⟩, hb6.size⟩
   have HBW : Hid (∀ wr, Below X0.heap.size W6 wr → Below w.heap.size w wr) := hid (fun wr hb => hbw6.trans (hb.mono (by have := HB1.out.size; have := HZ0.out; omega)))
   have HXH : Hid (∀ wr, Below X0.heap.size W6 wr → RdS Nc 1 wr wr.heap.size HA (Blk.headsOf b (Blk.many b))) := hid (fun wr hb => by
     have hb1r : Below w1.heap.size w1 wr := hb16.trans (hb.mono (by have := HZ0.out; omega))
     exact (HOWN.out.rd.below hb1r (Nat.le_refl _)).more hb1r.size)
   have HW0 : Hid (Blk.WRel b [] [] r0) := hid (by have := Blk.WRel.start (b := b); rw [← HZM.out.1] at this; rwa [hr0])
   have HRL := hid hrl
   obtain ⟨gx, hgx⟩ : ∃ gx, gx = w1.heap.size := ⟨_, rfl⟩
   obtain ⟨gb, hgb⟩ : ∃ gb, gb = X0.heap.size := ⟨_, rfl⟩
   rw [← hgx, ← hgb] at HI0
   rw [← hgb] at HBW HXH
   have HGE : Hid (w.heap.size ≤ gb) := hid (by have := HB1.out.size; have := HZ0.out; omega)
   rw [← hgx, ← hgb]
   have HLT : Hid (w1.heap.size ≤ gx ∧ gx < gb) := hid ⟨by omega, by have := HZ0.out; omega⟩
   clear hW6 hb6 y0 y1 y2 hb16 hbw6 hzl hHB hr0 hgx hgb HKEEP
   go_wp2_with fail
   rw [show Value.slice A Z c = Value.slice A r0.length c by rw [HRL.out]]
   clear hrl
   obtain ⟨XV, hXV⟩ : ∃ XV : Obj, XV = .cells #[.slice A Z c, .slice HA M HC, .int .i64 (ev : Int)] 130 := ⟨_, rfl⟩
   rw [← hXV] at HI0
   have HXV := hid hXV
   clear hXV HX0 HZ0 HB0
   go_loopw [6, 7, 9] (fun oo hh ll wr => ∃ (B : Option Addr) (d : Nat) (r : List UInt8) (OA : Option Addr) (OC : Nat) (o : List Pv) (NA : Option Addr) (NC : Nat) (hs : List Nat) (LA : Option Addr) (LC : Nat) (last : List UInt8), oo = .slice OA o.length OC ∧ hh = .slice NA hs.length NC ∧ ll = .slice B r.length d ∧
     Hid (PaI W6 gb gx gb (gb + 1) XV B d r OA OC o NA NC hs LA LC last wr) ∧ Hid (Blk.WRel b (o.map Pv.pr) last r ∧ Blk.lastK (o.map Pv.pr) = last ∧ (ev = 16 → Blk.HRel b (o.map Pv.pr) hs)) ∧ Hid (o.length + r.length ≤ Z ∧ last.length + r.length ≤ Z ∧ hs.length ≤ o.length ∧ ∀ p ∈ o, p.k.length ≤ Z ∧ p.v.length ≤ Z)) (fun _ _ ll _ => (match ll with | .slice _ n _ => n | _ => 0))
   case atStart => exact ⟨A, c, r0, none, 0, [], none, 0, [], none, 0, [], rfl, rfl, rfl, HI0, hid ⟨HW0.out, rfl, fun _ l0 _ => rfl⟩, hid ⟨by simp [HRL.out], by simp [HRL.out], by simp, fun p hp => by cases hp⟩⟩
   case round =>
     obtain ⟨B, d, r, OA, OC, o, NA, NC, hs, LA, LC, last, rfl, rfl, rfl, HI, HW, HL⟩ := hrel
     have hL := HL.out
     by_cases hr : r = []
     · subst hr
       have x1 : wr.cell? ⟨gx, 1, none⟩ = some (.slice HA M HC) := by
         have h1 := HI.out.x
         rw [HXV.out] at h1
         rw [cell_of_row wr gx 1 _ _ (0, 0) h1]; rfl
       have KE := hid (eqn_any NA NC hs HA HC (Blk.headsOf b (Blk.many b)) wr HI.out.hds.rd (HXH.out wr HI.out.below) (by omega))
       rw [← HZM.out.2] at KE
       have HFIN : Hid (∀ l0, Blk.WFb b l0 → l0 = o.map Pv.pr) := hid (fun l0 hw => HW.out.1.fin hw)
       have HHE : Hid (∀ l0, Blk.WFb b l0 → hs = Blk.headsOf b (Blk.many b)) := hid (fun l0 hw => by
         rw [HW.out.2.2 (H16.out l0 hw) l0 hw, Blk.heads_wf hw (by omega), ← HFIN.out l0 hw])
       obtain ⟨eq, heq⟩ : ∃ eq, eq = (hs == Blk.headsOf b (Blk.many b)) := ⟨_, rfl⟩
       rw [← heq] at KE
       have HEQ := hid heq
       clear heq
       go_wp2_with fail
       refine KE.out.mono ?_
       rintro e w5 ⟨rfl, hb5⟩
       have HB5 := hid (HBW.out _ (HI.out.below.trans (hb5.mono HI.out.sz)))
       have HO5 := hid ((HI.out.out.call hb5).mono HGE.out)
       clear hb5 x1
       rcases eq with _ | _
       · have HG := hid (parsed_no (b := b) HB5.out 3 (by decide) (fun l0 hw => by
           have h1 := HEQ.out
           rw [HHE.out l0 hw] at h1
           simp at h1))
         go_wp2_with fail
         go_ret2
         exact HG.out
       · by_cases hmany : (20000 : Int) < (o.length : Int)
         · have HG := hid (parsed_no (b := b) HB5.out 3 (by decide) (fun l0 hw => by
             have h1 := hw.few.1
             rw [HFIN.out l0 hw, List.length_map] at h1
             omega))
           go_wp2_with fail
           go_ret2
           exact HG.out
         · go_wp2_with fail
           go_ret2
           exact ⟨HB5.out, .inr ⟨o, OA, OC, rfl, HO5.out, by omega, fun p hp => by have := HL.out.2.2.2 p hp; omega, HFIN.out⟩⟩
     have hrp : 0 < r.length := List.length_pos_iff.2 hr
     have x2 : wr.cell? ⟨gx, 2, none⟩ = some (.int .i64 (ev : Int)) := by
       have h1 := HI.out.x
       rw [HXV.out] at h1
       rw [cell_of_row wr gx 2 _ _ (0, 0) h1]; rfl
     have hev0 : ¬ ((ev : Int) = 0) := by omega
     by_cases hhd : o.length % ev = 0
     · have hq1 : (o.length : Int) % (ev : Int) = 0 := by omega
       have x0 : wr.cell? ⟨gx, 0, none⟩ = some (.slice A Z c) := by
         have h1 := HI.out.x
         rw [HXV.out] at h1
         rw [cell_of_row wr gx 0 _ _ (0, 0) h1]; rfl
       obtain ⟨hv, hhv⟩ : ∃ hv, hv = Z - r.length := ⟨_, rfl⟩
       have hzr : (Z : Int) - (r.length : Int) = (hv : Int) := by omega
       have HHV := hid hhv
       have hwz := HI.out.sz
       clear hhv
       go_wp2_with (at_builtin; refine wpList_append_s _ rfl _ _ intT rfl gb NA NC hs rfl (HI.out.hds.alloc _) (wr.heap.size + 1) (some ⟨wr.heap.size, 0, none⟩) 1 1 [hv] rfl rfl (rd_int_new wr hv) (by simp; omega) (by unfold maxLen; simp; omega) (by simp; omega) ?_)
       intro NA2 NC2 hs2 wq hL2 ho2 hg2 hat2
       have hrow : ∀ g, blk NA = some g → gb ≤ g ∧ ∃ cs fr, (wr.alloc (.cells #[.int .i64 (hv : Int)] 3)).heap[g]? = some (.cells cs 3 fr) := fun g hg => ownS_tag (HI.out.hds.alloc _) hg
       have hIa := HI.out.call ((Below.refl wr.heap.size wr).alloc (Nat.le_refl _) (.cells #[.int .i64 (hv : Int)] 3))
       have HI2 : Hid (PaI W6 gb gx gb (gb + 1) XV B d r OA OC o NA2 NC2 hs2 LA LC last wq) := hid (hIa.grow ⟨by decide, by decide, fun cs fr e => by rw [HXV.out] at e; injection e with _ e2; exact absurd e2 (by decide)⟩ hrow hg2 (hIa.out.kept_ne hg2 (fun g hg => (hrow g hg).2) (by decide) (by decide)) (by rw [hL2] at ho2 ⊢; exact ho2))
       have HHS : Hid (hs2 = hs ++ [hv] ∧ hs2.length = hs.length + 1) := hid ⟨hL2, by rw [hL2]; simp⟩
       have hhl : hs2.length ≤ hs.length + 1 := Nat.le_of_eq HHS.out.2
       clear hL2 ho2 hg2 hat2 hrow hIa x0 x2 hzr
       have HHB : Hid (∀ l0, Blk.WFb b l0 → (o.length % 16 == 0) = true) := hid (fun l0 hw => by
         have h1 := H16.out l0 hw
         rw [← h1]; simpa using hhd)
       have KT := next_true gb (gb + 1) gb r B d last LA LC wq HI2.out.bx HI2.out.lx HI2.out.rest HI2.out.cap.1 HI2.out.cap.2 HI2.out.last HI2.out.ge.2.2 HI2.out.ge.1 HI2.out.ge.2.1 (by omega) (by omega) hr
       cases hn : Blk.nextP true last r with
       | none =>
         rw [hn] at KT
         have HK := hid KT
         have HNO : Hid (∀ l0, ¬ Blk.WFb b l0) := hid (fun l0 hw => HW.out.1.noP hr (by omega) HW.out.2.1 (by rw [List.length_map, HHB.out l0 hw]; exact hn) l0 hw)
         clear KT hn
         go_wp2_with fail
         refine HK.out.mono ?_
         rintro e w4 ⟨x, hx, rfl, hb4⟩
         have hx1 : (x == 0) = false := by simpa using hx
         have hx2 : (x != 0) = true := by simpa using hx
         have HB4 := hid (HBW.out _ (HI2.out.below.trans (hb4.mono HI2.out.sz)))
         clear hb4 hx
         go_wp2_with fail
         go_quiet (fail)
         refine drewN_any ?_
         intro X hbX hXh
         clear hXh
         have HG := hid (parsed_no (b := b) (((HB4.out.alloc HB4.out.size (.cells #[.slice none 0 0, .slice none 0 0] 77)).trans (hbX.mono (by have := HB4.out.size; simp; omega)))) 3 (by decide) HNO.out)
         clear hbX
         go_wp2_with fail
         go_ret2
         exact HG.out
       | some v =>
         obtain ⟨p, R3⟩ := v
         rw [hn] at KT
         have HK := hid KT
         have HN : Hid (∀ l0, Blk.WFb b l0 → Blk.nextP ((o.map Pv.pr).length % 16 == 0) last r = some (p, R3)) := hid (fun l0 hw => by rw [List.length_map, HHB.out l0 hw]; exact hn)
         have hnl := Blk.nextP_len hn
         clear KT hn
         go_wp2_with fail
         refine HK.out.mono ?_
         rintro e w4 ⟨q, B3, d3, LA2, LC2, rfl, hok⟩
         have HI4 := hid (HI2.out.next ⟨by have := HLT.out; omega, by have := HLT.out; omega⟩ hok)
         have HQK := hid (hok.key.mono HI2.out.sz)
         have HQV := hid (hok.val.mono HI2.out.sz)
         have HQP := hid hok.pr
         clear hok
         obtain ⟨W4, hW4⟩ : ∃ W4, W4 = w4.alloc (.cells #[.slice q.kA q.k.length q.kc, .slice q.vA q.v.length q.vc] 77) := ⟨_, rfl⟩
         have hba : Below w4.heap.size w4 W4 := by rw [hW4]; exact (Below.refl _ _).alloc (Nat.le_refl _) _
         have hpx : W4.heap[w4.heap.size]? = some (.cells #[.slice q.kA q.k.length q.kc, .slice q.vA q.v.length q.vc] 77) := by rw [hW4]; exact heap_alloc_new _ _
         have HI5 := hid (HI4.out.call hba)
         have HQK5 := hid (HQK.out.below hba)
         have HQV5 := hid (HQV.out.below hba)
         have HPX := hid hpx
         have p0 := cell_of_row W4 w4.heap.size 0 _ _ (0, 0) hpx
         have p1 := cell_of_row W4 w4.heap.size 1 _ _ (0, 0) hpx
         simp only [List.getElem?_toArray, List.getElem?_cons_zero, List.getElem?_cons_succ] at p0 p1
         have HW4 := hid hW4
         have HKK : Hid (q.k = p.k) := hid (by rw [← HQP.out]; rfl)
         clear hba hpx hW4 HI4 HQK HQV
         go_wp2_with fail
         rw [← HW4.out]
         by_cases hp0 : 0 < o.length
         case' neg =>
           have hol : decide ((0 : Int) < (o.length : Int)) = false := decide_eq_false (by omega)
           have hol2 : ¬ ((0 : Int) < (o.length : Int)) := by omega
           go_quiet (fail)
           refine drewN_any ?_
           intro X hbX hXh
           clear hXh
         case' pos =>
           obtain ⟨n0, ho0⟩ : ∃ n0, o.length = n0 + 1 := ⟨o.length - 1, by omega⟩
           obtain ⟨ob, ooff, hOA, hobl, hrow⟩ := HI5.out.out.rd.row2 (by omega)
           have c0 := (hrow n0 (by omega)).1
           obtain ⟨ol, hol⟩ : ∃ ol, ol = o[n0]'(by omega) := ⟨_, rfl⟩
           rw [← hol] at c0
           have HLK : Hid (Blk.lastK (o.map Pv.pr) = ol.k) := hid (by
             unfold Blk.lastK
             rw [List.getLast?_map, List.getLast?_eq_getElem?, show o.length - 1 = n0 by omega, List.getElem?_eq_getElem (by omega), hol]
             rfl)
           have hrdl := (HI5.out.out.own ol (by rw [hol]; exact List.getElem_mem _)).1.rd
           have nq1 : IntKind.i64.wrap ((o.length : Int) - 1) = (n0 : Int) := by rw [IntKind.wrap_i64]; omega
           have nq2 : (0 : Int) ≤ (n0 : Int) := by omega
           have nq3 : (n0 : Int) < (o.length : Int) := by omega
           have nq4 : decide ((0 : Int) < (o.length : Int)) = true := decide_eq_true (by omega)
           have nq5 : (0 : Int) < (o.length : Int) := by omega
           obtain ⟨CV, hCV⟩ : ∃ CV, CV = Lib.compareBytes q.k ol.k := ⟨_, rfl⟩
           have KCV : Hid (∀ n, Calls Tryz.prog 59 #[.slice q.kA q.k.length q.kc, .slice ol.kA ol.k.length ol.kc] (W4.drewN n) fun e w' => e = .returned (.int .i64 CV) ∧ w' = W4.drewN n) := hid (fun n => by
             rw [hCV]
             exact (bcmp_any W4.heap.size q.kA q.kc q.k W4.heap.size ol.kA ol.kc ol.k (W4.drewN n) (Reads.drewN HQK5.out.rd n) (Reads.drewN hrdl n)).mono (fun e w' h => ⟨h.1, h.2.symm⟩))
           have HCV := hid hCV
           subst hOA
           have HO0 := hid ho0
           clear hCV hrow hol hrdl ho0
           by_cases hcv : CV ≤ 0
           case' pos =>
             have hcv2 : decide (CV ≤ 0) = true := decide_eq_true hcv
             have HNO : Hid (∀ l0, ¬ Blk.WFb b l0) := hid (fun l0 hw => by
               obtain ⟨p', l2, e1, e2⟩ := HW.out.1.nextP hr (by omega) HW.out.2.1 hw
               rw [HN.out l0 hw] at e2
               injection e2 with e2; injection e2 with e3 e4
               subst e3
               have h1 := Blk.srt_at (e1 ▸ hw.few.2) (by rw [List.length_map, HO0.out]; omega)
               rw [HLK.out] at h1
               have h2 := hcv
               rw [HCV.out, compareBytes_le, HKK.out, h1] at h2
               cases h2)
             clear hcv
             go_quiet ((go_at_call 59; exact Calls.quiet_of_same (KCV.out _)))
             refine drewN_any ?_
             intro X hbX hXh
             clear hXh
             have HG := hid (parsed_no (b := b) (HBW.out _ (HI5.out.below.trans (hbX.mono HI5.out.sz))) 3 (by decide) HNO.out)
             clear hbX
             go_wp2_with fail
             go_ret2
             exact HG.out
           have hcv2 : decide (CV ≤ 0) = false := decide_eq_false hcv
           clear hcv
           go_quiet ((go_at_call 59; exact Calls.quiet_of_same (KCV.out _)))
           refine drewN_any ?_
           intro X hbX hXh
           clear hXh
         case pos =>
           have HI6 := hid (HI5.out.call hbX)
           have HQK6 := hid (HQK5.out.below hbX)
           have HQV6 := hid (HQV5.out.below hbX)
           have hpx := (hbX.block _ (Array.getElem?_eq_some_iff.1 HPX.out).1).trans HPX.out
           have p0 := cell_of_row X w4.heap.size 0 _ _ (0, 0) hpx
           have p1 := cell_of_row X w4.heap.size 1 _ _ (0, 0) hpx
           simp only [List.getElem?_toArray, List.getElem?_cons_zero, List.getElem?_cons_succ] at p0 p1
           have hsz := HI6.out.sz
           have HX1 : Hid ((o.length + [q].length) * 48 ≤ 140737488355328) := hid (by simp; omega)
           have HX2 : Hid (o.length + [q].length ≤ maxLen) := hid (by unfold maxLen; simp; omega)
           have HX4 : Hid (∀ ob, gb ≤ (X.alloc ob).heap.size) := hid (fun ob => by simp; omega)
           have HX3 := hid HI6.out.out.row
           clear hbX hpx
           go_wp2_with (at_builtin; refine wpList_append_s _ rfl (.tmp 72) (.tmp 74) pairT rfl gb (some ⟨ob, ooff, none⟩) OC o rfl (HX3.out.alloc _) (X.heap.size + 1) (some ⟨X.heap.size, 0, none⟩) 1 1 [q] rfl rfl (rd_pair_new X q) HX1.out HX2.out (HX4.out _) ?_)
           intro OA' OC' o' w9 ho' hoS hgS hatS
           have hIa := HI6.out.call ((Below.refl X.heap.size X).alloc (Nat.le_refl _) (.cells #[.slice q.kA q.k.length q.kc, .slice q.vA q.v.length q.vc] 77))
           have hrow := fun g hg => ownS_tag (g := g) hIa.out.row hg
           rw [ho'] at hoS
           have HO9 := hIa.out.app (p := q) (HQK6.out.alloc _) (HQV6.out.alloc _) hoS hgS
           have HH9 := hIa.hds.kept_ne hgS (fun g hg => (hrow g hg).2) (by decide)
           have HI9 := hid (hIa.grow ⟨by decide, by decide, fun cs fr e => by rw [HXV.out] at e; injection e with _ e2; exact absurd e2 (by decide)⟩ hrow hgS HO9 HH9)
           rw [← ho'] at HI9
           have HM9 : Hid (o'.map Pv.pr = o.map Pv.pr ++ [p]) := hid (by rw [ho', List.map_append, List.map_cons, HQP.out]; rfl)
           have HLN9 : Hid (o'.length = o.length + 1 ∧ ∀ x ∈ o', x ∈ o ∨ x = q) := hid ⟨by rw [ho']; simp, fun x hx => by
             rw [ho'] at hx
             simpa using hx⟩
           clear ho' hoS hgS hatS hIa hrow HO9 HH9
           have HW9 : Hid (Blk.WRel b (o'.map Pv.pr) p.k R3 ∧ Blk.lastK (o'.map Pv.pr) = p.k ∧ (ev = 16 → Blk.HRel b (o'.map Pv.pr) hs2)) := hid (by
             rw [HM9.out]
             refine ⟨fun l0 hw => (HW.out.1.stepP hr (by omega) HW.out.2.1 (HN.out l0 hw)) l0 hw, Blk.lastK_snoc _ _, fun h16 => ?_⟩
             have h1 := (HW.out.2.2 h16).step (p := p) HW.out.1 HW.out.2.1 HZM.out.1
             rw [List.length_map] at h1
             rw [if_pos (by rw [← h16]; exact hhd)] at h1
             rw [HHS.out.1, HHV.out]; exact h1)
           have HL9 : Hid (o'.length + R3.length ≤ Z ∧ p.k.length + R3.length ≤ Z ∧ hs2.length ≤ o'.length ∧ ∀ x ∈ o', x.k.length ≤ Z ∧ x.v.length ≤ Z) := hid (by
             have h1 := HLN9.out.1
             refine ⟨by omega, by omega, by omega, fun x hx => ?_⟩
             rcases HLN9.out.2 x hx with h2 | h2
             · exact HL.out.2.2.2 x h2
             · have h3 : q.v = p.v := by rw [← HQP.out]; rfl
               rw [h2, HKK.out, h3]
               exact ⟨by omega, by omega⟩)
           have hmes : R3.length < r.length := by omega
           go_wp2_with fail
           go_roundw
           case rel => exact ⟨B3, d3, R3, OA', OC', o', NA2, NC2, hs2, LA2, LC2, p.k, rfl, rfl, rfl, HI9, HW9, HL9⟩
           case measure => simpa using hmes
         case neg =>
           have HI6 := hid (HI5.out.call hbX)
           have HQK6 := hid (HQK5.out.below hbX)
           have HQV6 := hid (HQV5.out.below hbX)
           have hpx := (hbX.block _ (Array.getElem?_eq_some_iff.1 HPX.out).1).trans HPX.out
           have p0 := cell_of_row X w4.heap.size 0 _ _ (0, 0) hpx
           have p1 := cell_of_row X w4.heap.size 1 _ _ (0, 0) hpx
           simp only [List.getElem?_toArray, List.getElem?_cons_zero, List.getElem?_cons_succ] at p0 p1
           have hsz := HI6.out.sz
           have HX1 : Hid ((o.length + [q].length) * 48 ≤ 140737488355328) := hid (by simp; omega)
           have HX2 : Hid (o.length + [q].length ≤ maxLen) := hid (by unfold maxLen; simp; omega)
           have HX4 : Hid (∀ ob, gb ≤ (X.alloc ob).heap.size) := hid (fun ob => by simp; omega)
           have HX3 := hid HI6.out.out.row
           clear hbX hpx
           go_wp2_with (at_builtin; refine wpList_append_s _ rfl (.tmp 72) (.tmp 74) pairT rfl gb OA OC o rfl (HX3.out.alloc _) (X.heap.size + 1) (some ⟨X.heap.size, 0, none⟩) 1 1 [q] rfl rfl (rd_pair_new X q) HX1.out HX2.out (HX4.out _) ?_)
           intro OA' OC' o' w9 ho' hoS hgS hatS
           have hIa := HI6.out.call ((Below.refl X.heap.size X).alloc (Nat.le_refl _) (.cells #[.slice q.kA q.k.length q.kc, .slice q.vA q.v.length q.vc] 77))
           have hrow := fun g hg => ownS_tag (g := g) hIa.out.row hg
           rw [ho'] at hoS
           have HO9 := hIa.out.app (p := q) (HQK6.out.alloc _) (HQV6.out.alloc _) hoS hgS
           have HH9 := hIa.hds.kept_ne hgS (fun g hg => (hrow g hg).2) (by decide)
           have HI9 := hid (hIa.grow ⟨by decide, by decide, fun cs fr e => by rw [HXV.out] at e; injection e with _ e2; exact absurd e2 (by decide)⟩ hrow hgS HO9 HH9)
           rw [← ho'] at HI9
           have HM9 : Hid (o'.map Pv.pr = o.map Pv.pr ++ [p]) := hid (by rw [ho', List.map_append, List.map_cons, HQP.out]; rfl)
           have HLN9 : Hid (o'.length = o.length + 1 ∧ ∀ x ∈ o', x ∈ o ∨ x = q) := hid ⟨by rw [ho']; simp, fun x hx => by
             rw [ho'] at hx
             simpa using hx⟩
           clear ho' hoS hgS hatS hIa hrow HO9 HH9
           have HW9 : Hid (Blk.WRel b (o'.map Pv.pr) p.k R3 ∧ Blk.lastK (o'.map Pv.pr) = p.k ∧ (ev = 16 → Blk.HRel b (o'.map Pv.pr) hs2)) := hid (by
             rw [HM9.out]
             refine ⟨fun l0 hw => (HW.out.1.stepP hr (by omega) HW.out.2.1 (HN.out l0 hw)) l0 hw, Blk.lastK_snoc _ _, fun h16 => ?_⟩
             have h1 := (HW.out.2.2 h16).step (p := p) HW.out.1 HW.out.2.1 HZM.out.1
             rw [List.length_map] at h1
             rw [if_pos (by rw [← h16]; exact hhd)] at h1
             rw [HHS.out.1, HHV.out]; exact h1)
           have HL9 : Hid (o'.length + R3.length ≤ Z ∧ p.k.length + R3.length ≤ Z ∧ hs2.length ≤ o'.length ∧ ∀ x ∈ o', x.k.length ≤ Z ∧ x.v.length ≤ Z) := hid (by
             have h1 := HLN9.out.1
             refine ⟨by omega, by omega, by omega, fun x hx => ?_⟩
             rcases HLN9.out.2 x hx with h2 | h2
             · exact HL.out.2.2.2 x h2
             · have h3 : q.v = p.v := by rw [← HQP.out]; rfl
               rw [h2, HKK.out, h3]
               exact ⟨by omega, by omega⟩)
           have hmes : R3.length < r.length := by omega
           go_wp2_with fail
           go_roundw
           case rel => exact ⟨B3, d3, R3, OA', OC', o', NA2, NC2, hs2, LA2, LC2, p.k, rfl, rfl, rfl, HI9, HW9, HL9⟩
           case measure => simpa using hmes
       
     · have hq1 : (((o.length : Int) % (ev : Int)) == 0) = false := by simp; omega
       obtain ⟨wq, hwq⟩ : ∃ wq, wq = wr := ⟨_, rfl⟩
       subst hwq
       have HI2 := hid HI.out
       have HHB : Hid (∀ l0, Blk.WFb b l0 → (o.length % 16 == 0) = false) := hid (fun l0 hw => by
         have h1 := H16.out l0 hw
         rw [← h1]; simpa using hhd)
       have KT := next_false gb (gb + 1) gb r B d last LA LC wq HI2.out.bx HI2.out.lx HI2.out.rest HI2.out.cap.1 HI2.out.cap.2 HI2.out.last HI2.out.ge.2.2 HI2.out.ge.1 HI2.out.ge.2.1 (by omega) (by omega) hr
       cases hn : Blk.nextP false last r with
       | none =>
         rw [hn] at KT
         have HK := hid KT
         have HNO : Hid (∀ l0, ¬ Blk.WFb b l0) := hid (fun l0 hw => HW.out.1.noP hr (by omega) HW.out.2.1 (by rw [List.length_map, HHB.out l0 hw]; exact hn) l0 hw)
         clear KT hn
         go_wp2_with fail
         refine HK.out.mono ?_
         rintro e w4 ⟨x, hx, rfl, hb4⟩
         have hx1 : (x == 0) = false := by simpa using hx
         have hx2 : (x != 0) = true := by simpa using hx
         have HB4 := hid (HBW.out _ (HI2.out.below.trans (hb4.mono HI2.out.sz)))
         clear hb4 hx
         go_wp2_with fail
         go_quiet (fail)
         refine drewN_any ?_
         intro X hbX hXh
         clear hXh
         have HG := hid (parsed_no (b := b) (((HB4.out.alloc HB4.out.size (.cells #[.slice none 0 0, .slice none 0 0] 77)).trans (hbX.mono (by have := HB4.out.size; simp; omega)))) 3 (by decide) HNO.out)
         clear hbX
         go_wp2_with fail
         go_ret2
         exact HG.out
       | some v =>
         obtain ⟨p, R3⟩ := v
         rw [hn] at KT
         have HK := hid KT
         have HN : Hid (∀ l0, Blk.WFb b l0 → Blk.nextP ((o.map Pv.pr).length % 16 == 0) last r = some (p, R3)) := hid (fun l0 hw => by rw [List.length_map, HHB.out l0 hw]; exact hn)
         have hnl := Blk.nextP_len hn
         clear KT hn
         go_wp2_with fail
         refine HK.out.mono ?_
         rintro e w4 ⟨q, B3, d3, LA2, LC2, rfl, hok⟩
         have HI4 := hid (HI2.out.next ⟨by have := HLT.out; omega, by have := HLT.out; omega⟩ hok)
         have HQK := hid (hok.key.mono HI2.out.sz)
         have HQV := hid (hok.val.mono HI2.out.sz)
         have HQP := hid hok.pr
         clear hok
         obtain ⟨W4, hW4⟩ : ∃ W4, W4 = w4.alloc (.cells #[.slice q.kA q.k.length q.kc, .slice q.vA q.v.length q.vc] 77) := ⟨_, rfl⟩
         have hba : Below w4.heap.size w4 W4 := by rw [hW4]; exact (Below.refl _ _).alloc (Nat.le_refl _) _
         have hpx : W4.heap[w4.heap.size]? = some (.cells #[.slice q.kA q.k.length q.kc, .slice q.vA q.v.length q.vc] 77) := by rw [hW4]; exact heap_alloc_new _ _
         have HI5 := hid (HI4.out.call hba)
         have HQK5 := hid (HQK.out.below hba)
         have HQV5 := hid (HQV.out.below hba)
         have HPX := hid hpx
         have p0 := cell_of_row W4 w4.heap.size 0 _ _ (0, 0) hpx
         have p1 := cell_of_row W4 w4.heap.size 1 _ _ (0, 0) hpx
         simp only [List.getElem?_toArray, List.getElem?_cons_zero, List.getElem?_cons_succ] at p0 p1
         have HW4 := hid hW4
         have HKK : Hid (q.k = p.k) := hid (by rw [← HQP.out]; rfl)
         clear hba hpx hW4 HI4 HQK HQV
         go_wp2_with fail
         rw [← HW4.out]
         by_cases hp0 : 0 < o.length
         case' neg =>
           have hol : decide ((0 : Int) < (o.length : Int)) = false := decide_eq_false (by omega)
           have hol2 : ¬ ((0 : Int) < (o.length : Int)) := by omega
           go_quiet (fail)
           refine drewN_any ?_
           intro X hbX hXh
           clear hXh
         case' pos =>
           obtain ⟨n0, ho0⟩ : ∃ n0, o.length = n0 + 1 := ⟨o.length - 1, by omega⟩
           obtain ⟨ob, ooff, hOA, hobl, hrow⟩ := HI5.out.out.rd.row2 (by omega)
           have c0 := (hrow n0 (by omega)).1
           obtain ⟨ol, hol⟩ : ∃ ol, ol = o[n0]'(by omega) := ⟨_, rfl⟩
           rw [← hol] at c0
           have HLK : Hid (Blk.lastK (o.map Pv.pr) = ol.k) := hid (by
             unfold Blk.lastK
             rw [List.getLast?_map, List.getLast?_eq_getElem?, show o.length - 1 = n0 by omega, List.getElem?_eq_getElem (by omega), hol]
             rfl)
           have hrdl := (HI5.out.out.own ol (by rw [hol]; exact List.getElem_mem _)).1.rd
           have nq1 : IntKind.i64.wrap ((o.length : Int) - 1) = (n0 : Int) := by rw [IntKind.wrap_i64]; omega
           have nq2 : (0 : Int) ≤ (n0 : Int) := by omega
           have nq3 : (n0 : Int) < (o.length : Int) := by omega
           have nq4 : decide ((0 : Int) < (o.length : Int)) = true := decide_eq_true (by omega)
           have nq5 : (0 : Int) < (o.length : Int) := by omega
           obtain ⟨CV, hCV⟩ : ∃ CV, CV = Lib.compareBytes q.k ol.k := ⟨_, rfl⟩
           have KCV : Hid (∀ n, Calls Tryz.prog 59 #[.slice q.kA q.k.length q.kc, .slice ol.kA ol.k.length ol.kc] (W4.drewN n) fun e w' => e = .returned (.int .i64 CV) ∧ w' = W4.drewN n) := hid (fun n => by
             rw [hCV]
             exact (bcmp_any W4.heap.size q.kA q.kc q.k W4.heap.size ol.kA ol.kc ol.k (W4.drewN n) (Reads.drewN HQK5.out.rd n) (Reads.drewN hrdl n)).mono (fun e w' h => ⟨h.1, h.2.symm⟩))
           have HCV := hid hCV
           subst hOA
           have HO0 := hid ho0
           clear hCV hrow hol hrdl ho0
           by_cases hcv : CV ≤ 0
           case' pos =>
             have hcv2 : decide (CV ≤ 0) = true := decide_eq_true hcv
             have HNO : Hid (∀ l0, ¬ Blk.WFb b l0) := hid (fun l0 hw => by
               obtain ⟨p', l2, e1, e2⟩ := HW.out.1.nextP hr (by omega) HW.out.2.1 hw
               rw [HN.out l0 hw] at e2
               injection e2 with e2; injection e2 with e3 e4
               subst e3
               have h1 := Blk.srt_at (e1 ▸ hw.few.2) (by rw [List.length_map, HO0.out]; omega)
               rw [HLK.out] at h1
               have h2 := hcv
               rw [HCV.out, compareBytes_le, HKK.out, h1] at h2
               cases h2)
             clear hcv
             go_quiet ((go_at_call 59; exact Calls.quiet_of_same (KCV.out _)))
             refine drewN_any ?_
             intro X hbX hXh
             clear hXh
             have HG := hid (parsed_no (b := b) (HBW.out _ (HI5.out.below.trans (hbX.mono HI5.out.sz))) 3 (by decide) HNO.out)
             clear hbX
             go_wp2_with fail
             go_ret2
             exact HG.out
           have hcv2 : decide (CV ≤ 0) = false := decide_eq_false hcv
           clear hcv
           go_quiet ((go_at_call 59; exact Calls.quiet_of_same (KCV.out _)))
           refine drewN_any ?_
           intro X hbX hXh
           clear hXh
         case pos =>
           have HI6 := hid (HI5.out.call hbX)
           have HQK6 := hid (HQK5.out.below hbX)
           have HQV6 := hid (HQV5.out.below hbX)
           have hpx := (hbX.block _ (Array.getElem?_eq_some_iff.1 HPX.out).1).trans HPX.out
           have p0 := cell_of_row X w4.heap.size 0 _ _ (0, 0) hpx
           have p1 := cell_of_row X w4.heap.size 1 _ _ (0, 0) hpx
           simp only [List.getElem?_toArray, List.getElem?_cons_zero, List.getElem?_cons_succ] at p0 p1
           have hsz := HI6.out.sz
           have HX1 : Hid ((o.length + [q].length) * 48 ≤ 140737488355328) := hid (by simp; omega)
           have HX2 : Hid (o.length + [q].length ≤ maxLen) := hid (by unfold maxLen; simp; omega)
           have HX4 : Hid (∀ ob, gb ≤ (X.alloc ob).heap.size) := hid (fun ob => by simp; omega)
           have HX3 := hid HI6.out.out.row
           clear hbX hpx
           go_wp2_with (at_builtin; refine wpList_append_s _ rfl (.tmp 72) (.tmp 74) pairT rfl gb (some ⟨ob, ooff, none⟩) OC o rfl (HX3.out.alloc _) (X.heap.size + 1) (some ⟨X.heap.size, 0, none⟩) 1 1 [q] rfl rfl (rd_pair_new X q) HX1.out HX2.out (HX4.out _) ?_)
           intro OA' OC' o' w9 ho' hoS hgS hatS
           have hIa := HI6.out.call ((Below.refl X.heap.size X).alloc (Nat.le_refl _) (.cells #[.slice q.kA q.k.length q.kc, .slice q.vA q.v.length q.vc] 77))
           have hrow := fun g hg => ownS_tag (g := g) hIa.out.row hg
           rw [ho'] at hoS
           have HO9 := hIa.out.app (p := q) (HQK6.out.alloc _) (HQV6.out.alloc _) hoS hgS
           have HH9 := hIa.hds.kept_ne hgS (fun g hg => (hrow g hg).2) (by decide)
           have HI9 := hid (hIa.grow ⟨by decide, by decide, fun cs fr e => by rw [HXV.out] at e; injection e with _ e2; exact absurd e2 (by decide)⟩ hrow hgS HO9 HH9)
           rw [← ho'] at HI9
           have HM9 : Hid (o'.map Pv.pr = o.map Pv.pr ++ [p]) := hid (by rw [ho', List.map_append, List.map_cons, HQP.out]; rfl)
           have HLN9 : Hid (o'.length = o.length + 1 ∧ ∀ x ∈ o', x ∈ o ∨ x = q) := hid ⟨by rw [ho']; simp, fun x hx => by
             rw [ho'] at hx
             simpa using hx⟩
           clear ho' hoS hgS hatS hIa hrow HO9 HH9
           have HW9 : Hid (Blk.WRel b (o'.map Pv.pr) p.k R3 ∧ Blk.lastK (o'.map Pv.pr) = p.k ∧ (ev = 16 → Blk.HRel b (o'.map Pv.pr) hs)) := hid (by
             rw [HM9.out]
             refine ⟨fun l0 hw => (HW.out.1.stepP hr (by omega) HW.out.2.1 (HN.out l0 hw)) l0 hw, Blk.lastK_snoc _ _, fun h16 => ?_⟩
             have h1 := (HW.out.2.2 h16).step (p := p) HW.out.1 HW.out.2.1 HZM.out.1
             rw [List.length_map] at h1
             rw [if_neg (by rw [← h16]; exact hhd), List.append_nil] at h1
             exact h1)
           have HL9 : Hid (o'.length + R3.length ≤ Z ∧ p.k.length + R3.length ≤ Z ∧ hs.length ≤ o'.length ∧ ∀ x ∈ o', x.k.length ≤ Z ∧ x.v.length ≤ Z) := hid (by
             have h1 := HLN9.out.1
             refine ⟨by omega, by omega, by omega, fun x hx => ?_⟩
             rcases HLN9.out.2 x hx with h2 | h2
             · exact HL.out.2.2.2 x h2
             · have h3 : q.v = p.v := by rw [← HQP.out]; rfl
               rw [h2, HKK.out, h3]
               exact ⟨by omega, by omega⟩)
           have hmes : R3.length < r.length := by omega
           go_wp2_with fail
           go_roundw
           case rel => exact ⟨B3, d3, R3, OA', OC', o', NA, NC, hs, LA2, LC2, p.k, rfl, rfl, rfl, HI9, HW9, HL9⟩
           case measure => simpa using hmes
         case neg =>
           have HI6 := hid (HI5.out.call hbX)
           have HQK6 := hid (HQK5.out.below hbX)
           have HQV6 := hid (HQV5.out.below hbX)
           have hpx := (hbX.block _ (Array.getElem?_eq_some_iff.1 HPX.out).1).trans HPX.out
           have p0 := cell_of_row X w4.heap.size 0 _ _ (0, 0) hpx
           have p1 := cell_of_row X w4.heap.size 1 _ _ (0, 0) hpx
           simp only [List.getElem?_toArray, List.getElem?_cons_zero, List.getElem?_cons_succ] at p0 p1
           have hsz := HI6.out.sz
           have HX1 : Hid ((o.length + [q].length) * 48 ≤ 140737488355328) := hid (by simp; omega)
           have HX2 : Hid (o.length + [q].length ≤ maxLen) := hid (by unfold maxLen; simp; omega)
           have HX4 : Hid (∀ ob, gb ≤ (X.alloc ob).heap.size) := hid (fun ob => by simp; omega)
           have HX3 := hid HI6.out.out.row
           clear hbX hpx
           go_wp2_with (at_builtin; refine wpList_append_s _ rfl (.tmp 72) (.tmp 74) pairT rfl gb OA OC o rfl (HX3.out.alloc _) (X.heap.size + 1) (some ⟨X.heap.size, 0, none⟩) 1 1 [q] rfl rfl (rd_pair_new X q) HX1.out HX2.out (HX4.out _) ?_)
           intro OA' OC' o' w9 ho' hoS hgS hatS
           have hIa := HI6.out.call ((Below.refl X.heap.size X).alloc (Nat.le_refl _) (.cells #[.slice q.kA q.k.length q.kc, .slice q.vA q.v.length q.vc] 77))
           have hrow := fun g hg => ownS_tag (g := g) hIa.out.row hg
           rw [ho'] at hoS
           have HO9 := hIa.out.app (p := q) (HQK6.out.alloc _) (HQV6.out.alloc _) hoS hgS
           have HH9 := hIa.hds.kept_ne hgS (fun g hg => (hrow g hg).2) (by decide)
           have HI9 := hid (hIa.grow ⟨by decide, by decide, fun cs fr e => by rw [HXV.out] at e; injection e with _ e2; exact absurd e2 (by decide)⟩ hrow hgS HO9 HH9)
           rw [← ho'] at HI9
           have HM9 : Hid (o'.map Pv.pr = o.map Pv.pr ++ [p]) := hid (by rw [ho', List.map_append, List.map_cons, HQP.out]; rfl)
           have HLN9 : Hid (o'.length = o.length + 1 ∧ ∀ x ∈ o', x ∈ o ∨ x = q) := hid ⟨by rw [ho']; simp, fun x hx => by
             rw [ho'] at hx
             simpa using hx⟩
           clear ho' hoS hgS hatS hIa hrow HO9 HH9
           have HW9 : Hid (Blk.WRel b (o'.map Pv.pr) p.k R3 ∧ Blk.lastK (o'.map Pv.pr) = p.k ∧ (ev = 16 → Blk.HRel b (o'.map Pv.pr) hs)) := hid (by
             rw [HM9.out]
             refine ⟨fun l0 hw => (HW.out.1.stepP hr (by omega) HW.out.2.1 (HN.out l0 hw)) l0 hw, Blk.lastK_snoc _ _, fun h16 => ?_⟩
             have h1 := (HW.out.2.2 h16).step (p := p) HW.out.1 HW.out.2.1 HZM.out.1
             rw [List.length_map] at h1
             rw [if_neg (by rw [← h16]; exact hhd), List.append_nil] at h1
             exact h1)
           have HL9 : Hid (o'.length + R3.length ≤ Z ∧ p.k.length + R3.length ≤ Z ∧ hs.length ≤ o'.length ∧ ∀ x ∈ o', x.k.length ≤ Z ∧ x.v.length ≤ Z) := hid (by
             have h1 := HLN9.out.1
             refine ⟨by omega, by omega, by omega, fun x hx => ?_⟩
             rcases HLN9.out.2 x hx with h2 | h2
             · exact HL.out.2.2.2 x h2
             · have h3 : q.v = p.v := by rw [← HQP.out]; rfl
               rw [h2, HKK.out, h3]
               exact ⟨by omega, by omega⟩)
           have hmes : R3.length < r.length := by omega
           go_wp2_with fail
           go_roundw
           case rel => exact ⟨B3, d3, R3, OA', OC', o', NA, NC, hs, LA2, LC2, p.k, rfl, rfl, rfl, HI9, HW9, HL9⟩
           case measure => simpa using hmes
       
def RecOf (p : Pr) (v : Option (List UInt8 × Int × Bool × List UInt8)) : Prop := ∀ r : Rv, Tb.right r = true → Tb.inner r = p → v = some (r.k, r.seq, r.del, r.v)
theorem iparts_all (k : List UInt8) (n : Nat) (hn : n < 18446744073709551616) : Cod.AllN (Tb.iparts k n) := by
 intro p hp
 simp only [Tb.iparts, List.mem_cons, List.not_mem_nil, or_false] at hp
 rcases hp with rfl | rfl
 · exact ⟨by simp, fun _ => rfl, fun h => by cases h⟩
 · exact ⟨hn, (fun h => by cases h), fun _ => rfl⟩
theorem inner_parts {p : Pr} {r : Rv} (hr : Tb.right r = true) (h : Tb.inner r = p) : ∃ n : Nat, n < 1099511627776 ∧ (n : Int) = 1099511627776 - r.seq ∧ p.k = Cod.key (Tb.iparts r.k n) ∧ p.v = (if r.del then 1 else 0) :: r.v := by
 have h1 := (Tb.right_iff _).1 hr
 refine ⟨(1099511627776 - r.seq).toNat, by omega, by omega, ?_, ?_⟩
 · rw [← h]; rfl
 · rw [← h]; rfl
theorem recOf_no1 {p : Pr} (h : ∀ l, Cod.AllN l → Cod.key l ≠ p.k) : RecOf p none := fun r hr e => by
 obtain ⟨n, h1, _, h3, _⟩ := inner_parts hr e
 exact absurd h3.symm (h _ (iparts_all _ _ (by omega)))
theorem recOf_l {p : Pr} {l : List Pt} (hl : Cod.AllN l) (hk : Cod.key l = p.k) {r : Rv} (hr : Tb.right r = true) (e : Tb.inner r = p) : ∃ n : Nat, n < 1099511627776 ∧ (n : Int) = 1099511627776 - r.seq ∧ l = Tb.iparts r.k n ∧ p.v = (if r.del then 1 else 0) :: r.v := by
 obtain ⟨n, h1, h2, h3, h4⟩ := inner_parts hr e
 exact ⟨n, h1, h2, Cod.key_inj hl (iparts_all _ _ (by omega)) (hk.trans h3), h4⟩
theorem recOf_no {p : Pr} {l : List Pt} (hl : Cod.AllN l) (hk : Cod.key l = p.k) (hno : ∀ (k : List UInt8) (n : Nat) (v : List UInt8) (d : Bool), l = Tb.iparts k n → n < 1099511627776 → p.v = (if d then 1 else 0) :: v → False) : RecOf p none := fun r hr e => by
 obtain ⟨n, h1, _, h3, h4⟩ := recOf_l hl hk hr e
 exact (hno _ _ _ _ h3 h1 h4).elim
theorem recOf_yes {p : Pr} {p0 p1 : Pt} {h : UInt8} {v : List UInt8} (hl : Cod.AllN [p0, p1]) (hk : Cod.key [p0, p1] = p.k) (hv : p.v = h :: v) : RecOf p (some (p0.s.data.toList, 1099511627776 - (p1.n : Int), h == 1, v)) := fun r hr e => by
 obtain ⟨n, h1, h2, h3, h4⟩ := recOf_l hl hk hr e
 unfold Tb.iparts at h3
 injection h3 with e1 h3
 injection h3 with e2 _
 subst e1 e2
 rw [hv] at h4
 injection h4 with h5 h6
 subst h6
 have hd : (h == 1) = r.del := by rw [h5]; cases r.del <;> rfl
 simp only [hd]
 have h7 : (1099511627776 : Int) - (n : Int) = r.seq := by omega
 rw [h7]
theorem esc_len (l : List UInt8) : l.length ≤ (Esc.esc 0 [0, 255] l).length := by
 induction l with
 | nil => simp
 | cons c l ih =>
   rw [Esc.esc_cons, List.length_append, List.length_cons]
   have : 1 ≤ (if c = 0 then [0, 255] else [c] : List UInt8).length := by split <;> simp
   omega
theorem key_text_len {p0 : Pt} {l : List Pt} (h : p0.t = true) : p0.s.data.toList.length ≤ (Cod.key (p0 :: l)).length := by
 rw [Cod.key_cons]
 unfold Cod.partKey
 rw [if_pos h]
 have := esc_len p0.s.data.toList
 simp only [List.length_append, List.length_cons]
 omega
def RecP (w : World) (base : Nat) (p : Pv) (e : Ending) (w' : World) : Prop := Below w.heap.size w w' ∧
 ((e = .returned (.tuple #[.agg #[.slice none 0 0, .int .i64 0, .bool false, .slice none 0 0], .bool false]) ∧ RecOf p.pr none) ∨
  (∃ r : Rv, e = .returned (.tuple #[r.val, .bool true]) ∧ RecOf p.pr (some (r.k, r.seq, r.del, r.v)) ∧ HBs w' base r.kA r.k ∧ r.k.length ≤ r.kc ∧ HBs w' base r.vA r.v ∧ r.v.length ≤ r.vc ∧ r.k.length ≤ p.k.length ∧ r.v.length ≤ p.v.length))
theorem recP_no {w w' : World} {base : Nat} {p : Pv} (hb : Below w.heap.size w w') (h : RecOf p.pr none) : RecP w base p (.returned (.tuple #[.agg #[.slice none 0 0, .int .i64 0, .bool false, .slice none 0 0], .bool false])) w' := ⟨hb, .inl ⟨rfl, h⟩⟩
theorem heap_set4 {w : World} {g : Nat} {x y z u a b c d : Value} {T : TypeId} (h : w.heap[g]? = some (.cells #[x, y, z, u] T)) : ((((w.setCell ⟨g, 0, none⟩ a).setCell ⟨g, 1, none⟩ b).setCell ⟨g, 2, none⟩ c).setCell ⟨g, 3, none⟩ d).heap[g]? = some (.cells #[a, b, c, d] T) := by
 have h1 := heap_setCell_same w g 0 _ T a h
 have h2 := heap_setCell_same _ g 1 _ T b h1
 have h3 := heap_setCell_same _ g 2 _ T c h2
 have h4 := heap_setCell_same _ g 3 _ T d h3
 simpa using h4
theorem HBs.set4 {w : World} {base g : Nat} {x y z u a b c d : Value} {T : TypeId} {B : Option Addr} {r : List UInt8} (h : HBs w base B r) (hb : w.heap[g]? = some (.cells #[x, y, z, u] T)) (hT : T ≠ 5) (hg : base ≤ g) : HBs ((((w.setCell ⟨g, 0, none⟩ a).setCell ⟨g, 1, none⟩ b).setCell ⟨g, 2, none⟩ c).setCell ⟨g, 3, none⟩ d) base B r := h.keep (by simp) (fun hne k hk _ => by
 have e : k ≠ g := fun e => by
   subst e
   rcases h.at_ hne k hk with h1 | ⟨cs', fr', h1⟩
   · omega
   · exact tag_ne2 h1 hb (fun e => hT e.symm) rfl
 rw [heap_setD _ e, heap_setD _ e, heap_setD _ e, heap_setD _ e])
theorem HBs.drew {w : World} {base : Nat} {B : Option Addr} {r : List UInt8} (h : HBs w base B r) : HBs w.drew base B r := ⟨h.rd, h.at_⟩
theorem HBs.tail {w : World} {base g off c : Nat} {x : UInt8} {r : List UInt8} (h : HBs w base (some ⟨g, off, none⟩) (x :: r)) (hc : r.length + 1 ≤ c) : HBs w base (if c = 1 then some ⟨g, off, none⟩ else some ⟨g, off + 1, none⟩) r := by
 have h1 := h.rd.cut (k := 1) (c := c) (by simp) (by simpa using hc)
 simp only [List.drop_succ_cons, List.drop_zero] at h1
 refine ⟨h1, fun _ k hk => h.at_ (by simp) k ?_⟩
 split at hk <;> exact hk
theorem rec_size : (Tryz.prog.info? 35).map (fun x => x.size) = some 4 := by kernel_rfl
def Rv.core (r : Rv) : List UInt8 × Int × Bool × List UInt8 := (r.k, r.seq, r.del, r.v)
namespace Tb
def Is (b : List UInt8) (l : List Rv) (s t : Int) : Prop := build l s t = (0, b)
structure IsU (b : List UInt8) (l : List Rv) (s t : Int) : Prop where
 s1 : 64 ≤ s
 s2 : s ≤ 32768
 t1 : 1 ≤ t
 t2 : t ≤ 32
 l1 : 1 ≤ l.length
 l2 : l.length ≤ 20000
 r : ∀ r ∈ l, right r = true
 srt : sorted l = true
 good : (close (run s l)).bad = false
 fit : ∀ p ∈ ends (close (run s l)) s.toNat t.toNat l, p.2.length ≤ 65536
 eq : b = (close (run s l)).out ++ (ends (close (run s l)) s.toNat t.toNat l).flatMap (fun p => putL p.1 p.2)
theorem Is.unf {b : List UInt8} {l : List Rv} {s t : Int} (h : Is b l s t) : IsU b l s t := by
 unfold Is build at h
 by_cases h1 : s < 64 ∨ 32768 < s ∨ t < 1 ∨ 32 < t ∨ l.length < 1 ∨ 20000 < l.length ∨ l.any (fun r => !right r) = true
 · rw [if_pos h1] at h; cases h
 · rw [if_neg h1] at h
   by_cases h2 : sorted l = false
   · rw [if_pos h2] at h; cases h
   · rw [if_neg h2] at h
     simp only at h
     by_cases h3 : ((close (run s l)).bad || (ends (close (run s l)) s.toNat t.toNat l).any (fun p => !fits p.2)) = true
     · rw [if_pos h3] at h; cases h
     · rw [if_neg h3] at h
       injection h with _ h
       rw [Bool.or_eq_true, not_or] at h3
       obtain ⟨h4, h5⟩ := h3
       refine ⟨by omega, by omega, by omega, by omega, by omega, by omega, fun r hr => ?_, by simpa using h2, by simpa using h4, fun p hp => ?_, h.symm⟩
       · cases hx : right r with
         | true => rfl
         | false => exact absurd (.inr (.inr (.inr (.inr (.inr (.inr (List.any_eq_true.2 ⟨r, hr, by rw [hx]; rfl⟩))))))) h1
       · have h6 : fits p.2 = true := by
           cases hx : fits p.2 with
           | true => rfl
           | false => exact absurd (List.any_eq_true.2 ⟨p, hp, by rw [hx]; rfl⟩) h5
         unfold fits at h6
         exact of_decide_eq_true h6
theorem emits_out (gs : List (List Pr)) (h : ∀ x ∈ gs, x ≠ []) : (emits gs).out = gs.flatMap (fun g => putL 68 (blkB 16 g)) := by
 have key : ∀ k, k ≤ gs.length → (emits (gs.take k)).out = (gs.take k).flatMap (fun g => putL 68 (blkB 16 g)) := fun k => by
   induction k with
   | zero => intro _; rfl
   | succ k ih =>
     intro hk
     rw [emits_succ gs k (by omega), emit_eq _ _ (h _ (List.getElem_mem _)), List.take_succ_eq_append_getElem (by omega), List.flatMap_append, ← ih (by omega)]
     simp
 have := key gs.length (Nat.le_refl _)
 rwa [List.take_length] at this
theorem parts_flat (size : Int) (l : List Rv) (k : Nat) (h : k ≤ l.length) : (parts size (l.take k)).1.flatten = (l.take k).map inner := by
 induction k with
 | zero => rfl
 | succ k ih =>
   rw [parts_succ size l k (by omega), List.take_succ_eq_append_getElem (by omega), List.map_append, ← ih (by omega)]
   unfold pst
   split
   · simp
   · rename_i hc
     obtain ⟨P, g, hp⟩ : ∃ P g, (parts size (l.take k)).1 = P ++ [g] := ⟨_, _, (List.dropLast_concat_getLast (fun e => hc (.inl e))).symm⟩
     rw [hp]
     simp
def Adj (l : List Pr) : Prop := ∀ i a b, l[i]? = some a → l[i + 1]? = some b → Op.bytesLess a.k b.k = true
theorem adj_mid {x g y : List Pr} (h : Adj (x ++ g ++ y)) : Adj g := fun i a b ha hb => by
 have hi := (List.getElem?_eq_some_iff.1 ha).1
 have hi1 := (List.getElem?_eq_some_iff.1 hb).1
 refine h (x.length + i) a b ?_ ?_
 · rw [List.append_assoc, List.getElem?_append_right (by omega), List.getElem?_append_left (by omega)]
   rw [← ha]; congr 1; omega
 · rw [List.append_assoc, List.getElem?_append_right (by omega), List.getElem?_append_left (by omega)]
   rw [← hb]; congr 1; omega
theorem adj_srt {g : List Pr} (h : Adj g) : Blk.srt g = true := by
 rw [Blk.srt_iff]
 intro i hi h0 _
 exact h (i - 1) _ _ (List.getElem?_eq_getElem (by omega)) (by rw [Nat.sub_add_cancel h0]; exact List.getElem?_eq_getElem hi)
theorem sorted_at {l : List Rv} (h : sorted l = true) {i : Nat} (hi : i < l.length) (h0 : 0 < i) : ahead (l[i - 1]'(by omega)) l[i] = true := by
 cases hx : ahead (l[i - 1]'(by omega)) l[i] with
 | true => rfl
 | false => rw [sorted_no hi h0 hx] at h; cases h
theorem inner_less {a b : Rv} (ha : right a = true) (hb : right b = true) (h : ahead a b = true) : Op.bytesLess (inner a).k (inner b).k = true := by
 have ra := (right_iff a).1 ha
 have rb := (right_iff b).1 hb
 have e := Cod.key_order (iparts a.k (1099511627776 - a.seq).toNat) (iparts b.k (1099511627776 - b.seq).toNat) (fun p hp => by
   simp only [iparts, List.mem_cons, List.not_mem_nil, or_false] at hp
   rcases hp with rfl | rfl <;> simp <;> omega) (fun p hp => by
   simp only [iparts, List.mem_cons, List.not_mem_nil, or_false] at hp
   rcases hp with rfl | rfl <;> simp <;> omega)
 show Op.bytesLess (ikey a.k a.seq) (ikey b.k b.seq) = true
 unfold ikey
 rw [e]
 unfold ahead at h
 rw [Bool.or_eq_true, Bool.and_eq_true] at h
 unfold iparts
 by_cases hk : a.k = b.k
 · have hlt : b.seq < a.seq := by
     rcases h with h | h
     · rw [hk] at h
       have := Cod.bytesLess_same b.k [] []
       simp only [List.append_nil] at this
       rw [this] at h; cases h
     · exact of_decide_eq_true h.2
   have e1 : Cod.ptSame ⟨true, 0, ⟨a.k.toArray⟩⟩ ⟨true, 0, ⟨b.k.toArray⟩⟩ = true := by unfold Cod.ptSame; simp [hk]
   have e2 : Cod.ptSame ⟨false, (1099511627776 - a.seq).toNat, ⟨#[]⟩⟩ ⟨false, (1099511627776 - b.seq).toNat, ⟨#[]⟩⟩ = false := by unfold Cod.ptSame; simp; omega
   unfold Cod.less
   rw [if_pos e1]
   unfold Cod.less
   rw [if_neg (by rw [e2]; simp)]
   unfold Cod.ptLess
   simp
   omega
 · have hl : Op.bytesLess a.k b.k = true := by
     rcases h with h | h
     · exact h
     · exact absurd (by simpa using h.1) hk
   have e1 : Cod.ptSame ⟨true, 0, ⟨a.k.toArray⟩⟩ ⟨true, 0, ⟨b.k.toArray⟩⟩ = false := by unfold Cod.ptSame; simp [hk]
   unfold Cod.less
   rw [if_neg (by rw [e1]; simp)]
   unfold Cod.ptLess
   simpa using hl
theorem adj_inner {l : List Rv} (hr : ∀ r ∈ l, right r = true) (h : sorted l = true) : Adj (l.map inner) := fun i a b ha hb => by
 rw [List.getElem?_map] at ha hb
 obtain ⟨x, hx, rfl⟩ := Option.map_eq_some_iff.1 ha
 obtain ⟨y, hy, rfl⟩ := Option.map_eq_some_iff.1 hb
 obtain ⟨h1, e1⟩ := List.getElem?_eq_some_iff.1 hx
 obtain ⟨h2, e2⟩ := List.getElem?_eq_some_iff.1 hy
 have h3 := sorted_at h h2 (by omega)
 simp only [Nat.add_sub_cancel] at h3
 rw [e1, e2] at h3
 exact inner_less (hr _ (by rw [← e1]; exact List.getElem_mem _)) (hr _ (by rw [← e2]; exact List.getElem_mem _)) h3
theorem flat_app (x y : List (UInt8 × List UInt8)) : Frm.flat (x ++ y) = Frm.flat x ++ Frm.flat y := by simp [Frm.flat]
theorem putL_put {k : UInt8} {b : List UInt8} (h : b.length ≤ 65536) : putL k b = Frm.put k b := if_pos h
theorem flatMap_cg {α : Type} {f g : α → List UInt8} : ∀ {l : List α}, (∀ x ∈ l, f x = g x) → l.flatMap f = l.flatMap g
 | [], _ => rfl
 | a :: l, h => by rw [List.flatMap_cons, List.flatMap_cons, h a (by simp), flatMap_cg (fun x hx => h x (by simp [hx]))]
structure Fms (b : List UInt8) (l : List Rv) (s t : Int) (gs : List (List Pr)) (fs : List (UInt8 × List UInt8)) : Prop where
 ne : gs ≠ []
 gne : ∀ g ∈ gs, g ≠ []
 wf : ∀ g ∈ gs, Blk.WFb (blkB 16 g) g
 flat : gs.flatten = l.map inner
 form : ∃ f ix, fs = gs.map (fun g => ((68 : UInt8), blkB 16 g)) ++ [(70, f), (73, ix), (90, nums [s.toNat, t.toNat, l.length, (low l).toNat, (high l).toNat])]
 filt : fs[gs.length]? = some (70, Blm.build t.toNat (l.map Rv.k))
 scan : Frm.Scans b fs []
theorem Is.frames {b : List UInt8} {l : List Rv} {s t : Int} (h : Is b l s t) : ∃ gs fs, Fms b l s t gs fs := by
 have u := h.unf
 obtain ⟨h1, h2⟩ := close_run s u.s1 l (by have := u.l1; omega)
 obtain ⟨gs, hgs⟩ : ∃ gs, gs = (parts s l).1 := ⟨_, rfl⟩
 rw [← hgs] at h1 h2
 have hfl : gs.flatten = l.map inner := by
   have := parts_flat s l l.length (Nat.le_refl _)
   rw [List.take_length] at this
   rw [hgs]; exact this
 have hbad := u.good
 rw [h1, emits_bad gs h2] at hbad
 have hfit : ∀ g ∈ gs, (blkB 16 g).length ≤ 65536 := fun g hg => by
   have := List.any_eq_false.1 hbad g hg
   have h3 : fits (blkB 16 g) = true := by simpa using this
   exact of_decide_eq_true h3
 have heq := u.eq
 have hft := u.fit
 rw [h1] at heq hft
 rw [emits_out gs h2] at heq
 have hbd : ∀ x ∈ gs, ∀ p ∈ x, p.k.length ≤ 10000 ∧ p.v.length ≤ 10000 := by
   have := parts_bytes s l u.r l.length (Nat.le_refl _)
   rw [List.take_length, ← hgs] at this
   exact this
 have hln : ∀ x ∈ gs, x.length ≤ 20000 := fun x hx => by
   have := parts_lens s l l.length (Nat.le_refl _)
   rw [List.take_length, ← hgs] at this
   exact Nat.le_trans (this x hx) u.l2
 have hadj := adj_inner u.r u.srt
 have hwf : ∀ g ∈ gs, Blk.WFb (blkB 16 g) g := fun g hg => by
   have hs : Blk.srt g = true := by
     obtain ⟨X, Y, e⟩ := List.append_of_mem hg
     rw [← hfl, e] at hadj
     refine adj_srt (adj_mid (x := X.flatten) (y := Y.flatten) ?_)
     simpa using hadj
   have he : Blk.err 16 g = 0 := by
     unfold Blk.err
     have := hln g hg
     rw [if_neg (by omega), hs]; rfl
   refine ⟨?_, he, fun p hp => by have := hbd g hg p hp; omega⟩
   unfold blkB
   rw [if_pos he]; rfl
 refine ⟨gs, gs.map (fun g => ((68 : UInt8), blkB 16 g)) ++ ends (emits gs) s.toNat t.toNat l, fun e => ?_, h2, hwf, hfl, ⟨_, _, rfl⟩, ?_, ?_, ?_⟩
 · rw [e] at hfl
   have := congrArg List.length hfl
   have := u.l1
   simp at *
   omega
 · rw [List.getElem?_append_right (by rw [List.length_map]; exact Nat.le_refl _), List.length_map, Nat.sub_self]; rfl
 · rw [List.append_nil, heq, flat_app]
   congr 1
   · unfold Frm.flat
     rw [List.flatMap_map]
     exact flatMap_cg fun g hg => putL_put (hfit g hg)
   · unfold Frm.flat
     exact flatMap_cg fun p hp => putL_put (hft p hp)
 · intro p hp
   rw [List.mem_append] at hp
   rcases hp with hp | hp
   · obtain ⟨g, hg, rfl⟩ := List.mem_map.1 hp
     exact hfit g hg
   · exact hft p hp
end Tb
namespace Tb
def bare (r : Rv) : Rv := ⟨none, 0, r.k, r.seq, r.del, none, 0, r.v⟩
theorem bare_sorted (l : List Rv) : sorted (l.map bare) = sorted l := by
 have key : ∀ a c : List Rv, a.length = c.length → (∀ i (h1 : i < a.length) (h2 : i < c.length), bare a[i] = bare c[i]) → sorted a = true → sorted c = true := fun a c hl he hs => by
   refine sorted_yes fun i hi h0 => ?_
   have h1 := sorted_at hs (i := i) (by omega) h0
   have e1 := he i (by omega) hi
   have e2 := he (i - 1) (by omega) (by omega)
   have g1 : ahead (bare (a[i - 1]'(by omega))) (bare (a[i]'(by omega))) = true := h1
   rw [e1, e2] at g1
   exact g1
 rw [Bool.eq_iff_iff]
 exact ⟨key _ _ (by simp) (fun i h1 h2 => by rw [List.getElem_map]; rfl), key _ _ (by simp) (fun i h1 h2 => by rw [List.getElem_map]; rfl)⟩
theorem foldl_bare {β : Type} (f : β → Rv → β) (hf : ∀ b r, f b (bare r) = f b r) : ∀ (l : List Rv) (b : β), (l.map bare).foldl f b = l.foldl f b
 | [], _ => rfl
 | a :: l, b => by rw [List.map_cons, List.foldl_cons, List.foldl_cons, hf, foldl_bare f hf l]
theorem head_bare (l : List Rv) : ((l.map bare).head?.map Rv.seq).getD 0 = (l.head?.map Rv.seq).getD 0 := by cases l <;> rfl
theorem low_bare (l : List Rv) : low (l.map bare) = low l := by
 unfold low
 rw [head_bare]
 exact foldl_bare (fun m r => min m r.seq) (fun _ _ => rfl) l _
theorem high_bare (l : List Rv) : high (l.map bare) = high l := by
 unfold high
 rw [head_bare]
 exact foldl_bare (fun m r => max m r.seq) (fun _ _ => rfl) l _
theorem run_bare (s : Int) (l : List Rv) : run s (l.map bare) = run s l := foldl_bare (add s) (fun _ _ => rfl) l _
theorem keys_bare (l : List Rv) : (l.map bare).map Rv.k = l.map Rv.k := by rw [List.map_map]; rfl
theorem any_bare (l : List Rv) : (l.map bare).any (fun r => !right r) = l.any (fun r => !right r) := by rw [List.any_map]; rfl
theorem build_bare (l : List Rv) (s t : Int) : build (l.map bare) s t = build l s t := by
 unfold build ends
 rw [any_bare, bare_sorted, run_bare, low_bare, high_bare, keys_bare, List.length_map]
theorem bare_core (l m : List Rv) (h : l.map Rv.core = m.map Rv.core) : l.map bare = m.map bare := by
 have e : ∀ l : List Rv, l.map bare = (l.map Rv.core).map (fun c => (⟨none, 0, c.1, c.2.1, c.2.2.1, none, 0, c.2.2.2⟩ : Rv)) := fun l => by rw [List.map_map]; rfl
 rw [e, e, h]
theorem build_core {l m : List Rv} (h : l.map Rv.core = m.map Rv.core) (s t : Int) : build l s t = build m s t := by
 rw [← build_bare l, ← build_bare m, bare_core l m h]
theorem Is.scanned {b r : List UInt8} {l : List Rv} {s t : Int} {L : List (UInt8 × List UInt8)} (h : Is b l s t) (hs : Frm.Scans b L r) (hn : Frm.take r = none) : r = [] ∧ ∃ gs, Fms b l s t gs L := by
 obtain ⟨gs, fs, hf⟩ := h.frames
 obtain ⟨e1, e2⟩ := Frm.scans_uniq _ _ _ _ _ hs hn hf.scan rfl
 exact ⟨e2, gs, by rw [e1]; exact hf⟩
theorem Fms.len {b : List UInt8} {l : List Rv} {s t : Int} {gs : List (List Pr)} {L : List (UInt8 × List UInt8)} (h : Fms b l s t gs L) : L.length = gs.length + 3 ∧ 0 < gs.length := by
 obtain ⟨f, ix, e⟩ := h.form
 exact ⟨by rw [e]; simp, List.length_pos_iff.2 h.ne⟩
def five (l : List Rv) (s t : Int) : List Nat := [s.toNat, t.toNat, l.length, (low l).toNat, (high l).toNat]
theorem Fms.foot {b : List UInt8} {l : List Rv} {s t : Int} {gs : List (List Pr)} {L : List (UInt8 × List UInt8)} (h : Fms b l s t gs L) {p : UInt8 × List UInt8} (hp : L[L.length - 1]? = some p) : p.2 = nums (five l s t) := by
 have hl := h.len
 obtain ⟨f, ix, e⟩ := h.form
 rw [hl.1] at hp
 rw [e, List.getElem?_append_right (by rw [List.length_map]; omega)] at hp
 have e1 : gs.length + 3 - 1 - (gs.map (fun g => ((68 : UInt8), blkB 16 g))).length = 2 := by rw [List.length_map]; omega
 rw [e1] at hp
 have h2 : ((90 : UInt8), nums [s.toNat, t.toNat, l.length, (low l).toNat, (high l).toNat]) = p := by simpa using hp
 rw [← h2]; rfl
theorem Fms.block {b : List UInt8} {l : List Rv} {s t : Int} {gs : List (List Pr)} {L : List (UInt8 × List UInt8)} (h : Fms b l s t gs L) {i : Nat} (hi : i < L.length - 3) {p : UInt8 × List UInt8} (hp : L[i]? = some p) : ∃ g, gs[i]? = some g ∧ Blk.WFb p.2 g ∧ g ≠ [] := by
 have hl := h.len
 have hi' : i < gs.length := by omega
 obtain ⟨f, ix, e⟩ := h.form
 rw [e, List.getElem?_append_left (by rw [List.length_map]; exact hi'), List.getElem?_map, List.getElem?_eq_getElem hi'] at hp
 have h2 : ((68 : UInt8), blkB 16 gs[i]) = p := by simpa using hp
 refine ⟨gs[i], List.getElem?_eq_getElem hi', ?_, h.gne _ (List.getElem_mem _)⟩
 rw [← h2]
 exact h.wf _ (List.getElem_mem _)
def NR (b : List UInt8) (told : List Nat) (rest : List UInt8) : Prop := ∀ l s t, Is b l s t → ∃ tl, five l s t = told ++ tl ∧ rest = nums tl
theorem five_bd {b : List UInt8} {l : List Rv} {s t : Int} (h : Is b l s t) : ∀ n ∈ five l s t, n ≤ 1099511627776 := by
 have u := h.unf
 have hb := lohi_bd l u.r (by have := u.l1; omega) l.length (Nat.le_refl _)
 rw [lowK_all, highK_all] at hb
 have h1 := u.s2; have h2 := u.t2; have h3 := u.l2
 intro n hn
 simp only [five, List.mem_cons, List.not_mem_nil, or_false] at hn
 rcases hn with rfl | rfl | rfl | rfl | rfl <;> omega
theorem nums_cons (n : Nat) (l : List Nat) : nums (n :: l) = Cod.number n ++ nums l := by simp [nums]
theorem NR.next {b rest : List UInt8} {told : List Nat} (h : NR b told rest) (hl : told.length < 5) {l : List Rv} {s t : Int} (hi : Is b l s t) : ∃ n r, Cod.take rest = some (n, r) ∧ n ≤ 1099511627776 ∧ ∃ tl, five l s t = (told ++ [n]) ++ tl ∧ r = nums tl := by
 obtain ⟨tl, e1, e2⟩ := h l s t hi
 cases tl with
 | nil =>
   have := congrArg List.length e1
   simp [five] at this
   omega
 | cons n tl =>
   have hn : n ≤ 1099511627776 := five_bd hi n (by rw [e1]; simp)
   refine ⟨n, nums tl, ?_, hn, tl, by rw [e1]; simp, rfl⟩
   rw [e2, nums_cons]
   exact Cod.take_of (by omega) _
theorem NR.step {b rest r : List UInt8} {told : List Nat} {n : Nat} (h : NR b told rest) (hl : told.length < 5) (ht : Cod.take rest = some (n, r)) : NR b (told ++ [n]) r := fun l s t hi => by
 obtain ⟨n', r', e, _, tl, e1, e2⟩ := h.next hl hi
 rw [ht] at e
 injection e with e; injection e with a c
 subst a c
 exact ⟨tl, e1, e2⟩
theorem NR.no {b rest : List UInt8} {told : List Nat} (h : NR b told rest) (hl : told.length < 5) (ht : Cod.take rest = none) (l : List Rv) (s t : Int) : ¬ Is b l s t := fun hi => by
 obtain ⟨_, _, e, _⟩ := h.next hl hi
 rw [ht] at e; cases e
theorem NR.big {b rest r : List UInt8} {told : List Nat} {n : Nat} (h : NR b told rest) (hl : told.length < 5) (ht : Cod.take rest = some (n, r)) (hn : ¬ n ≤ 1099511627776) (l : List Rv) (s t : Int) : ¬ Is b l s t := fun hi => by
 obtain ⟨n', _, e, h1, _⟩ := h.next hl hi
 rw [ht] at e
 injection e with e; injection e with a _
 subst a
 exact hn h1
theorem NR.all {b rest : List UInt8} {told : List Nat} (h : NR b told rest) (hl : told.length = 5) {l : List Rv} {s t : Int} (hi : Is b l s t) : told = five l s t := by
 obtain ⟨tl, e1, _⟩ := h l s t hi
 have := congrArg List.length e1
 have h5 : (five l s t).length = 5 := rfl
 rw [List.length_append] at this
 have : tl = [] := List.length_eq_zero_iff.1 (by omega)
 rw [e1, this, List.append_nil]
theorem NR.two {b rest : List UInt8} {n m : Nat} (h : NR b [n, m] rest) {l : List Rv} {s t : Int} (hi : Is b l s t) : s = (n : Int) ∧ t = (m : Int) ∧ n ≤ 32768 ∧ m ≤ 32 ∧ rest.length ≤ 30 := by
 have u := hi.unf
 obtain ⟨tl, e1, e2⟩ := h l s t hi
 unfold five at e1
 injection e1 with a1 e1
 injection e1 with a2 e1
 have h1 := u.s1; have h2 := u.s2; have h3 := u.t1; have h4 := u.t2
 refine ⟨by omega, by omega, by omega, by omega, ?_⟩
 have hb := five_bd hi
 have e3 : tl = [l.length, (low l).toNat, (high l).toNat] := e1.symm
 rw [e2, e3]
 have := nums_len [l.length, (low l).toNat, (high l).toNat] (fun n hn => by
   have := hb n (by unfold five; simp only [List.mem_cons] at hn ⊢; rcases hn with h | h | h | h <;> simp [h])
   omega) 3 (Nat.le_refl _)
 simpa using this
def TR (b : List UInt8) (L : List (UInt8 × List UInt8)) (i j : Nat) (R : List Rv) : Prop := ∀ l s t gs, Is b l s t → Fms b l s t gs L → R.length = (gs.take i).flatten.length + j ∧ R.map Rv.core = (l.map Rv.core).take R.length
theorem TR.start (b : List UInt8) (L : List (UInt8 × List UInt8)) : TR b L 0 0 [] := fun _ _ _ _ _ _ => ⟨rfl, rfl⟩
theorem flat_at {gs : List (List Pr)} {g : List Pr} {i j : Nat} {p : Pr} (hg : gs[i]? = some g) (hp : g[j]? = some p) : gs.flatten[(gs.take i).flatten.length + j]? = some p := by
 obtain ⟨hi, e⟩ := List.getElem?_eq_some_iff.1 hg
 have e2 : gs = gs.take i ++ g :: gs.drop (i + 1) := by
   rw [← e, List.getElem_cons_drop, List.take_append_drop]
 have hj := (List.getElem?_eq_some_iff.1 hp).1
 have e3 : gs.flatten = (gs.take i).flatten ++ (g ++ (gs.drop (i + 1)).flatten) := by
   conv => lhs; rw [e2]
   rw [List.flatten_append, List.flatten_cons]
 rw [e3, List.getElem?_append_right (by omega), Nat.add_sub_cancel_left, List.getElem?_append_left hj]
 exact hp
theorem TR.next {b : List UInt8} {L : List (UInt8 × List UInt8)} {i j : Nat} {R : List Rv} {p : Pr} {v : Option (List UInt8 × Int × Bool × List UInt8)} (h : TR b L i j R) (hv : RecOf p v) {l : List Rv} {s t : Int} {gs : List (List Pr)} (hi : Is b l s t) (hf : Fms b l s t gs L) {g : List Pr} (hg : gs[i]? = some g) (hp : g[j]? = some p) :
   ∃ r, l[R.length]? = some r ∧ v = some r.core := by
 obtain ⟨h1, h2⟩ := h l s t gs hi hf
 have h3 := flat_at hg hp
 rw [hf.flat, ← h1, List.getElem?_map] at h3
 obtain ⟨r, hr, e⟩ := Option.map_eq_some_iff.1 h3
 refine ⟨r, hr, hv r (hi.unf.r r ?_) e⟩
 obtain ⟨hx, e⟩ := List.getElem?_eq_some_iff.1 hr
 rw [← e]; exact List.getElem_mem _
def BR (b : List UInt8) (L : List (UInt8 × List UInt8)) (i : Nat) (P : List Pr) : Prop := ∀ l s t gs, Is b l s t → Fms b l s t gs L → gs[i]? = some P
theorem TR.step {b : List UInt8} {L : List (UInt8 × List UInt8)} {i j : Nat} {R : List Rv} {P : List Pr} {p : Pr} {r : Rv} (h : TR b L i j R) (hb : BR b L i P) (hp : P[j]? = some p) (hv : RecOf p (some (r.k, r.seq, r.del, r.v))) : TR b L i (j + 1) (R ++ [r]) := fun l s t gs hi hf => by
 obtain ⟨h1, h2⟩ := h l s t gs hi hf
 obtain ⟨r', hr, e⟩ := h.next hv hi hf (hb l s t gs hi hf) hp
 injection e with e
 refine ⟨by rw [List.length_append, h1]; simp; omega, ?_⟩
 rw [List.map_append, h2, List.length_append, List.length_singleton, List.take_add_one]
 congr 1
 rw [List.getElem?_map, hr]
 show [r.core] = [r'.core]
 rw [← e]; rfl
theorem TR.no {b : List UInt8} {L : List (UInt8 × List UInt8)} {i j : Nat} {R : List Rv} {P : List Pr} {p : Pr} (h : TR b L i j R) (hb : BR b L i P) (hp : P[j]? = some p) (hv : RecOf p none) {r : List UInt8} (hs : Frm.Scans b L r) (hn : Frm.take r = none) (l : List Rv) (s t : Int) : ¬ Is b l s t := fun hi => by
 obtain ⟨_, gs, hf⟩ := hi.scanned hs hn
 obtain ⟨r', _, e⟩ := h.next hv hi hf (hb l s t gs hi hf) hp
 cases e
theorem TR.block {b : List UInt8} {L : List (UInt8 × List UInt8)} {i : Nat} {R : List Rv} {P : List Pr} (h : TR b L i P.length R) (hb : BR b L i P) : TR b L (i + 1) 0 R := fun l s t gs hi hf => by
 obtain ⟨h1, h2⟩ := h l s t gs hi hf
 obtain ⟨hx, e⟩ := List.getElem?_eq_some_iff.1 (hb l s t gs hi hf)
 refine ⟨?_, h2⟩
 rw [h1, List.take_succ_eq_append_getElem hx, List.flatten_append, e]
 simp
theorem BR.of {b : List UInt8} {L : List (UInt8 × List UInt8)} {i : Nat} {f : UInt8 × List UInt8} {P : List Pr} (hL : L[i]? = some f) (hi : i < L.length - 3) (hP : ∀ l0, Blk.WFb f.2 l0 → l0 = P) : BR b L i P := fun l s t gs h hf => by
 obtain ⟨g, h1, h2, _⟩ := hf.block hi hL
 rw [h1, hP g h2]
theorem block_no {b r : List UInt8} {L : List (UInt8 × List UInt8)} {i : Nat} {f : UInt8 × List UInt8} (hL : L[i]? = some f) (hi : i < L.length - 3) (hP : ∀ l0, ¬ Blk.WFb f.2 l0) (hs : Frm.Scans b L r) (hn : Frm.take r = none) (l : List Rv) (s t : Int) : ¬ Is b l s t := fun h => by
 obtain ⟨_, gs, hf⟩ := h.scanned hs hn
 obtain ⟨g, h1, h2, _⟩ := hf.block hi hL
 exact hP g h2
theorem BR.ne {b r : List UInt8} {L : List (UInt8 × List UInt8)} {i : Nat} (h : BR b L i []) (hs : Frm.Scans b L r) (hn : Frm.take r = none) (l : List Rv) (s t : Int) : ¬ Is b l s t := fun hi => by
 obtain ⟨_, gs, hf⟩ := hi.scanned hs hn
 obtain ⟨hx, e⟩ := List.getElem?_eq_some_iff.1 (h l s t gs hi hf)
 exact hf.gne _ (List.getElem_mem hx) e
theorem TR.few {b : List UInt8} {L : List (UInt8 × List UInt8)} {i j : Nat} {R : List Rv} (h : TR b L i j R) {r : List UInt8} (hs : Frm.Scans b L r) (hn : Frm.take r = none) {l : List Rv} {s t : Int} (hi : Is b l s t) : R.length ≤ 20000 := by
 obtain ⟨_, gs, hf⟩ := hi.scanned hs hn
 obtain ⟨_, h2⟩ := h l s t gs hi hf
 have := congrArg List.length h2
 rw [List.length_map, List.length_take, List.length_map] at this
 have := hi.unf.l2
 omega
theorem TR.all {b : List UInt8} {L : List (UInt8 × List UInt8)} {R : List Rv} (h : TR b L (L.length - 3) 0 R) {r : List UInt8} (hs : Frm.Scans b L r) (hn : Frm.take r = none) {l : List Rv} {s t : Int} (hi : Is b l s t) : l.map Rv.core = R.map Rv.core := by
 obtain ⟨_, gs, hf⟩ := hi.scanned hs hn
 obtain ⟨h1, h2⟩ := h l s t gs hi hf
 have hl := hf.len
 have e : L.length - 3 = gs.length := by omega
 rw [e, List.take_length, hf.flat, List.length_map] at h1
 rw [h2, List.take_of_length_le (by rw [List.length_map]; omega)]
end Tb
end Go.Proofs.YtgafionfojnieaaGreatDoor
