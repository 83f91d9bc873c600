/- Parts of the proof, one behind the other: The contract of block.Parse. -/
import Derived.Test.YtgafionfojnieaaDoorMrg42
namespace Go.Proofs.YtgafionfojnieaaDoor
open Go.RowKit

/-- What lies in a round of Parse: H is the heap's size at the loop's start; gx, gb, gl: the block's parts, the two boxes. -/
structure PaI (w : World) (n gx gb gl : Nat) (XV : Obj) (B : Option Addr) (d : Nat) (r : List UInt8) (OA : Option Addr) (OC : Nat) (o : List Pv) (NA : Option Addr) (NC : Nat) (hs : List Nat) (LA : Option Addr) (LC : Nat) (last : List UInt8) (wr : World) : Prop where
  x : wr.heap[gx]? = some XV
  bx : wr.heap[gb]? = some (.cells #[.slice B r.length d] 25)
  lx : wr.heap[gl]? = some (.cells #[.slice LA last.length LC] 25)
  out : OwnPv wr n OA OC o
  hds : OwnS Nc 1 wr n 3 NA NC hs
  last : Own wr n 5 LA LC last
  rest : HBs wr n B r
  cap : r.length ≤ d ∧ d ≤ 9223372036854775807
  below : Below n w wr
  ge : n ≤ gb ∧ n ≤ gl ∧ gb ≠ gl
  sz : n ≤ wr.heap.size
theorem OwnS.keep_ne {α : Type} {f : α → List Value} {n base c gb gl : Nat} {w w' : World} {e : TypeId} {A : Option Addr} {l : List α} {x y : Value} (h : OwnS f n w base e A c l) (he : e ≠ 25) (hb : w.heap[gb]? = some (.cells #[x] 25)) (hg : w.heap[gl]? = some (.cells #[y] 25))
    (hk : ∀ k, k < w.heap.size → k ≠ gb → k ≠ gl → w'.heap[k]? = w.heap[k]?) : OwnS f n w' base e A c l := h.keep (fun g hgg => by
  obtain ⟨_, cs, fr, h1⟩ := ownS_tag h hgg
  exact hk g (Array.getElem?_eq_some_iff.1 h1).1 (tag_ne2 h1 hb he) (tag_ne2 h1 hg he))
theorem Own.keep_ne {base c gb gl : Nat} {w w' : World} {A : Option Addr} {l : List UInt8} {x y : Value} (h : Own w base 5 A c l) (hb : w.heap[gb]? = some (.cells #[x] 25)) (hg : w.heap[gl]? = some (.cells #[y] 25))
    (hk : ∀ k, k < w.heap.size → k ≠ gb → k ≠ gl → w'.heap[k]? = w.heap[k]?) : Own w' base 5 A c l := own_keep2 h (fun g hgg => by
  obtain ⟨_, cs, fr, h1⟩ := own_tag h hgg
  exact hk g (Array.getElem?_eq_some_iff.1 h1).1 (tag_ne2 h1 hb (by decide)) (tag_ne2 h1 hg (by decide)))
theorem OwnS.kept_ne {α : Type} {f : α → List Value} {n base c : Nat} {w w' : World} {e T : TypeId} {A : Option Addr} {l : List α} {row : Option Nat} (h : OwnS f n w base e A c l) (hg : w.grownBy w' row) (hr : ∀ g, row = some g → ∃ cs fr, w.heap[g]? = some (.cells cs T fr)) (hT : e ≠ T) : OwnS f n w' base e A c l := by
  refine h.kept hg ?_
  rcases hA : blk A with _ | g
  · exact .inl rfl
  · refine .inr (fun e2 => ?_)
    obtain ⟨_, cs, fr, h1⟩ := ownS_tag h hA
    obtain ⟨cs', fr', h2⟩ := hr g e2.symm
    exact tag_ne2 h1 h2 hT rfl
theorem OwnPv.kept_ne {base c : Nat} {w w' : World} {T : TypeId} {A : Option Addr} {l : List Pv} {row : Option Nat} (h : OwnPv w base A c l) (hg : w.grownBy w' row) (hr : ∀ g, row = some g → ∃ cs fr, w.heap[g]? = some (.cells cs T fr)) (hT : 48 ≠ T) (hT2 : T ≠ 5) : OwnPv w' base A c l := by
  have nob : NoB w row := fun g hg => by
    obtain ⟨cs, fr, h1⟩ := hr g hg
    exact ⟨cs, T, fr, h1, hT2⟩
  exact ⟨h.row.kept_ne hg hr hT, fun p hp => ⟨(h.own p hp).1.kept_tag hg nob, (h.own p hp).2.kept_tag hg nob⟩⟩
section
variable {w wr w' : World} {n gx gb gl d OC NC LC : Nat} {XV : Obj} {B OA NA LA : Option Addr} {r : List UInt8} {o : List Pv} {hs : List Nat} {last : List UInt8}
theorem PaI.call (h : PaI w n gx gb gl XV B d r OA OC o NA NC hs LA LC last wr) (hb : Below wr.heap.size wr w') : PaI w n gx gb gl XV B d r OA OC o NA NC hs LA LC last w' :=
  ⟨(hb.block _ (Array.getElem?_eq_some_iff.1 h.x).1).trans h.x, (hb.block _ (Array.getElem?_eq_some_iff.1 h.bx).1).trans h.bx, (hb.block _ (Array.getElem?_eq_some_iff.1 h.lx).1).trans h.lx, h.out.call hb, h.hds.below hb, h.last.below hb, h.rest.below hb, h.cap, h.below.trans (hb.mono h.sz), h.ge, Nat.le_trans h.sz hb.size⟩
theorem PaI.grow (h : PaI w n gx gb gl XV B d r OA OC o NA NC hs LA LC last wr) {row : Option Nat} {T : TypeId} (hT : T ≠ 5 ∧ T ≠ 25 ∧ ∀ cs fr, XV ≠ .cells cs T fr) (hr : ∀ g, row = some g → n ≤ g ∧ ∃ cs fr, wr.heap[g]? = some (.cells cs T fr)) (hg : wr.grownBy w' row)
    {OA' NA' : Option Addr} {OC' NC' : Nat} {o' : List Pv} {hs' : List Nat} (ho : OwnPv w' n OA' OC' o') (hh : OwnS Nc 1 w' n 3 NA' NC' hs') : PaI w n gx gb gl XV B d r OA' OC' o' NA' NC' hs' LA LC last w' := by
  have nob : NoB wr row := fun g hgg => by
    obtain ⟨_, cs, fr, h1⟩ := hr g hgg
    exact ⟨cs, T, fr, h1, hT.1⟩
  have ne1 : ∀ k cs fr, wr.heap[k]? = some (.cells cs 25 fr) → some k ≠ row := fun k cs fr hk e => by
    obtain ⟨_, cs', fr', h1⟩ := hr k e.symm
    exact tag_ne2 hk h1 (fun e => hT.2.1 e.symm) rfl
  have nex : some gx ≠ row := fun e => by
    obtain ⟨_, cs', fr', h1⟩ := hr gx e.symm
    rw [h.x] at h1
    injection h1 with h1
    exact hT.2.2 _ _ h1
  exact ⟨(hg.block _ (Array.getElem?_eq_some_iff.1 h.x).1 nex).trans h.x, (hg.block _ (Array.getElem?_eq_some_iff.1 h.bx).1 (ne1 _ _ _ h.bx)).trans h.bx, (hg.block _ (Array.getElem?_eq_some_iff.1 h.lx).1 (ne1 _ _ _ h.lx)).trans h.lx, ho, hh,
    h.last.kept_tag hg nob, h.rest.grown hg nob (fun g hgg => (hr g hgg).1), h.cap, h.below.grown hg h.sz (fun g hgg => (hr g hgg).1), h.ge, Nat.le_trans h.sz hg.size⟩
theorem PaI.next (h : PaI w n gx gb gl XV B d r OA OC o NA NC hs LA LC last wr) (hx : gx ≠ gb ∧ gx ≠ gl) {p : Pr} {R3 : List UInt8} {q : Pv} {B3 LA' : Option Addr} {d3 LC' : Nat} (hn : NextOk wr n gb gl p R3 q B3 d3 LA' LC' w') : PaI w n gx gb gl XV B3 d3 R3 OA OC o NA NC hs LA' LC' p.k w' := by
  refine ⟨(hn.keep _ (Array.getElem?_eq_some_iff.1 h.x).1 hx.1 hx.2).trans h.x, hn.bx, hn.lx, ⟨h.out.row.keep_ne (by decide) h.bx h.lx hn.keep, fun q hq => ⟨(h.out.own q hq).1.keep_ne h.bx h.lx hn.keep, (h.out.own q hq).2.keep_ne h.bx h.lx hn.keep⟩⟩, h.hds.keep_ne (by decide) h.bx h.lx hn.keep, hn.last.mono h.sz, hn.rest, hn.cap, h.below.trans hn.below, h.ge, Nat.le_trans h.sz hn.size⟩
end
namespace Blk
theorem ents_snoc (E : Nat) : ∀ (l : List Pr) (i : Nat) (last : List UInt8) (m : List Pr), ents E i last (l ++ m) = ents E i last l ++ ents E (i + l.length) ((l.getLast?.map Pr.k).getD last) m := by
  intro l
  induction l with
  | nil => intro i last m; simp [ents]
  | cons p l ih =>
    intro i last m
    rw [List.cons_append, ents, ents, ih, List.append_assoc, List.length_cons]
    congr 2
    rw [show i + 1 + l.length = i + (l.length + 1) by omega]
    congr 1
    cases l with
    | nil => simp
    | cons q l =>
      rw [List.getLast?_cons_cons, List.getLast?_eq_some_getLast (by simp : q :: l ≠ [])]
      rfl
theorem hds_snoc (E : Nat) : ∀ (l : List Pr) (i o : Nat) (last : List UInt8) (p : Pr), hds E i o last (l ++ [p]) = hds E i o last l ++ (if (i + l.length) % E = 0 then [o + (ents E i last l).length] else []) := by
  intro l
  induction l with
  | nil => intro i o last p; simp [hds, ents]
  | cons q l ih =>
    intro i o last p
    rw [List.cons_append, hds, ih, hds, List.append_assoc, List.length_cons, ents, List.length_append]
    congr 2
    rw [show i + 1 + l.length = i + (l.length + 1) by omega, Nat.add_assoc o]
theorem WRel.off {b last rest : List UInt8} {o : List Pr} (h : WRel b o last rest) (hk : lastK o = last) {l0 : List Pr} (hw : WFb b l0) : b.length - 5 - 4 * many b = (ents 16 0 [] o).length + rest.length := by
  obtain ⟨l2, e1, e2⟩ := h l0 hw
  obtain ⟨_, _, _, h4, h5, _⟩ := tail_of hw
  have h6 := congrArg List.length h5
  rw [e1, ents_snoc, List.length_append, List.length_take] at h6
  have h7 : (o.getLast?.map Pr.k).getD [] = last := hk
  rw [h7, Nat.zero_add, ← e2] at h6
  omega
/-- The heads so far. -/
def HRel (b : List UInt8) (o : List Pr) (hs : List Nat) : Prop := ∀ l0, WFb b l0 → hs = hds 16 0 0 [] o
theorem HRel.step {b last rest : List UInt8} {o : List Pr} {hs : List Nat} {p : Pr} {Z : Nat} (h : HRel b o hs) (hr : WRel b o last rest) (hk : lastK o = last) (hZ : Z = b.length - 5 - 4 * many b) : HRel b (o ++ [p]) (hs ++ (if o.length % 16 = 0 then [Z - rest.length] else [])) := fun l0 hw => by
  rw [hds_snoc, ← h l0 hw, Nat.zero_add, Nat.zero_add]
  have := hr.off hk hw
  rw [show Z - rest.length = (ents 16 0 [] o).length by omega]
end Blk
set_option maxHeartbeats 4000000 in
set_option maxRecDepth 100000 in
theorem parse_any (A : Option Addr) (c : Nat) (b : List UInt8) (w : World) (h : RdB w w.heap.size A b) (hl : b.length ≤ 65536) (hc : b.length ≤ c) (hcc : c ≤ 9223372036854775807) :
    Calls Tryd.prog 35 #[.slice A b.length c] w (ParsedP w b) := by
  have HH := Lib.hid h
  have KS := Lib.hid (split_any A c b w h hl hc hcc)
  clear h
  go_enter Tryd.func35, Tryd.ntmps35
  go_wp2_with fail
  refine KS.out.mono ?_
  rintro e w1 ⟨hb1, ⟨rfl, hno⟩ | ⟨HA, HC, ev, rfl, h5, hown, hev1, hev2, h16⟩⟩
  · have HG := Lib.hid (fun o => parsed_no (b := b) (hb1.trans ((((Below.refl w1.heap.size w1).alloc (Nat.le_refl _) o)).mono hb1.size)) 3 (by decide) hno)
    clear hb1 hno
    go_wp2_with fail
    go_ret2
    exact HG.out _
  · obtain ⟨Z, hZ⟩ : ∃ Z, Z = b.length - 5 - 4 * Blk.many b := ⟨_, rfl⟩
    obtain ⟨M, hM⟩ : ∃ M, M = (Blk.headsOf b (Blk.many b)).length := ⟨_, rfl⟩
    rw [← hZ, ← hM]
    have HB1 := Lib.hid hb1
    have HOWN := Lib.hid hown
    have H16 := Lib.hid h16
    have HZM : Hid (Z = b.length - 5 - 4 * Blk.many b ∧ M = (Blk.headsOf b (Blk.many b)).length) := Lib.hid ⟨hZ, hM⟩
    have hZb : Z ≤ b.length := by omega
    clear hb1 hown h16 hZ hM h5
    go_wp2_with fail
    obtain ⟨X0, hX0⟩ : ∃ X0, X0 = w1.alloc (.cells #[.slice A Z c, .slice HA M HC, .int .i64 (ev : Int)] 127) := ⟨_, rfl⟩
    have hx0 : X0.heap[w1.heap.size]? = some (.cells #[.slice A Z c, .slice HA M HC, .int .i64 (ev : Int)] 127) := by rw [hX0]; exact heap_alloc_new _ _
    have hz0 : X0.heap.size = w1.heap.size + 1 := by rw [hX0]; simp
    have hb0 : Below w1.heap.size w1 X0 := by rw [hX0]; exact (Below.refl _ _).alloc (Nat.le_refl _) _
    rw [← hX0]
    have HX0 := Lib.hid hx0
    have HZ0 := Lib.hid hz0
    have HB0 := Lib.hid hb0
    have HKEEP : Hid (∀ w', Below X0.heap.size X0 w' → w'.cell? ⟨w1.heap.size, 0, none⟩ = some (.slice A Z c) ∧ Below X0.heap.size X0 w') := Lib.hid (fun w' hb => ⟨by
      rw [cell_of_row w' w1.heap.size 0 _ _ (0, 0) ((hb.block _ (by omega)).trans hx0)]; rfl, hb⟩)
    clear hX0 hx0 hz0 hb0
    go_region_held (fun w' => w'.cell? ⟨w1.heap.size, 0, none⟩ = some (.slice A Z c) ∧ Below X0.heap.size X0 w') (first | exact HKEEP.out _ ((Below.refl _ _).drew) | exact HKEEP.out _ ((((Below.refl X0.heap.size X0).alloc (Nat.le_refl _) _).alloc (by simp) _).drew) | exact HKEEP.out _ (((Below.refl X0.heap.size X0).alloc (Nat.le_refl _) _).alloc (by simp) _))
      (first | (go_at_call 63; refine (pairs_any A Z c _).mono ?_; rintro e w2 ⟨rfl, rfl⟩))
    obtain ⟨W6, hW6⟩ : ∃ W6, W6 = ((X0.alloc (.cells #[.slice A Z c] 25)).alloc (.cells #[.slice none 0 0] 25)).drew := ⟨_, rfl⟩
    rw [← hW6]
    have hb6 : Below X0.heap.size X0 W6 := by rw [hW6]; exact (((Below.refl X0.heap.size X0).alloc (Nat.le_refl _) _).alloc (by simp) _).drew
    have y0 : W6.heap[X0.heap.size]? = some (.cells #[.slice A Z c] 25) := by
      rw [hW6]
      show ((X0.alloc (.cells #[.slice A Z c] 25)).alloc (.cells #[.slice none 0 0] 25)).heap[X0.heap.size]? = _
      rw [heap_alloc_old _ _ (by simp)]; exact heap_alloc_new _ _
    have y1 : W6.heap[X0.heap.size + 1]? = some (.cells #[.slice none 0 0] 25) := by
      rw [hW6]
      show ((X0.alloc (.cells #[.slice A Z c] 25)).alloc (.cells #[.slice none 0 0] 25)).heap[X0.heap.size + 1]? = _
      have := heap_alloc_new (X0.alloc (.cells #[.slice A Z c] 25)) (.cells #[.slice none 0 0] 25)
      simpa using this
    have y2 := (hb6.block _ (by have := HZ0.out; omega)).trans HX0.out
    have hb16 : Below w1.heap.size w1 W6 := HB0.out.trans (hb6.mono HB0.out.size)
    have hbw6 : Below w.heap.size w W6 := HB1.out.trans (hb16.mono HB1.out.size)
    have hzl : (b.take Z).length = Z := by rw [List.length_take]; omega
    obtain ⟨r0, hr0⟩ : ∃ r0, r0 = b.take Z := ⟨_, rfl⟩
    have hrl : r0.length = Z := by rw [hr0]; exact hzl
    have hHB : HBs W6 X0.heap.size A r0 := ⟨by rw [hr0]; exact ((HH.out.take hZb).below hbw6 (Nat.le_refl _)).more hbw6.size, fun hne g hg => by
      have hb0 : 0 < b.length := by
        rcases Nat.eq_zero_or_pos b.length with h0 | h0
        · exfalso; apply hne; rw [hr0, List.eq_nil_of_length_eq_zero h0]; simp
        · exact h0
      obtain ⟨ad, e, h1, _⟩ := HH.out.2 hb0
      rw [e] at hg
      have : ad.block = g := by simpa [blk] using hg
      exact .inl (by have := HB1.out.size; have := HZ0.out; omega)⟩
    have HI0 : Hid (PaI W6 X0.heap.size w1.heap.size X0.heap.size (X0.heap.size + 1) (.cells #[.slice A Z c, .slice HA M HC, .int .i64 (ev : Int)] 127) A c r0 none 0 [] none 0 [] none 0 [] W6) := Lib.hid
      ⟨y2, by rw [hrl]; exact y0, y1, OwnPv.nil, OwnS.nil _ _ _, Own.nil _ _ _, hHB, ⟨by omega, hcc⟩, Below.refl _ _, ⟨by omega, by omega, by omega⟩, hb6.size⟩
    have HBW : Hid (∀ wr, Below X0.heap.size W6 wr → Below w.heap.size w wr) := Lib.hid (fun wr hb => hbw6.trans (hb.mono (by have := HB1.out.size; have := HZ0.out; omega)))
    have HXH : Hid (∀ wr, Below X0.heap.size W6 wr → RdS Nc 1 wr wr.heap.size HA (Blk.headsOf b (Blk.many b))) := Lib.hid (fun wr hb => by
      have hb1r : Below w1.heap.size w1 wr := hb16.trans (hb.mono (by have := HZ0.out; omega))
      exact (HOWN.out.rd.below hb1r (Nat.le_refl _)).more hb1r.size)
    have HW0 : Hid (Blk.WRel b [] [] r0) := Lib.hid (by have := Blk.WRel.start (b := b); rw [← HZM.out.1] at this; rwa [hr0])
    have HRL := Lib.hid hrl
    obtain ⟨gx, hgx⟩ : ∃ gx, gx = w1.heap.size := ⟨_, rfl⟩
    obtain ⟨gb, hgb⟩ : ∃ gb, gb = X0.heap.size := ⟨_, rfl⟩
    rw [← hgx, ← hgb] at HI0
    rw [← hgb] at HBW HXH
    have HGE : Hid (w.heap.size ≤ gb) := Lib.hid (by have := HB1.out.size; have := HZ0.out; omega)
    rw [← hgx, ← hgb]
    have HLT : Hid (w1.heap.size ≤ gx ∧ gx < gb) := Lib.hid ⟨by omega, by have := HZ0.out; omega⟩
    clear hW6 hb6 y0 y1 y2 hb16 hbw6 hzl hHB hr0 hgx hgb HKEEP
    go_wp2_with fail
    rw [show Value.slice A Z c = Value.slice A r0.length c by rw [HRL.out]]
    clear hrl
    obtain ⟨XV, hXV⟩ : ∃ XV : Obj, XV = .cells #[.slice A Z c, .slice HA M HC, .int .i64 (ev : Int)] 127 := ⟨_, rfl⟩
    rw [← hXV] at HI0
    have HXV := Lib.hid hXV
    clear hXV HX0 HZ0 HB0
    go_loopw [6, 7, 9] (fun oo hh ll wr => ∃ (B : Option Addr) (d : Nat) (r : List UInt8) (OA : Option Addr) (OC : Nat) (o : List Pv) (NA : Option Addr) (NC : Nat) (hs : List Nat) (LA : Option Addr) (LC : Nat) (last : List UInt8), oo = .slice OA o.length OC ∧ hh = .slice NA hs.length NC ∧ ll = .slice B r.length d ∧
      Hid (PaI W6 gb gx gb (gb + 1) XV B d r OA OC o NA NC hs LA LC last wr) ∧ Hid (Blk.WRel b (o.map Pv.pr) last r ∧ Blk.lastK (o.map Pv.pr) = last ∧ (ev = 16 → Blk.HRel b (o.map Pv.pr) hs)) ∧ Hid (o.length + r.length ≤ Z ∧ last.length + r.length ≤ Z ∧ hs.length ≤ o.length ∧ ∀ p ∈ o, p.k.length ≤ Z ∧ p.v.length ≤ Z)) (fun _ _ ll _ => (match ll with | .slice _ n _ => n | _ => 0))
    case atStart => exact ⟨A, c, r0, none, 0, [], none, 0, [], none, 0, [], rfl, rfl, rfl, HI0, Lib.hid ⟨HW0.out, rfl, fun _ l0 _ => rfl⟩, Lib.hid ⟨by simp [HRL.out], by simp [HRL.out], by simp, fun p hp => by cases hp⟩⟩
    case round =>
      obtain ⟨B, d, r, OA, OC, o, NA, NC, hs, LA, LC, last, rfl, rfl, rfl, HI, HW, HL⟩ := hrel
      have hL := HL.out
      by_cases hr : r = []
      · subst hr
        have x1 : wr.cell? ⟨gx, 1, none⟩ = some (.slice HA M HC) := by
          have h1 := HI.out.x
          rw [HXV.out] at h1
          rw [cell_of_row wr gx 1 _ _ (0, 0) h1]; rfl
        have KE := Lib.hid (eqn_any NA NC hs HA HC (Blk.headsOf b (Blk.many b)) wr HI.out.hds.rd (HXH.out wr HI.out.below) (by omega))
        rw [← HZM.out.2] at KE
        have HFIN : Hid (∀ l0, Blk.WFb b l0 → l0 = o.map Pv.pr) := Lib.hid (fun l0 hw => HW.out.1.fin hw)
        have HHE : Hid (∀ l0, Blk.WFb b l0 → hs = Blk.headsOf b (Blk.many b)) := Lib.hid (fun l0 hw => by
          rw [HW.out.2.2 (H16.out l0 hw) l0 hw, Blk.heads_wf hw (by omega), ← HFIN.out l0 hw])
        obtain ⟨eq, heq⟩ : ∃ eq, eq = (hs == Blk.headsOf b (Blk.many b)) := ⟨_, rfl⟩
        rw [← heq] at KE
        have HEQ := Lib.hid heq
        clear heq
        go_wp2_with fail
        refine KE.out.mono ?_
        rintro e w5 ⟨rfl, hb5⟩
        have HB5 := Lib.hid (HBW.out _ (HI.out.below.trans (hb5.mono HI.out.sz)))
        have HO5 := Lib.hid ((HI.out.out.call hb5).mono HGE.out)
        clear hb5 x1
        rcases eq with _ | _
        · have HG := Lib.hid (parsed_no (b := b) HB5.out 3 (by decide) (fun l0 hw => by
            have h1 := HEQ.out
            rw [HHE.out l0 hw] at h1
            simp at h1))
          go_wp2_with fail
          go_ret2
          exact HG.out
        · by_cases hmany : (20000 : Int) < (o.length : Int)
          · have HG := Lib.hid (parsed_no (b := b) HB5.out 3 (by decide) (fun l0 hw => by
              have h1 := hw.few.1
              rw [HFIN.out l0 hw, List.length_map] at h1
              omega))
            go_wp2_with fail
            go_ret2
            exact HG.out
          · go_wp2_with fail
            go_ret2
            exact ⟨HB5.out, .inr ⟨o, OA, OC, rfl, HO5.out, by omega, fun p hp => by have := HL.out.2.2.2 p hp; omega, HFIN.out⟩⟩
      have hrp : 0 < r.length := List.length_pos_iff.2 hr
      have x2 : wr.cell? ⟨gx, 2, none⟩ = some (.int .i64 (ev : Int)) := by
        have h1 := HI.out.x
        rw [HXV.out] at h1
        rw [cell_of_row wr gx 2 _ _ (0, 0) h1]; rfl
      have hev0 : ¬ ((ev : Int) = 0) := by omega
      by_cases hhd : o.length % ev = 0
      · have hq1 : (o.length : Int) % (ev : Int) = 0 := by omega
        have x0 : wr.cell? ⟨gx, 0, none⟩ = some (.slice A Z c) := by
          have h1 := HI.out.x
          rw [HXV.out] at h1
          rw [cell_of_row wr gx 0 _ _ (0, 0) h1]; rfl
        obtain ⟨hv, hhv⟩ : ∃ hv, hv = Z - r.length := ⟨_, rfl⟩
        have hzr : (Z : Int) - (r.length : Int) = (hv : Int) := by omega
        have HHV := Lib.hid hhv
        have hwz := HI.out.sz
        clear hhv
        go_wp2_with (at_builtin; refine wpList_append_s _ rfl _ _ intT rfl gb NA NC hs rfl (HI.out.hds.alloc _) (wr.heap.size + 1) (some ⟨wr.heap.size, 0, none⟩) 1 1 [hv] rfl rfl (rd_int_new wr hv) (by simp; omega) (by unfold maxLen; simp; omega) (by simp; omega) ?_)
        intro NA2 NC2 hs2 wq hL2 ho2 hg2 hat2
        have hrow : ∀ g, blk NA = some g → gb ≤ g ∧ ∃ cs fr, (wr.alloc (.cells #[.int .i64 (hv : Int)] 3)).heap[g]? = some (.cells cs 3 fr) := fun g hg => ownS_tag (HI.out.hds.alloc _) hg
        have hIa := HI.out.call ((Below.refl wr.heap.size wr).alloc (Nat.le_refl _) (.cells #[.int .i64 (hv : Int)] 3))
        have HI2 : Hid (PaI W6 gb gx gb (gb + 1) XV B d r OA OC o NA2 NC2 hs2 LA LC last wq) := Lib.hid (hIa.grow ⟨by decide, by decide, fun cs fr e => by rw [HXV.out] at e; injection e with _ e2; exact absurd e2 (by decide)⟩ hrow hg2 (hIa.out.kept_ne hg2 (fun g hg => (hrow g hg).2) (by decide) (by decide)) (by rw [hL2] at ho2 ⊢; exact ho2))
        have HHS : Hid (hs2 = hs ++ [hv] ∧ hs2.length = hs.length + 1) := Lib.hid ⟨hL2, by rw [hL2]; simp⟩
        have hhl : hs2.length ≤ hs.length + 1 := Nat.le_of_eq HHS.out.2
        clear hL2 ho2 hg2 hat2 hrow hIa x0 x2 hzr
        have HHB : Hid (∀ l0, Blk.WFb b l0 → (o.length % 16 == 0) = true) := Lib.hid (fun l0 hw => by
          have h1 := H16.out l0 hw
          rw [← h1]; simpa using hhd)
        have KT := next_true gb (gb + 1) gb r B d last LA LC wq HI2.out.bx HI2.out.lx HI2.out.rest HI2.out.cap.1 HI2.out.cap.2 HI2.out.last HI2.out.ge.2.2 HI2.out.ge.1 HI2.out.ge.2.1 (by omega) (by omega) hr
        cases hn : Blk.nextP true last r with
        | none =>
          rw [hn] at KT
          have HK := Lib.hid KT
          have HNO : Hid (∀ l0, ¬ Blk.WFb b l0) := Lib.hid (fun l0 hw => HW.out.1.noP hr (by omega) HW.out.2.1 (by rw [List.length_map, HHB.out l0 hw]; exact hn) l0 hw)
          clear KT hn
          go_wp2_with fail
          refine HK.out.mono ?_
          rintro e w4 ⟨x, hx, rfl, hb4⟩
          have hx1 : (x == 0) = false := by simpa using hx
          have hx2 : (x != 0) = true := by simpa using hx
          have HB4 := Lib.hid (HBW.out _ (HI2.out.below.trans (hb4.mono HI2.out.sz)))
          clear hb4 hx
          go_wp2_with fail
          go_quiet (fail)
          refine drewN_any ?_
          intro X hbX hXh
          clear hXh
          have HG := Lib.hid (parsed_no (b := b) (((HB4.out.alloc HB4.out.size (.cells #[.slice none 0 0, .slice none 0 0] 48)).trans (hbX.mono (by have := HB4.out.size; simp; omega)))) 3 (by decide) HNO.out)
          clear hbX
          go_wp2_with fail
          go_ret2
          exact HG.out
        | some v =>
          obtain ⟨p, R3⟩ := v
          rw [hn] at KT
          have HK := Lib.hid KT
          have HN : Hid (∀ l0, Blk.WFb b l0 → Blk.nextP ((o.map Pv.pr).length % 16 == 0) last r = some (p, R3)) := Lib.hid (fun l0 hw => by rw [List.length_map, HHB.out l0 hw]; exact hn)
          have hnl := Blk.nextP_len hn
          clear KT hn
          go_wp2_with fail
          refine HK.out.mono ?_
          rintro e w4 ⟨q, B3, d3, LA2, LC2, rfl, hok⟩
          have HI4 := Lib.hid (HI2.out.next ⟨by have := HLT.out; omega, by have := HLT.out; omega⟩ hok)
          have HQK := Lib.hid (hok.key.mono HI2.out.sz)
          have HQV := Lib.hid (hok.val.mono HI2.out.sz)
          have HQP := Lib.hid hok.pr
          clear hok
          obtain ⟨W4, hW4⟩ : ∃ W4, W4 = w4.alloc (.cells #[.slice q.kA q.k.length q.kc, .slice q.vA q.v.length q.vc] 48) := ⟨_, rfl⟩
          have hba : Below w4.heap.size w4 W4 := by rw [hW4]; exact (Below.refl _ _).alloc (Nat.le_refl _) _
          have hpx : W4.heap[w4.heap.size]? = some (.cells #[.slice q.kA q.k.length q.kc, .slice q.vA q.v.length q.vc] 48) := by rw [hW4]; exact heap_alloc_new _ _
          have HI5 := Lib.hid (HI4.out.call hba)
          have HQK5 := Lib.hid (HQK.out.below hba)
          have HQV5 := Lib.hid (HQV.out.below hba)
          have HPX := Lib.hid hpx
          have p0 := cell_of_row W4 w4.heap.size 0 _ _ (0, 0) hpx
          have p1 := cell_of_row W4 w4.heap.size 1 _ _ (0, 0) hpx
          simp only [List.getElem?_toArray, List.getElem?_cons_zero, List.getElem?_cons_succ] at p0 p1
          have HW4 := Lib.hid hW4
          have HKK : Hid (q.k = p.k) := Lib.hid (by rw [← HQP.out]; rfl)
          clear hba hpx hW4 HI4 HQK HQV
          go_wp2_with fail
          rw [← HW4.out]
          by_cases hp0 : 0 < o.length
          case' neg =>
            have hol : decide ((0 : Int) < (o.length : Int)) = false := decide_eq_false (by omega)
            have hol2 : ¬ ((0 : Int) < (o.length : Int)) := by omega
            go_quiet (fail)
            refine drewN_any ?_
            intro X hbX hXh
            clear hXh
          case' pos =>
            obtain ⟨n0, ho0⟩ : ∃ n0, o.length = n0 + 1 := ⟨o.length - 1, by omega⟩
            obtain ⟨ob, ooff, hOA, hobl, hrow⟩ := HI5.out.out.rd.row2 (by omega)
            have c0 := (hrow n0 (by omega)).1
            obtain ⟨ol, hol⟩ : ∃ ol, ol = o[n0]'(by omega) := ⟨_, rfl⟩
            rw [← hol] at c0
            have HLK : Hid (Blk.lastK (o.map Pv.pr) = ol.k) := Lib.hid (by
              unfold Blk.lastK
              rw [List.getLast?_map, List.getLast?_eq_getElem?, show o.length - 1 = n0 by omega, List.getElem?_eq_getElem (by omega), hol]
              rfl)
            have hrdl := (HI5.out.out.own ol (by rw [hol]; exact List.getElem_mem _)).1.rd
            have nq1 : IntKind.i64.wrap ((o.length : Int) - 1) = (n0 : Int) := by rw [IntKind.wrap_i64]; omega
            have nq2 : (0 : Int) ≤ (n0 : Int) := by omega
            have nq3 : (n0 : Int) < (o.length : Int) := by omega
            have nq4 : decide ((0 : Int) < (o.length : Int)) = true := decide_eq_true (by omega)
            have nq5 : (0 : Int) < (o.length : Int) := by omega
            obtain ⟨CV, hCV⟩ : ∃ CV, CV = Lib.compareBytes q.k ol.k := ⟨_, rfl⟩
            have KCV : Hid (∀ n, Calls Tryd.prog 40 #[.slice q.kA q.k.length q.kc, .slice ol.kA ol.k.length ol.kc] (W4.drewN n) fun e w' => e = .returned (.int .i64 CV) ∧ w' = W4.drewN n) := Lib.hid (fun n => by
              rw [hCV]
              exact (bcmp_any W4.heap.size q.kA q.kc q.k W4.heap.size ol.kA ol.kc ol.k (W4.drewN n) (Reads.drewN HQK5.out.rd n) (Reads.drewN hrdl n)).mono (fun e w' h => ⟨h.1, h.2.symm⟩))
            have HCV := Lib.hid hCV
            subst hOA
            have HO0 := Lib.hid ho0
            clear hCV hrow hol hrdl ho0
            by_cases hcv : CV ≤ 0
            case' pos =>
              have hcv2 : decide (CV ≤ 0) = true := decide_eq_true hcv
              have HNO : Hid (∀ l0, ¬ Blk.WFb b l0) := Lib.hid (fun l0 hw => by
                obtain ⟨p', l2, e1, e2⟩ := HW.out.1.nextP hr (by omega) HW.out.2.1 hw
                rw [HN.out l0 hw] at e2
                injection e2 with e2; injection e2 with e3 e4
                subst e3
                have h1 := Blk.srt_at (e1 ▸ hw.few.2) (by rw [List.length_map, HO0.out]; omega)
                rw [HLK.out] at h1
                have h2 := hcv
                rw [HCV.out, compareBytes_le, HKK.out, h1] at h2
                cases h2)
              clear hcv
              go_quiet ((go_at_call 40; exact Calls.quiet_of_same (KCV.out _)))
              refine drewN_any ?_
              intro X hbX hXh
              clear hXh
              have HG := Lib.hid (parsed_no (b := b) (HBW.out _ (HI5.out.below.trans (hbX.mono HI5.out.sz))) 3 (by decide) HNO.out)
              clear hbX
              go_wp2_with fail
              go_ret2
              exact HG.out
            have hcv2 : decide (CV ≤ 0) = false := decide_eq_false hcv
            clear hcv
            go_quiet ((go_at_call 40; exact Calls.quiet_of_same (KCV.out _)))
            refine drewN_any ?_
            intro X hbX hXh
            clear hXh
          case pos =>
            have HI6 := Lib.hid (HI5.out.call hbX)
            have HQK6 := Lib.hid (HQK5.out.below hbX)
            have HQV6 := Lib.hid (HQV5.out.below hbX)
            have hpx := (hbX.block _ (Array.getElem?_eq_some_iff.1 HPX.out).1).trans HPX.out
            have p0 := cell_of_row X w4.heap.size 0 _ _ (0, 0) hpx
            have p1 := cell_of_row X w4.heap.size 1 _ _ (0, 0) hpx
            simp only [List.getElem?_toArray, List.getElem?_cons_zero, List.getElem?_cons_succ] at p0 p1
            have hsz := HI6.out.sz
            have HX1 : Hid ((o.length + [q].length) * 48 ≤ 140737488355328) := Lib.hid (by simp; omega)
            have HX2 : Hid (o.length + [q].length ≤ maxLen) := Lib.hid (by unfold maxLen; simp; omega)
            have HX4 : Hid (∀ ob, gb ≤ (X.alloc ob).heap.size) := Lib.hid (fun ob => by simp; omega)
            have HX3 := Lib.hid HI6.out.out.row
            clear hbX hpx
            go_wp2_with (at_builtin; refine wpList_append_s _ rfl (.tmp 72) (.tmp 74) pairT rfl gb (some ⟨ob, ooff, none⟩) OC o rfl (HX3.out.alloc _) (X.heap.size + 1) (some ⟨X.heap.size, 0, none⟩) 1 1 [q] rfl rfl (rd_pair_new X q) HX1.out HX2.out (HX4.out _) ?_)
            intro OA' OC' o' w9 ho' hoS hgS hatS
            have hIa := HI6.out.call ((Below.refl X.heap.size X).alloc (Nat.le_refl _) (.cells #[.slice q.kA q.k.length q.kc, .slice q.vA q.v.length q.vc] 48))
            have hrow := fun g hg => ownS_tag (g := g) hIa.out.row hg
            rw [ho'] at hoS
            have HO9 := hIa.out.app (p := q) (HQK6.out.alloc _) (HQV6.out.alloc _) hoS hgS
            have HH9 := hIa.hds.kept_ne hgS (fun g hg => (hrow g hg).2) (by decide)
            have HI9 := Lib.hid (hIa.grow ⟨by decide, by decide, fun cs fr e => by rw [HXV.out] at e; injection e with _ e2; exact absurd e2 (by decide)⟩ hrow hgS HO9 HH9)
            rw [← ho'] at HI9
            have HM9 : Hid (o'.map Pv.pr = o.map Pv.pr ++ [p]) := Lib.hid (by rw [ho', List.map_append, List.map_cons, HQP.out]; rfl)
            have HLN9 : Hid (o'.length = o.length + 1 ∧ ∀ x ∈ o', x ∈ o ∨ x = q) := Lib.hid ⟨by rw [ho']; simp, fun x hx => by
              rw [ho'] at hx
              simpa using hx⟩
            clear ho' hoS hgS hatS hIa hrow HO9 HH9
            have HW9 : Hid (Blk.WRel b (o'.map Pv.pr) p.k R3 ∧ Blk.lastK (o'.map Pv.pr) = p.k ∧ (ev = 16 → Blk.HRel b (o'.map Pv.pr) hs2)) := Lib.hid (by
              rw [HM9.out]
              refine ⟨fun l0 hw => (HW.out.1.stepP hr (by omega) HW.out.2.1 (HN.out l0 hw)) l0 hw, Blk.lastK_snoc _ _, fun h16 => ?_⟩
              have h1 := (HW.out.2.2 h16).step (p := p) HW.out.1 HW.out.2.1 HZM.out.1
              rw [List.length_map] at h1
              rw [if_pos (by rw [← h16]; exact hhd)] at h1
              rw [HHS.out.1, HHV.out]; exact h1)
            have HL9 : Hid (o'.length + R3.length ≤ Z ∧ p.k.length + R3.length ≤ Z ∧ hs2.length ≤ o'.length ∧ ∀ x ∈ o', x.k.length ≤ Z ∧ x.v.length ≤ Z) := Lib.hid (by
              have h1 := HLN9.out.1
              refine ⟨by omega, by omega, by omega, fun x hx => ?_⟩
              rcases HLN9.out.2 x hx with h2 | h2
              · exact HL.out.2.2.2 x h2
              · have h3 : q.v = p.v := by rw [← HQP.out]; rfl
                rw [h2, HKK.out, h3]
                exact ⟨by omega, by omega⟩)
            have hmes : R3.length < r.length := by omega
            go_wp2_with fail
            go_roundw
            case rel => exact ⟨B3, d3, R3, OA', OC', o', NA2, NC2, hs2, LA2, LC2, p.k, rfl, rfl, rfl, HI9, HW9, HL9⟩
            case measure => simpa using hmes
          case neg =>
            have HI6 := Lib.hid (HI5.out.call hbX)
            have HQK6 := Lib.hid (HQK5.out.below hbX)
            have HQV6 := Lib.hid (HQV5.out.below hbX)
            have hpx := (hbX.block _ (Array.getElem?_eq_some_iff.1 HPX.out).1).trans HPX.out
            have p0 := cell_of_row X w4.heap.size 0 _ _ (0, 0) hpx
            have p1 := cell_of_row X w4.heap.size 1 _ _ (0, 0) hpx
            simp only [List.getElem?_toArray, List.getElem?_cons_zero, List.getElem?_cons_succ] at p0 p1
            have hsz := HI6.out.sz
            have HX1 : Hid ((o.length + [q].length) * 48 ≤ 140737488355328) := Lib.hid (by simp; omega)
            have HX2 : Hid (o.length + [q].length ≤ maxLen) := Lib.hid (by unfold maxLen; simp; omega)
            have HX4 : Hid (∀ ob, gb ≤ (X.alloc ob).heap.size) := Lib.hid (fun ob => by simp; omega)
            have HX3 := Lib.hid HI6.out.out.row
            clear hbX hpx
            go_wp2_with (at_builtin; refine wpList_append_s _ rfl (.tmp 72) (.tmp 74) pairT rfl gb OA OC o rfl (HX3.out.alloc _) (X.heap.size + 1) (some ⟨X.heap.size, 0, none⟩) 1 1 [q] rfl rfl (rd_pair_new X q) HX1.out HX2.out (HX4.out _) ?_)
            intro OA' OC' o' w9 ho' hoS hgS hatS
            have hIa := HI6.out.call ((Below.refl X.heap.size X).alloc (Nat.le_refl _) (.cells #[.slice q.kA q.k.length q.kc, .slice q.vA q.v.length q.vc] 48))
            have hrow := fun g hg => ownS_tag (g := g) hIa.out.row hg
            rw [ho'] at hoS
            have HO9 := hIa.out.app (p := q) (HQK6.out.alloc _) (HQV6.out.alloc _) hoS hgS
            have HH9 := hIa.hds.kept_ne hgS (fun g hg => (hrow g hg).2) (by decide)
            have HI9 := Lib.hid (hIa.grow ⟨by decide, by decide, fun cs fr e => by rw [HXV.out] at e; injection e with _ e2; exact absurd e2 (by decide)⟩ hrow hgS HO9 HH9)
            rw [← ho'] at HI9
            have HM9 : Hid (o'.map Pv.pr = o.map Pv.pr ++ [p]) := Lib.hid (by rw [ho', List.map_append, List.map_cons, HQP.out]; rfl)
            have HLN9 : Hid (o'.length = o.length + 1 ∧ ∀ x ∈ o', x ∈ o ∨ x = q) := Lib.hid ⟨by rw [ho']; simp, fun x hx => by
              rw [ho'] at hx
              simpa using hx⟩
            clear ho' hoS hgS hatS hIa hrow HO9 HH9
            have HW9 : Hid (Blk.WRel b (o'.map Pv.pr) p.k R3 ∧ Blk.lastK (o'.map Pv.pr) = p.k ∧ (ev = 16 → Blk.HRel b (o'.map Pv.pr) hs2)) := Lib.hid (by
              rw [HM9.out]
              refine ⟨fun l0 hw => (HW.out.1.stepP hr (by omega) HW.out.2.1 (HN.out l0 hw)) l0 hw, Blk.lastK_snoc _ _, fun h16 => ?_⟩
              have h1 := (HW.out.2.2 h16).step (p := p) HW.out.1 HW.out.2.1 HZM.out.1
              rw [List.length_map] at h1
              rw [if_pos (by rw [← h16]; exact hhd)] at h1
              rw [HHS.out.1, HHV.out]; exact h1)
            have HL9 : Hid (o'.length + R3.length ≤ Z ∧ p.k.length + R3.length ≤ Z ∧ hs2.length ≤ o'.length ∧ ∀ x ∈ o', x.k.length ≤ Z ∧ x.v.length ≤ Z) := Lib.hid (by
              have h1 := HLN9.out.1
              refine ⟨by omega, by omega, by omega, fun x hx => ?_⟩
              rcases HLN9.out.2 x hx with h2 | h2
              · exact HL.out.2.2.2 x h2
              · have h3 : q.v = p.v := by rw [← HQP.out]; rfl
                rw [h2, HKK.out, h3]
                exact ⟨by omega, by omega⟩)
            have hmes : R3.length < r.length := by omega
            go_wp2_with fail
            go_roundw
            case rel => exact ⟨B3, d3, R3, OA', OC', o', NA2, NC2, hs2, LA2, LC2, p.k, rfl, rfl, rfl, HI9, HW9, HL9⟩
            case measure => simpa using hmes
        
      · have hq1 : (((o.length : Int) % (ev : Int)) == 0) = false := by simp; omega
        obtain ⟨wq, hwq⟩ : ∃ wq, wq = wr := ⟨_, rfl⟩
        subst hwq
        have HI2 := Lib.hid HI.out
        have HHB : Hid (∀ l0, Blk.WFb b l0 → (o.length % 16 == 0) = false) := Lib.hid (fun l0 hw => by
          have h1 := H16.out l0 hw
          rw [← h1]; simpa using hhd)
        have KT := next_false gb (gb + 1) gb r B d last LA LC wq HI2.out.bx HI2.out.lx HI2.out.rest HI2.out.cap.1 HI2.out.cap.2 HI2.out.last HI2.out.ge.2.2 HI2.out.ge.1 HI2.out.ge.2.1 (by omega) (by omega) hr
        cases hn : Blk.nextP false last r with
        | none =>
          rw [hn] at KT
          have HK := Lib.hid KT
          have HNO : Hid (∀ l0, ¬ Blk.WFb b l0) := Lib.hid (fun l0 hw => HW.out.1.noP hr (by omega) HW.out.2.1 (by rw [List.length_map, HHB.out l0 hw]; exact hn) l0 hw)
          clear KT hn
          go_wp2_with fail
          refine HK.out.mono ?_
          rintro e w4 ⟨x, hx, rfl, hb4⟩
          have hx1 : (x == 0) = false := by simpa using hx
          have hx2 : (x != 0) = true := by simpa using hx
          have HB4 := Lib.hid (HBW.out _ (HI2.out.below.trans (hb4.mono HI2.out.sz)))
          clear hb4 hx
          go_wp2_with fail
          go_quiet (fail)
          refine drewN_any ?_
          intro X hbX hXh
          clear hXh
          have HG := Lib.hid (parsed_no (b := b) (((HB4.out.alloc HB4.out.size (.cells #[.slice none 0 0, .slice none 0 0] 48)).trans (hbX.mono (by have := HB4.out.size; simp; omega)))) 3 (by decide) HNO.out)
          clear hbX
          go_wp2_with fail
          go_ret2
          exact HG.out
        | some v =>
          obtain ⟨p, R3⟩ := v
          rw [hn] at KT
          have HK := Lib.hid KT
          have HN : Hid (∀ l0, Blk.WFb b l0 → Blk.nextP ((o.map Pv.pr).length % 16 == 0) last r = some (p, R3)) := Lib.hid (fun l0 hw => by rw [List.length_map, HHB.out l0 hw]; exact hn)
          have hnl := Blk.nextP_len hn
          clear KT hn
          go_wp2_with fail
          refine HK.out.mono ?_
          rintro e w4 ⟨q, B3, d3, LA2, LC2, rfl, hok⟩
          have HI4 := Lib.hid (HI2.out.next ⟨by have := HLT.out; omega, by have := HLT.out; omega⟩ hok)
          have HQK := Lib.hid (hok.key.mono HI2.out.sz)
          have HQV := Lib.hid (hok.val.mono HI2.out.sz)
          have HQP := Lib.hid hok.pr
          clear hok
          obtain ⟨W4, hW4⟩ : ∃ W4, W4 = w4.alloc (.cells #[.slice q.kA q.k.length q.kc, .slice q.vA q.v.length q.vc] 48) := ⟨_, rfl⟩
          have hba : Below w4.heap.size w4 W4 := by rw [hW4]; exact (Below.refl _ _).alloc (Nat.le_refl _) _
          have hpx : W4.heap[w4.heap.size]? = some (.cells #[.slice q.kA q.k.length q.kc, .slice q.vA q.v.length q.vc] 48) := by rw [hW4]; exact heap_alloc_new _ _
          have HI5 := Lib.hid (HI4.out.call hba)
          have HQK5 := Lib.hid (HQK.out.below hba)
          have HQV5 := Lib.hid (HQV.out.below hba)
          have HPX := Lib.hid hpx
          have p0 := cell_of_row W4 w4.heap.size 0 _ _ (0, 0) hpx
          have p1 := cell_of_row W4 w4.heap.size 1 _ _ (0, 0) hpx
          simp only [List.getElem?_toArray, List.getElem?_cons_zero, List.getElem?_cons_succ] at p0 p1
          have HW4 := Lib.hid hW4
          have HKK : Hid (q.k = p.k) := Lib.hid (by rw [← HQP.out]; rfl)
          clear hba hpx hW4 HI4 HQK HQV
          go_wp2_with fail
          rw [← HW4.out]
          by_cases hp0 : 0 < o.length
          case' neg =>
            have hol : decide ((0 : Int) < (o.length : Int)) = false := decide_eq_false (by omega)
            have hol2 : ¬ ((0 : Int) < (o.length : Int)) := by omega
            go_quiet (fail)
            refine drewN_any ?_
            intro X hbX hXh
            clear hXh
          case' pos =>
            obtain ⟨n0, ho0⟩ : ∃ n0, o.length = n0 + 1 := ⟨o.length - 1, by omega⟩
            obtain ⟨ob, ooff, hOA, hobl, hrow⟩ := HI5.out.out.rd.row2 (by omega)
            have c0 := (hrow n0 (by omega)).1
            obtain ⟨ol, hol⟩ : ∃ ol, ol = o[n0]'(by omega) := ⟨_, rfl⟩
            rw [← hol] at c0
            have HLK : Hid (Blk.lastK (o.map Pv.pr) = ol.k) := Lib.hid (by
              unfold Blk.lastK
              rw [List.getLast?_map, List.getLast?_eq_getElem?, show o.length - 1 = n0 by omega, List.getElem?_eq_getElem (by omega), hol]
              rfl)
            have hrdl := (HI5.out.out.own ol (by rw [hol]; exact List.getElem_mem _)).1.rd
            have nq1 : IntKind.i64.wrap ((o.length : Int) - 1) = (n0 : Int) := by rw [IntKind.wrap_i64]; omega
            have nq2 : (0 : Int) ≤ (n0 : Int) := by omega
            have nq3 : (n0 : Int) < (o.length : Int) := by omega
            have nq4 : decide ((0 : Int) < (o.length : Int)) = true := decide_eq_true (by omega)
            have nq5 : (0 : Int) < (o.length : Int) := by omega
            obtain ⟨CV, hCV⟩ : ∃ CV, CV = Lib.compareBytes q.k ol.k := ⟨_, rfl⟩
            have KCV : Hid (∀ n, Calls Tryd.prog 40 #[.slice q.kA q.k.length q.kc, .slice ol.kA ol.k.length ol.kc] (W4.drewN n) fun e w' => e = .returned (.int .i64 CV) ∧ w' = W4.drewN n) := Lib.hid (fun n => by
              rw [hCV]
              exact (bcmp_any W4.heap.size q.kA q.kc q.k W4.heap.size ol.kA ol.kc ol.k (W4.drewN n) (Reads.drewN HQK5.out.rd n) (Reads.drewN hrdl n)).mono (fun e w' h => ⟨h.1, h.2.symm⟩))
            have HCV := Lib.hid hCV
            subst hOA
            have HO0 := Lib.hid ho0
            clear hCV hrow hol hrdl ho0
            by_cases hcv : CV ≤ 0
            case' pos =>
              have hcv2 : decide (CV ≤ 0) = true := decide_eq_true hcv
              have HNO : Hid (∀ l0, ¬ Blk.WFb b l0) := Lib.hid (fun l0 hw => by
                obtain ⟨p', l2, e1, e2⟩ := HW.out.1.nextP hr (by omega) HW.out.2.1 hw
                rw [HN.out l0 hw] at e2
                injection e2 with e2; injection e2 with e3 e4
                subst e3
                have h1 := Blk.srt_at (e1 ▸ hw.few.2) (by rw [List.length_map, HO0.out]; omega)
                rw [HLK.out] at h1
                have h2 := hcv
                rw [HCV.out, compareBytes_le, HKK.out, h1] at h2
                cases h2)
              clear hcv
              go_quiet ((go_at_call 40; exact Calls.quiet_of_same (KCV.out _)))
              refine drewN_any ?_
              intro X hbX hXh
              clear hXh
              have HG := Lib.hid (parsed_no (b := b) (HBW.out _ (HI5.out.below.trans (hbX.mono HI5.out.sz))) 3 (by decide) HNO.out)
              clear hbX
              go_wp2_with fail
              go_ret2
              exact HG.out
            have hcv2 : decide (CV ≤ 0) = false := decide_eq_false hcv
            clear hcv
            go_quiet ((go_at_call 40; exact Calls.quiet_of_same (KCV.out _)))
            refine drewN_any ?_
            intro X hbX hXh
            clear hXh
          case pos =>
            have HI6 := Lib.hid (HI5.out.call hbX)
            have HQK6 := Lib.hid (HQK5.out.below hbX)
            have HQV6 := Lib.hid (HQV5.out.below hbX)
            have hpx := (hbX.block _ (Array.getElem?_eq_some_iff.1 HPX.out).1).trans HPX.out
            have p0 := cell_of_row X w4.heap.size 0 _ _ (0, 0) hpx
            have p1 := cell_of_row X w4.heap.size 1 _ _ (0, 0) hpx
            simp only [List.getElem?_toArray, List.getElem?_cons_zero, List.getElem?_cons_succ] at p0 p1
            have hsz := HI6.out.sz
            have HX1 : Hid ((o.length + [q].length) * 48 ≤ 140737488355328) := Lib.hid (by simp; omega)
            have HX2 : Hid (o.length + [q].length ≤ maxLen) := Lib.hid (by unfold maxLen; simp; omega)
            have HX4 : Hid (∀ ob, gb ≤ (X.alloc ob).heap.size) := Lib.hid (fun ob => by simp; omega)
            have HX3 := Lib.hid HI6.out.out.row
            clear hbX hpx
            go_wp2_with (at_builtin; refine wpList_append_s _ rfl (.tmp 72) (.tmp 74) pairT rfl gb (some ⟨ob, ooff, none⟩) OC o rfl (HX3.out.alloc _) (X.heap.size + 1) (some ⟨X.heap.size, 0, none⟩) 1 1 [q] rfl rfl (rd_pair_new X q) HX1.out HX2.out (HX4.out _) ?_)
            intro OA' OC' o' w9 ho' hoS hgS hatS
            have hIa := HI6.out.call ((Below.refl X.heap.size X).alloc (Nat.le_refl _) (.cells #[.slice q.kA q.k.length q.kc, .slice q.vA q.v.length q.vc] 48))
            have hrow := fun g hg => ownS_tag (g := g) hIa.out.row hg
            rw [ho'] at hoS
            have HO9 := hIa.out.app (p := q) (HQK6.out.alloc _) (HQV6.out.alloc _) hoS hgS
            have HH9 := hIa.hds.kept_ne hgS (fun g hg => (hrow g hg).2) (by decide)
            have HI9 := Lib.hid (hIa.grow ⟨by decide, by decide, fun cs fr e => by rw [HXV.out] at e; injection e with _ e2; exact absurd e2 (by decide)⟩ hrow hgS HO9 HH9)
            rw [← ho'] at HI9
            have HM9 : Hid (o'.map Pv.pr = o.map Pv.pr ++ [p]) := Lib.hid (by rw [ho', List.map_append, List.map_cons, HQP.out]; rfl)
            have HLN9 : Hid (o'.length = o.length + 1 ∧ ∀ x ∈ o', x ∈ o ∨ x = q) := Lib.hid ⟨by rw [ho']; simp, fun x hx => by
              rw [ho'] at hx
              simpa using hx⟩
            clear ho' hoS hgS hatS hIa hrow HO9 HH9
            have HW9 : Hid (Blk.WRel b (o'.map Pv.pr) p.k R3 ∧ Blk.lastK (o'.map Pv.pr) = p.k ∧ (ev = 16 → Blk.HRel b (o'.map Pv.pr) hs)) := Lib.hid (by
              rw [HM9.out]
              refine ⟨fun l0 hw => (HW.out.1.stepP hr (by omega) HW.out.2.1 (HN.out l0 hw)) l0 hw, Blk.lastK_snoc _ _, fun h16 => ?_⟩
              have h1 := (HW.out.2.2 h16).step (p := p) HW.out.1 HW.out.2.1 HZM.out.1
              rw [List.length_map] at h1
              rw [if_neg (by rw [← h16]; exact hhd), List.append_nil] at h1
              exact h1)
            have HL9 : Hid (o'.length + R3.length ≤ Z ∧ p.k.length + R3.length ≤ Z ∧ hs.length ≤ o'.length ∧ ∀ x ∈ o', x.k.length ≤ Z ∧ x.v.length ≤ Z) := Lib.hid (by
              have h1 := HLN9.out.1
              refine ⟨by omega, by omega, by omega, fun x hx => ?_⟩
              rcases HLN9.out.2 x hx with h2 | h2
              · exact HL.out.2.2.2 x h2
              · have h3 : q.v = p.v := by rw [← HQP.out]; rfl
                rw [h2, HKK.out, h3]
                exact ⟨by omega, by omega⟩)
            have hmes : R3.length < r.length := by omega
            go_wp2_with fail
            go_roundw
            case rel => exact ⟨B3, d3, R3, OA', OC', o', NA, NC, hs, LA2, LC2, p.k, rfl, rfl, rfl, HI9, HW9, HL9⟩
            case measure => simpa using hmes
          case neg =>
            have HI6 := Lib.hid (HI5.out.call hbX)
            have HQK6 := Lib.hid (HQK5.out.below hbX)
            have HQV6 := Lib.hid (HQV5.out.below hbX)
            have hpx := (hbX.block _ (Array.getElem?_eq_some_iff.1 HPX.out).1).trans HPX.out
            have p0 := cell_of_row X w4.heap.size 0 _ _ (0, 0) hpx
            have p1 := cell_of_row X w4.heap.size 1 _ _ (0, 0) hpx
            simp only [List.getElem?_toArray, List.getElem?_cons_zero, List.getElem?_cons_succ] at p0 p1
            have hsz := HI6.out.sz
            have HX1 : Hid ((o.length + [q].length) * 48 ≤ 140737488355328) := Lib.hid (by simp; omega)
            have HX2 : Hid (o.length + [q].length ≤ maxLen) := Lib.hid (by unfold maxLen; simp; omega)
            have HX4 : Hid (∀ ob, gb ≤ (X.alloc ob).heap.size) := Lib.hid (fun ob => by simp; omega)
            have HX3 := Lib.hid HI6.out.out.row
            clear hbX hpx
            go_wp2_with (at_builtin; refine wpList_append_s _ rfl (.tmp 72) (.tmp 74) pairT rfl gb OA OC o rfl (HX3.out.alloc _) (X.heap.size + 1) (some ⟨X.heap.size, 0, none⟩) 1 1 [q] rfl rfl (rd_pair_new X q) HX1.out HX2.out (HX4.out _) ?_)
            intro OA' OC' o' w9 ho' hoS hgS hatS
            have hIa := HI6.out.call ((Below.refl X.heap.size X).alloc (Nat.le_refl _) (.cells #[.slice q.kA q.k.length q.kc, .slice q.vA q.v.length q.vc] 48))
            have hrow := fun g hg => ownS_tag (g := g) hIa.out.row hg
            rw [ho'] at hoS
            have HO9 := hIa.out.app (p := q) (HQK6.out.alloc _) (HQV6.out.alloc _) hoS hgS
            have HH9 := hIa.hds.kept_ne hgS (fun g hg => (hrow g hg).2) (by decide)
            have HI9 := Lib.hid (hIa.grow ⟨by decide, by decide, fun cs fr e => by rw [HXV.out] at e; injection e with _ e2; exact absurd e2 (by decide)⟩ hrow hgS HO9 HH9)
            rw [← ho'] at HI9
            have HM9 : Hid (o'.map Pv.pr = o.map Pv.pr ++ [p]) := Lib.hid (by rw [ho', List.map_append, List.map_cons, HQP.out]; rfl)
            have HLN9 : Hid (o'.length = o.length + 1 ∧ ∀ x ∈ o', x ∈ o ∨ x = q) := Lib.hid ⟨by rw [ho']; simp, fun x hx => by
              rw [ho'] at hx
              simpa using hx⟩
            clear ho' hoS hgS hatS hIa hrow HO9 HH9
            have HW9 : Hid (Blk.WRel b (o'.map Pv.pr) p.k R3 ∧ Blk.lastK (o'.map Pv.pr) = p.k ∧ (ev = 16 → Blk.HRel b (o'.map Pv.pr) hs)) := Lib.hid (by
              rw [HM9.out]
              refine ⟨fun l0 hw => (HW.out.1.stepP hr (by omega) HW.out.2.1 (HN.out l0 hw)) l0 hw, Blk.lastK_snoc _ _, fun h16 => ?_⟩
              have h1 := (HW.out.2.2 h16).step (p := p) HW.out.1 HW.out.2.1 HZM.out.1
              rw [List.length_map] at h1
              rw [if_neg (by rw [← h16]; exact hhd), List.append_nil] at h1
              exact h1)
            have HL9 : Hid (o'.length + R3.length ≤ Z ∧ p.k.length + R3.length ≤ Z ∧ hs.length ≤ o'.length ∧ ∀ x ∈ o', x.k.length ≤ Z ∧ x.v.length ≤ Z) := Lib.hid (by
              have h1 := HLN9.out.1
              refine ⟨by omega, by omega, by omega, fun x hx => ?_⟩
              rcases HLN9.out.2 x hx with h2 | h2
              · exact HL.out.2.2.2 x h2
              · have h3 : q.v = p.v := by rw [← HQP.out]; rfl
                rw [h2, HKK.out, h3]
                exact ⟨by omega, by omega⟩)
            have hmes : R3.length < r.length := by omega
            go_wp2_with fail
            go_roundw
            case rel => exact ⟨B3, d3, R3, OA', OC', o', NA, NC, hs, LA2, LC2, p.k, rfl, rfl, rfl, HI9, HW9, HL9⟩
            case measure => simpa using hmes
        
end Go.Proofs.YtgafionfojnieaaDoor
