/- Parts of the proof, one behind the other: Contracts of the log: make.; Contracts of the log: make.; Contracts of the log: room, does, Skip, Next, Waiting.; Contracts of the log: the steps of Commit.; Contracts of the log: the steps of Commit, one behind the other.; Contracts of the log: Commit.; Plain: Commit, Open, Add, Retire, of a log whose changes were made: what they come to. -/
import Derived.Test.YtaiokogbhfliiaaGreatDoorMrg36
import Derived.Test.YtaiokogbhfliiaaGreatDoorMrg37
import Derived.Test.YtaiokogbhfliiaaGreatDoorMrg17
import Derived.Test.YtaiokogbhfliiaaGreatDoorMrg34
import Derived.Test.YtaiokogbhfliiaaGreatDoorMrg05
import Derived.Test.YtaiokogbhfliiaaGreatDoorMrg25
namespace Go.Proofs.YtaiokogbhfliiaaGreatDoor
open Go.RowKit Go.Maps

/-- The table of strconv, below some block. -/
def TabU (B : Nat) (w : World) : Prop := ∃ w0, Tab w0 ∧ w0.heap.size ≤ B ∧ Below w0.heap.size w0 w
theorem TabU.tab {B : Nat} {w : World} (h : TabU B w) : Tab w := by
  obtain ⟨w0, h1, _, h3⟩ := h
  exact h1.below h3
theorem TabU.of {w : World} (h : Tab w) : TabU w.heap.size w := ⟨w, h, Nat.le_refl _, Below.refl _ _⟩
theorem TabU.keep {B : Nat} {w w' : World} (h : TabU B w) (hb : Below B w w') : TabU B w' := by
  obtain ⟨w0, h1, h2, h3⟩ := h
  exact ⟨w0, h1, h2, h3.trans (hb.mono h2)⟩
theorem TabU.mono {B C : Nat} {w : World} (h : TabU B w) (hc : B ≤ C) : TabU C w := by
  obtain ⟨w0, h1, h2, h3⟩ := h
  exact ⟨w0, h1, Nat.le_trans h2 hc, h3⟩
namespace Wal
section
variable {w w' : World} {base g : Nat} {s : Sto.St} {m : Sto.Mem} {l : Lg} {x : Lm}
theorem TabU.laft {m' : Sto.Mem} {x' : Lm} (h : TabU base w) (hs : LS w base g s m l x) (ha : LAft w w' g m x m' x') : TabU base w' := TabU.keep h (ha.below hs)
theorem TabU.below (h : TabU base w) (hs : LS w base g s m l x) (hb : Below w.heap.size w w') : TabU base w' := TabU.keep h (hb.mono (Nat.le_trans hs.lbb (Nat.le_of_lt hs.lb_tag.lt)))
theorem name_len (n : Nat) : (name n).length = 10 := by unfold name; simp [Dig.digW_length]
set_option maxHeartbeats 1000000 in
set_option maxRecDepth 100000 in
theorem make1_any (h : LS w base g s m l x) (ht : TabU base w) (hlast : l.last < 999999) (hl : s.kept.length ≤ 1000000) (hf : s.files.length ≤ 1000000) (y : Nat) (hy : w.heap[y]? = some (.cells #[.pointer (some ⟨x.lb, 0, none⟩)] 31)) :
    Calls Tryz.prog 89 #[.pointer (some ⟨y, 0, none⟩)] w (Sto.OpP w base g m (Sto.create s (name (l.last + 1)))) := by
  have H := Lib.hid h
  obtain ⟨N, hN⟩ : ∃ N, N = name (l.last + 1) := ⟨_, rfl⟩
  have HNl : N.length ≤ maxLen := by rw [hN, name_len]; unfold maxLen; omega
  obtain ⟨z, hz⟩ : ∃ z, z = l.last + 1 := ⟨_, rfl⟩
  have KN := Lib.hid (fun p : BelowW w => p.calls (name_any z (by omega) p.X (ht.tab.below p.hb) N (by rw [hN, hz])))
  rw [← hN]
  have q0 : w.cell? ⟨y, 0, none⟩ = some (.pointer (some ⟨x.lb, 0, none⟩)) := by rw [cell_of_row w y 0 _ _ (0, 0) hy]; rfl
  obtain ⟨c0, _, c2, _, _, _, _⟩ := h.cells
  have KC := Lib.hid (fun w1 (hb : Below w.heap.size w w1) => Sto.create_any N HNl w1 base g s m (h.st.below hb) hl hf)
  have e1 : IntKind.i64.wrap ((l.last : Int) + 1) = (z : Int) := by rw [IntKind.wrap_i64]; omega
  have d0 : ∀ p : BelowW w, p.X.cell? ⟨y, 0, none⟩ = some (.pointer (some ⟨x.lb, 0, none⟩)) := fun p => (p.hb.cell (p := ⟨y, 0, none⟩) (Array.getElem?_eq_some_iff.1 hy).1).trans q0
  have d1 : ∀ p : BelowW w, p.X.cell? ⟨x.lb, 0, none⟩ = some (.pointer (some ⟨g, 0, none⟩)) := fun p => (p.hb.cell (p := ⟨x.lb, 0, none⟩) h.lb_tag.lt).trans c0
  have d2 : ∀ p : BelowW w, p.X.cell? ⟨x.lb, 2, none⟩ = some (.int .i64 (l.last : Int)) := fun p => (p.hb.cell (p := ⟨x.lb, 2, none⟩) h.lb_tag.lt).trans c2
  clear h ht hy hN HNl hz q0 c0 c2
  go_enter Tryz.func89, Tryz.ntmps89
  go_wp2_with fail
  refine wp_region_below_tail 10 (by kernel_rfl) (by kernel_rfl) ?_
  repeat (refine wpQuiet_step (fun K hK => ?_); go_simp; first | (refine hK _ ?_; clear hK K) | (apply Exists.intro; refine ⟨fun _ => ?_, hK _ ?_⟩; (exact KN.out _); clear hK K))
  refine wpQuiet_nil ?_
  rintro _ ⟨p, rfl⟩
  obtain ⟨w1, hb1⟩ := p
  have KC1 := Lib.hid (KC.out w1 hb1)
  have HB1 := Lib.hid hb1
  simp only [List.drop_succ_cons, List.drop_zero]
  clear hb1 d0 d1 d2 KN KC
  go_wp2_with fail
  refine KC1.out.mono ?_
  rintro e w2 ⟨rfl, m2, hst, haf⟩
  have HF : Hid (Sto.OpP w base g m (Sto.create s N) (.returned (.int .i64 (Sto.create s N).1)) w2) := Lib.hid ⟨rfl, m2, hst, (Sto.Aft.of_below HB1.out).trans haf⟩
  obtain ⟨c, hc⟩ : ∃ c, c = (Sto.create s N).1 := ⟨_, rfl⟩
  rw [← hc]
  have HC := Lib.hid hc
  clear hst haf hc
  go_wp2_with fail
  go_ret
  rw [HC.out]
  exact HF.out
end
end Wal
end Go.Proofs.YtaiokogbhfliiaaGreatDoor

namespace Go.Proofs.YtaiokogbhfliiaaGreatDoor
open Go.RowKit Go.Maps

namespace Wal
section
variable {w w' : World} {base g : Nat} {s : Sto.St} {m m' : Sto.Mem} {l : Lg} {x : Lm}
/-- A type that no block of a store has. -/
structure Alien (T : TypeId) : Prop where
  h1 : T ≠ 78
  h2 : T ≠ 108
  h3 : T ≠ 110
  h4 : T ≠ 9
  h5 : T ≠ 105
  h6 : T ≠ 5
theorem aft_tag (h : Sto.StAt w base g s m) (ha : Sto.Aft w w' g m m') {k : Nat} {cs : Array Value} {T : TypeId} {fr : Nat × Nat} (ht : w.heap[k]? = some (.cells cs T fr)) (hT : Alien T) : w'.heap[k]? = some (.cells cs T fr) :=
  (ha.block k (Array.getElem?_eq_some_iff.1 ht).1 (fun e => h.not_foot ⟨_, _, ht⟩ hT.h1 hT.h2 hT.h3 hT.h4 hT.h5 (fun e2 => absurd e2 hT.h6) (.inl e))).trans ht
theorem mk_over (h : 999999 ≤ l.last) : mk s l = (2, s, l) := by unfold mk; rw [if_pos h]
theorem mk_bad1 (h : ¬ 999999 ≤ l.last) (h1 : (Sto.create s (name (l.last + 1))).1 ≠ 0) : mk s l = ((Sto.create s (name (l.last + 1))).1, (Sto.create s (name (l.last + 1))).2, l) := by unfold mk; rw [if_neg h]; simp only; rw [if_pos h1]
theorem mk_bad2 (h : ¬ 999999 ≤ l.last) {s1 : Sto.St} (h1 : Sto.create s (name (l.last + 1)) = (0, s1)) (h2 : (Sto.syncDir s1).1 ≠ 0) : mk s l = ((Sto.syncDir s1).1, (Sto.syncDir s1).2, l) := by unfold mk; rw [if_neg h, h1]; simp only; rw [if_neg (by simp), if_pos h2]
theorem mk_ok (h : ¬ 999999 ≤ l.last) {s1 : Sto.St} (h1 : Sto.create s (name (l.last + 1)) = (0, s1)) (h2 : (Sto.syncDir s1).1 = 0) : mk s l = (0, (Sto.syncDir s1).2, { l with last := l.last + 1, size := 0 }) := by unfold mk; rw [if_neg h, h1]; simp only; rw [if_neg (by simp), if_neg (by rw [h2]; simp)]
/-- The steps of make. -/
def mkFs (g y : Nat) : List Fc := [⟨89, [], [.pointer (some ⟨y, 0, none⟩)]⟩, ⟨28, [.pointer (some ⟨g, 0, none⟩)], []⟩]
structure MkI (w : World) (base g : Nat) (s : Sto.St) (m : Sto.Mem) (l : Lg) (x : Lm) (y r : Nat) (i : Nat) (W : World) : Prop where
  row : W.heap[r]? = some (.cells ((mkFs g y).flatMap F1).toArray 51)
  box : W.heap[y]? = some (.cells #[.pointer (some ⟨x.lb, 0, none⟩)] 31)
  tab : TabU base W
  st : ∃ m1 s1, LS W base g s1 m1 l x ∧ LAft w W g m x m1 x ∧ (i = 0 → s1 = s) ∧ (i = 1 → Sto.create s (name (l.last + 1)) = (0, s1)) ∧ (i = 2 → mk s l = (0, s1, { l with last := l.last + 1, size := 0 }))
def MkF (w : World) (base g : Nat) (s : Sto.St) (m : Sto.Mem) (l : Lg) (x : Lm) (c : Int) (W : World) : Prop := ∃ m1 s1, LS W base g s1 m1 l x ∧ LAft w W g m x m1 x ∧ mk s l = (c, s1, l)
set_option maxRecDepth 100000 in
theorem mk_steps (hlast : ¬ 999999 ≤ l.last) (hl : s.kept.length ≤ 1000000) (hf : s.files.length ≤ 1000000) {y r : Nat} {W : World} (hI : MkI w base g s m l x y r 0 W) :
    Calls Tryz.prog 88 #[.slice (some ⟨r, 0, none⟩) 2 2] W fun e W' => ∃ c : Int, e = .returned (.int .i64 c) ∧ (c = 0 → MkI w base g s m l x y r 2 W') ∧ (c ≠ 0 → MkF w base g s m l x c W') := by
  refine all_any (some ⟨r, 0, none⟩) 2 (mkFs g y) W (MkI w base g s m l x y r) (MkF w base g s m l x) (fun v hv => ?_) (by simp [mkFs]) hI (fun i W1 _ h => rd_fcs h.row) (fun i hi W1 h => ?_)
  · simp only [mkFs, List.mem_cons, List.not_mem_nil, or_false] at hv
    rcases hv with rfl | rfl <;> exact fun _ _ => rfl
  · obtain ⟨m1, s1, hls, haf, h0, h1, _⟩ := h.st
    have hi2 : i < 2 := hi
    rcases i with _ | _ | i
    · have := h0 rfl
      subst this
      refine (make1_any hls h.tab (by omega) hl hf y h.box).mono ?_
      rintro e W2 ⟨he, m2, hst2, haf2⟩
      have hls2 := hls.store hst2 haf2
      have haf3 := haf.trans (LAft.of_aft haf2)
      refine ⟨_, he, fun hz => ⟨aft_tag hls.st haf2 h.row ⟨by decide, by decide, by decide, by decide, by decide, by decide⟩, aft_tag hls.st haf2 h.box ⟨by decide, by decide, by decide, by decide, by decide, by decide⟩, TabU.laft h.tab hls (LAft.of_aft haf2), m2, _, hls2, haf3, (fun h => by cases h), fun _ => Prod.ext hz rfl, (fun h => by cases h)⟩, fun hz => ⟨m2, _, hls2, haf3, mk_bad1 hlast hz⟩⟩
    · have hc := h1 rfl
      refine (Sto.syncDir_any hls.st).mono ?_
      rintro e W2 ⟨he, m2, hst2, haf2⟩
      have hls2 := hls.store hst2 haf2
      have haf3 := haf.trans (LAft.of_aft haf2)
      refine ⟨_, he, fun hz => ⟨aft_tag hls.st haf2 h.row ⟨by decide, by decide, by decide, by decide, by decide, by decide⟩, aft_tag hls.st haf2 h.box ⟨by decide, by decide, by decide, by decide, by decide, by decide⟩, TabU.laft h.tab hls (LAft.of_aft haf2), m2, _, hls2, haf3, (fun h => by cases h), (fun h => by cases h), fun _ => mk_ok hlast hc hz⟩, fun hz => ⟨m2, _, hls2, haf3, mk_bad2 hlast hc hz⟩⟩
    · omega
/-- The log's last file is turned. -/
theorem LS.made (h : LS w base g s m l x) (hlast : l.last < 999999) : LS ((w.setCell ⟨x.lb, 2, none⟩ (.int .i64 ((l.last + 1 : Nat) : Int))).setCell ⟨x.lb, 3, none⟩ (.int .i64 0)) base g s m { l with last := l.last + 1, size := 0 } x ∧ LAft w ((w.setCell ⟨x.lb, 2, none⟩ (.int .i64 ((l.last + 1 : Nat) : Int))).setCell ⟨x.lb, 3, none⟩ (.int .i64 0)) g m x m x := by
  refine h.turn rfl rfl rfl (by simp) (fun k _ hk => ?_) ?_ rfl ⟨h.ok.limit, by simp only; omega, by simp, h.ok.next, h.ok.wait, h.ok.one⟩
  · rw [heap_setCell_other _ ⟨x.lb, 3, none⟩ k _ hk, heap_setCell_other _ ⟨x.lb, 2, none⟩ k _ hk]
  · have h1 := h.box
    unfold lgObj at h1
    exact (heap_setL (heap_setL h1 (.int .i64 ((l.last + 1 : Nat) : Int))).1 (.int .i64 0)).2.1
set_option maxHeartbeats 1000000 in
set_option maxRecDepth 100000 in
theorem make_any (h : LS w base g s m l x) (ht : TabU base w) (hl : s.kept.length ≤ 1000000) (hf : s.files.length ≤ 1000000) :
    Calls Tryz.prog 47 #[.pointer (some ⟨x.lb, 0, none⟩)] w (LopP w base g m x (mk s l).1 (mk s l).2.1 (mk s l).2.2 x) := by
  have H := Lib.hid h
  obtain ⟨c0, _, c2, _, _, _, _⟩ := h.cells
  obtain ⟨b, hb⟩ : ∃ b, b = x.lb := ⟨_, rfl⟩
  have hbz : b < w.heap.size := by rw [hb]; exact h.lb_tag.lt
  obtain ⟨T, hT⟩ : ∃ T, T = l.last := ⟨_, rfl⟩
  have HT := Lib.hid hT
  rw [← hb] at c0 c2 ⊢
  rw [← hT] at c2
  have HB := Lib.hid hb
  have KA := Lib.hid (fun (hlast : ¬ 999999 ≤ l.last) => mk_steps (w := w) (base := base) (g := g) (s := s) (m := m) (l := l) (x := x) hlast hl hf (y := w.heap.size) (r := w.heap.size + 1) (W := ((w.alloc (.cells #[.pointer (some ⟨b, 0, none⟩)] 31)).alloc (.cells #[.func (.func 89) #[] #[.pointer (some ⟨w.heap.size, 0, none⟩)], .func (.func 28) #[.pointer (some ⟨g, 0, none⟩)] #[]] 51)))
    (by
      have b1 : Below w.heap.size w (w.alloc (.cells #[.pointer (some ⟨b, 0, none⟩)] 31)) := (Below.refl _ _).alloc (Nat.le_refl _) _
      have b2 := b1.alloc b1.size (.cells #[.func (.func 89) #[] #[.pointer (some ⟨w.heap.size, 0, none⟩)], .func (.func 28) #[.pointer (some ⟨g, 0, none⟩)] #[]] 51)
      refine ⟨?_, ?_, TabU.below ht h b2, m, s, h.below b2, LAft.of_below b2, fun _ => rfl, (fun h => by cases h), (fun h => by cases h)⟩
      · have := heap_alloc_new (w.alloc (.cells #[.pointer (some ⟨b, 0, none⟩)] 31)) (.cells #[.func (.func 89) #[] #[.pointer (some ⟨w.heap.size, 0, none⟩)], .func (.func 28) #[.pointer (some ⟨g, 0, none⟩)] #[]] 51)
        rw [World.size_alloc] at this
        exact this
      · rw [Below.heap_alloc _ _ _ (by simp), ← hb]
        exact heap_alloc_new w _))
  have HM2 : Hid (999999 ≤ l.last → mk s l = (2, s, l)) := Lib.hid (fun hh => mk_over hh)
  clear h ht hb hT
  go_enter Tryz.func47, Tryz.ntmps47
  by_cases hov : (999999 : Int) ≤ (T : Int)
  · go_wp2_with fail
    go_ret
    rw [HM2.out (by have := HT.out; omega)]
    have b1 : Below w.heap.size w (w.alloc (.cells #[.pointer (some ⟨b, 0, none⟩)] 31)) := (Below.refl _ _).alloc (Nat.le_refl _) _
    exact ⟨rfl, m, H.out.below b1, LAft.of_below b1⟩
  · have KA1 := Lib.hid (KA.out (by have := HT.out; omega))
    clear KA
    go_wp2_with fail
    refine KA1.out.mono ?_
    rintro e w1 ⟨c, rfl, h0, h1⟩
    by_cases hc : c = 0
    · have e1 : (c == 0) = true := by rw [hc]; rfl
      have e2 : (c != 0) = false := by rw [hc]; rfl
      obtain ⟨_, hbox, _, m1, s1, hls, haf, _, _, hmk⟩ := h0 hc
      have HMK := Lib.hid (hmk rfl)
      have HLS := Lib.hid hls
      have HAF := Lib.hid haf
      have HYZ : Hid (w.heap.size < w1.heap.size) := Lib.hid (Array.getElem?_eq_some_iff.1 hbox).1
      obtain ⟨z, hz⟩ : ∃ z, z = T + 1 := ⟨_, rfl⟩
      have HZ : Hid (z = l.last + 1) := Lib.hid (by rw [hz, HT.out])
      have hez : IntKind.i64.wrap ((T : Int) + 1) = (z : Int) := by rw [IntKind.wrap_i64]; omega
      clear hz
      have q0 : w1.cell? ⟨w.heap.size, 0, none⟩ = some (.pointer (some ⟨b, 0, none⟩)) := by rw [cell_of_row w1 w.heap.size 0 _ _ (0, 0) hbox, HB.out]; rfl
      obtain ⟨_, _, q2, q3, _, _, _⟩ := hls.cells
      rw [← HB.out, ← HT.out] at q2
      rw [← HB.out] at q3
      clear h0 h1 hmk hls haf hbox
      go_wp2_with fail
      obtain ⟨V, hV⟩ : ∃ V, w1.drew = V := ⟨_, rfl⟩
      have hbV : Below w1.heap.size w1 V := by rw [← hV]; exact (Below.refl _ _).drew
      have HBV := Lib.hid hbV
      have HLV := Lib.hid (HLS.out.below hbV)
      have hbyz : b ≠ w.heap.size := Nat.ne_of_lt hbz
      have v0 : V.cell? ⟨w.heap.size, 0, none⟩ = some (.pointer (some ⟨b, 0, none⟩)) := (hbV.cell (p := ⟨w.heap.size, 0, none⟩) HYZ.out).trans q0
      obtain ⟨_, _, v2, v3, _, _, _⟩ := HLV.out.cells
      have fz2 := HLV.out.frozen 2
      have fz3 := frozen_of_row (V.setCell ⟨b, 2, none⟩ (.int .i64 (z : Int))) b 3 _ _ (by have h1 := HLV.out.box; unfold lgObj at h1; rw [HB.out]; exact (heap_setL h1 _).1)
      rw [← HB.out, ← HT.out] at v2
      rw [← HB.out] at v3 fz2
      have v4 : (V.setCell ⟨b, 2, none⟩ (.int .i64 (z : Int))).cell? ⟨w.heap.size, 0, none⟩ = some (.pointer (some ⟨b, 0, none⟩)) := by
        rw [World.cell?_of_block (heap_setCell_other _ ⟨b, 2, none⟩ w.heap.size _ (Ne.symm hbyz))]; exact v0
      have v5 : (V.setCell ⟨b, 2, none⟩ (.int .i64 (z : Int))).cell? ⟨b, 3, none⟩ = some (.int .i64 (l.size : Int)) := by
        have h1 := HLV.out.box
        unfold lgObj at h1
        rw [HB.out, cell_of_row _ x.lb 3 _ _ (0, 0) (heap_setL h1 _).1]; rfl
      clear hbV q0 q2 q3
      refine wp_region_E 12 (fun w' => w'.cell? ⟨w.heap.size, 0, none⟩ = some (.pointer (some ⟨b, 0, none⟩))) (by kernel_rfl) ?_
      rw [hV]
      clear hV
      have HS0 : V.cell? ⟨w.heap.size, 0, none⟩ = some (.pointer (some ⟨b, 0, none⟩)) := v0
      refine wpAnyE_take (i := 0) (v := ?_) rfl (by kernel_rfl) (by kernel_rfl) (by kernel_rfl) (by kernel_rfl) (fun _ _ _ h => h) (Or.inl ⟨by rfl, ?_⟩) HS0 ?_
      rotate_left
      · (intro wy hSw; go_simp; try with_reducible rfl)
      try simp only [Act.put, List.setIfInBounds_toArray]
      refine wpAnyE_take (i := 1) (v := ?_) rfl (by kernel_rfl) (by kernel_rfl) (by kernel_rfl) (by kernel_rfl) (fun _ _ _ h => h) (Or.inl ⟨by rfl, ?_⟩) HS0 ?_
      rotate_left
      · (intro wy hSw; go_simp; try with_reducible rfl)
      try simp only [Act.put]
      refine wpAnyE_take (i := 2) (v := ?_) rfl (by kernel_rfl) (by kernel_rfl) (by kernel_rfl) (by kernel_rfl) (fun _ _ _ h => h) (Or.inl ⟨by rfl, ?_⟩) HS0 ?_
      rotate_left
      · (intro wy hSw; go_simp; try with_reducible rfl)
      try simp only [Act.put]
      refine wpAnyE_one (i := 3) (by kernel_rfl) rfl (fun K hK => ?_)
      go_simp
      refine hK _ _ HS0 ?_
      clear hK K
      refine wpAnyE_one (i := 4) (by kernel_rfl) rfl (fun K hK => ?_)
      go_simp
      refine hK _ _ HS0 ?_
      clear hK K
      refine wpAnyE_one (i := 5) (by kernel_rfl) rfl (fun K hK => ?_)
      go_simp
      refine hK _ _ HS0 ?_
      clear hK K
      refine wpAnyE_one (i := 6) (by kernel_rfl) rfl (fun K hK => ?_)
      go_simp
      refine hK _ _ HS0 ?_
      clear hK K
      refine wpAnyE_one (i := 7) (by kernel_rfl) rfl (fun K hK => ?_)
      go_simp
      refine hK _ _ HS0 ?_
      clear hK K
      refine wpAnyE_one (i := 8) (by kernel_rfl) rfl (fun K hK => ?_)
      go_simp
      refine hK _ _ HS0 ?_
      clear hK K
      refine wpAnyE_one (i := 9) (by kernel_rfl) rfl (fun K hK => ?_)
      go_simp
      refine hK _ _ v4 ?_
      clear hK K
      refine wpAnyE_one (i := 10) (by kernel_rfl) rfl (fun K hK => ?_)
      go_simp
      refine hK _ _ v4 ?_
      clear hK K
      refine wpAnyE_one (i := 11) (by kernel_rfl) rfl (fun K hK => ?_)
      go_simp
      refine hK _ _ v4 ?_
      clear hK K
      refine wpAnyE_last (by kernel_rfl) (by kernel_rfl) rfl (fun K hK => ?_)
      go_simp
      refine hK _ _ ?_
      have HFIN : Hid (LopP w base g m x (mk s l).1 (mk s l).2.1 (mk s l).2.2 x (.returned (.int .i64 0)) ((V.setCell ⟨b, 2, none⟩ (.int .i64 (z : Int))).setCell ⟨b, 3, none⟩ (.int .i64 0))) := Lib.hid (by
        have h1 := LS.made HLV.out (by have := HT.out; omega)
        rw [HMK.out, HZ.out, HB.out]
        exact ⟨rfl, m1, h1.1, HAF.out.trans ((LAft.of_below HBV.out).trans h1.2)⟩)
      clear v0 v2 v3 v4 v5 HS0 fz2 fz3
      go_wp2_with fail
      go_ret
      exact HFIN.out
    · have e1 : (c == 0) = false := by simpa using hc
      have e2 : (c != 0) = true := by simpa using hc
      obtain ⟨m1, s1, hls, haf, hmk⟩ := h1 hc
      have HF : Hid (LopP w base g m x (mk s l).1 (mk s l).2.1 (mk s l).2.2 x (.returned (.int .i64 c)) w1) := Lib.hid (by rw [hmk]; exact ⟨rfl, m1, hls, haf⟩)
      clear h0 h1 hmk hls haf
      go_wp2_with fail
      go_ret
      exact HF.out
end
end Wal
end Go.Proofs.YtaiokogbhfliiaaGreatDoor

namespace Go.Proofs.YtaiokogbhfliiaaGreatDoor
open Go.RowKit Go.Maps

namespace Wal
section
variable {w w' : World} {base g : Nat} {s : Sto.St} {m m' : Sto.Mem} {l : Lg} {x : Lm}
theorem below_drewN (w : World) (n : Nat) : Below w.heap.size w (w.drewN n) := ⟨rfl, rfl, rfl, Nat.le_refl _, fun _ _ => rfl⟩
theorem room_off (h : s.off = true) : room s l = (8, s, l) := by unfold room; rw [if_pos h]
theorem room_yes (h : s.off = false) (h2 : l.size < l.limit) : room s l = (0, s, l) := by unfold room; rw [if_neg (by rw [h]; simp), if_pos h2]
theorem room_mk (h : s.off = false) (h2 : ¬ l.size < l.limit) : room s l = mk s l := by unfold room; rw [if_neg (by rw [h]; simp), if_neg h2]
set_option maxHeartbeats 1000000 in
set_option maxRecDepth 100000 in
theorem room_any (h : LS w base g s m l x) (ht : TabU base w) (hl : s.kept.length ≤ 1000000) (hf : s.files.length ≤ 1000000) :
    Calls Tryz.prog 68 #[.pointer (some ⟨x.lb, 0, none⟩)] w (LopP w base g m x (room s l).1 (room s l).2.1 (room s l).2.2 x) := by
  have H := Lib.hid h
  obtain ⟨c0, c1, _, c3, _, _, _⟩ := h.cells
  have KO := Lib.hid (Sto.off_any h.st)
  have KM := Lib.hid (fun n => make_any (h.below (below_drewN w n)) (TabU.below ht h (below_drewN w n)) hl hf)
  obtain ⟨o, ho⟩ : ∃ o, o = s.off := ⟨_, rfl⟩
  have HO := Lib.hid ho
  rw [← ho] at KO
  clear h ht ho
  go_enter Tryz.func68, Tryz.ntmps68
  go_wp2_with fail
  refine KO.out.mono ?_
  rintro e w1 ⟨rfl, rfl⟩
  rcases o with _ | _
  · by_cases hlt : (l.size : Int) < (l.limit : Int)
    · have HE := Lib.hid (room_yes (s := s) (l := l) HO.out.symm (by omega))
      go_wp2_with fail
      go_quiet (fail)
      go_wp2_with fail
      go_ret
      rw [HE.out]
      exact ⟨rfl, m, H.out.below (below_drewN _ _), LAft.of_below (below_drewN _ _)⟩
    · have HE := Lib.hid (room_mk (s := s) (l := l) HO.out.symm (by omega))
      go_wp2_with fail
      go_quiet (fail)
      go_wp2_with fail
      refine (KM.out _).mono ?_
      rintro e w2 ⟨rfl, m2, hls, haf⟩
      have HF : Hid (LopP w1 base g m x (room s l).1 (room s l).2.1 (room s l).2.2 x (.returned (.int .i64 (mk s l).1)) w2) := Lib.hid (by rw [HE.out]; exact ⟨rfl, m2, hls, (LAft.of_below (below_drewN _ _)).trans haf⟩)
      obtain ⟨c, hc⟩ : ∃ c, c = (mk s l).1 := ⟨_, rfl⟩
      rw [← hc] at HF ⊢
      clear hc hls haf
      go_wp2_with fail
      go_ret
      exact HF.out
  · have HE := Lib.hid (room_off (s := s) (l := l) HO.out.symm)
    go_wp2_with fail
    go_ret
    rw [HE.out]
    exact ⟨rfl, m, H.out, LAft.refl _ _ _ _⟩
/-- What breaks a log. -/
theorem LS.brk (h : LS w base g s m l x) (b : Bool) : LS (w.setCell ⟨x.lb, 6, none⟩ (.bool b)) base g s m { l with broken := b } x ∧ LAft w (w.setCell ⟨x.lb, 6, none⟩ (.bool b)) g m x m x := by
  refine h.turn rfl rfl rfl (by simp) (fun k _ hk => heap_setCell_other _ ⟨x.lb, 6, none⟩ k _ hk) ?_ rfl ⟨h.ok.limit, h.ok.last, h.ok.size, h.ok.next, h.ok.wait, h.ok.one⟩
  have h1 := h.box
  unfold lgObj at h1
  exact (heap_setL h1 (.bool b)).2.2.2.2
/-- What does comes to. -/
def DoesP (w : World) (base g : Nat) (s : Sto.St) (m : Sto.Mem) (l : Lg) (x : Lm) (R : Int → Sto.St → Lg → Lm → Prop) (e : Ending) (w' : World) : Prop :=
  (l.broken = true ∧ LopP w base g m x 9 s l x e w') ∨ (l.broken = false ∧ ∃ c s1 l1 x1, R c s1 l1 x1 ∧ LopP w base g m x c s1 { l1 with broken := c != 0 } x1 e w')
set_option maxHeartbeats 1000000 in
set_option maxRecDepth 100000 in
theorem does_any (h : LS w base g s m l x) (A : Option Addr) (n c : Nat) (R : Int → Sto.St → Lg → Lm → Prop)
    (hall : l.broken = false → Calls Tryz.prog 88 #[.slice A n c] w fun e w1 => ∃ c s1 m1 l1 x1, e = .returned (.int .i64 c) ∧ LS w1 base g s1 m1 l1 x1 ∧ LAft w w1 g m x m1 x1 ∧ R c s1 l1 x1) :
    Calls Tryz.prog 67 #[.pointer (some ⟨x.lb, 0, none⟩), .slice A n c] w (DoesP w base g s m l x R) := by
  have H := Lib.hid h
  obtain ⟨_, _, _, _, _, _, c6⟩ := h.cells
  obtain ⟨o, ho⟩ : ∃ o, o = l.broken := ⟨_, rfl⟩
  rw [← ho] at c6
  have HO := Lib.hid ho
  obtain ⟨b, hb⟩ : ∃ b, b = x.lb := ⟨_, rfl⟩
  rw [← hb] at c6 ⊢
  have HB := Lib.hid hb
  have KA := Lib.hid hall
  clear h ho hall hb
  go_enter Tryz.func67, Tryz.ntmps67
  rcases o with _ | _
  · have KA1 := Lib.hid (KA.out HO.out.symm)
    clear KA
    go_wp2_with fail
    refine KA1.out.mono ?_
    rintro e w1 ⟨c', s1, m1, l1, x1, rfl, hls, haf, hR⟩
    have HLS := Lib.hid hls
    have HAF := Lib.hid haf
    have HR := Lib.hid hR
    obtain ⟨_, _, _, _, _, _, d6⟩ := hls.cells
    have f6 := hls.frozen 6
    rw [haf.lb, ← HB.out] at d6 f6
    obtain ⟨q, hq⟩ : ∃ q, q = (c' != 0) := ⟨_, rfl⟩
    have hq' : (c' != 0) = q := hq.symm
    have hq2 : (!(c' == 0)) = q := by rw [← hq']; rfl
    have HQ := Lib.hid hq
    have HF : Hid (DoesP w base g s m l x R (.returned (.int .i64 c')) (w1.setCell ⟨b, 6, none⟩ (.bool q))) := Lib.hid (.inr ⟨HO.out.symm, c', s1, l1, x1, hR, rfl, m1, by
      have h1 := LS.brk hls q
      rw [haf.lb, ← HB.out] at h1
      rw [← hq]
      exact ⟨h1.1, haf.trans h1.2⟩⟩)
    clear hls haf hR hq c6
    go_wp2_with fail
    go_ret
    exact HF.out
  · go_wp2_with fail
    go_ret
    exact .inl ⟨HO.out.symm, rfl, m, H.out, LAft.refl _ _ _ _⟩
end
end Wal
end Go.Proofs.YtaiokogbhfliiaaGreatDoor

namespace Go.Proofs.YtaiokogbhfliiaaGreatDoor
open Go.RowKit Go.Maps

namespace Wal
section
variable {w w' : World} {base g : Nat} {s : Sto.St} {m m' : Sto.Mem} {l : Lg} {x : Lm}
set_option maxHeartbeats 1000000 in
set_option maxRecDepth 100000 in
theorem commit1_any (h : LS w base g s m l x) (ht : TabU base w) (hf : s.files.length ≤ 1000000) (bA : Option Addr) (bc : Nat) (b : List UInt8) (hb : RdB w w.heap.size bA b) (hp : Sto.Apart w g m bA) (y v : Nat) (hy : w.heap[y]? = some (.cells #[.pointer (some ⟨x.lb, 0, none⟩)] 31)) (hv : w.heap[v]? = some (.cells #[.slice bA b.length bc] 23)) :
    Calls Tryz.prog 69 #[.pointer (some ⟨y, 0, none⟩), .pointer (some ⟨v, 0, none⟩)] w (Sto.OpP w base g m (Sto.append s (name l.last) b)) := by
  have H := Lib.hid h
  obtain ⟨N, hN⟩ : ∃ N, N = name l.last := ⟨_, rfl⟩
  have HNl : N.length ≤ maxLen := by rw [hN, name_len]; unfold maxLen; omega
  obtain ⟨z, hz⟩ : ∃ z, z = l.last := ⟨_, rfl⟩
  have hlast := h.ok.last
  have KN := Lib.hid (fun p : BelowW w => p.calls (name_any z (by omega) p.X (ht.tab.below p.hb) N (by rw [hN, hz])))
  rw [← hN]
  have q0 : w.cell? ⟨y, 0, none⟩ = some (.pointer (some ⟨x.lb, 0, none⟩)) := by rw [cell_of_row w y 0 _ _ (0, 0) hy]; rfl
  have q1 : w.cell? ⟨v, 0, none⟩ = some (.slice bA b.length bc) := by rw [cell_of_row w v 0 _ _ (0, 0) hv]; rfl
  obtain ⟨c0, _, c2, _, _, _, _⟩ := h.cells
  rw [← hz] at c2
  have KC := Lib.hid (fun w1 (hb1 : Below w.heap.size w w1) => Sto.append_any N HNl bA bc b (h.st.below hb1) ((hb.below hb1 (Nat.le_refl _)).more hb1.size) (hp.aft (Sto.Aft.of_below hb1)) hf)
  have d0 : ∀ p : BelowW w, p.X.cell? ⟨y, 0, none⟩ = some (.pointer (some ⟨x.lb, 0, none⟩)) := fun p => (p.hb.cell (p := ⟨y, 0, none⟩) (Array.getElem?_eq_some_iff.1 hy).1).trans q0
  have d3 : ∀ p : BelowW w, p.X.cell? ⟨v, 0, none⟩ = some (.slice bA b.length bc) := fun p => (p.hb.cell (p := ⟨v, 0, none⟩) (Array.getElem?_eq_some_iff.1 hv).1).trans q1
  have d1 : ∀ p : BelowW w, p.X.cell? ⟨x.lb, 0, none⟩ = some (.pointer (some ⟨g, 0, none⟩)) := fun p => (p.hb.cell (p := ⟨x.lb, 0, none⟩) h.lb_tag.lt).trans c0
  have d2 : ∀ p : BelowW w, p.X.cell? ⟨x.lb, 2, none⟩ = some (.int .i64 (z : Int)) := fun p => (p.hb.cell (p := ⟨x.lb, 2, none⟩) h.lb_tag.lt).trans c2
  clear h ht hy hv hN HNl hz q0 q1 c0 c2 hb hp
  go_enter Tryz.func69, Tryz.ntmps69
  go_wp2_with fail
  refine wp_region_below_tail 10 (by kernel_rfl) (by kernel_rfl) ?_
  repeat (refine wpQuiet_step (fun K hK => ?_); go_simp; first | (refine hK _ ?_; clear hK K) | (apply Exists.intro; refine ⟨fun _ => ?_, hK _ ?_⟩; (exact KN.out _); clear hK K))
  refine wpQuiet_nil ?_
  rintro _ ⟨p, rfl⟩
  obtain ⟨w1, hb1⟩ := p
  have KC1 := Lib.hid (KC.out w1 hb1)
  have HB1 := Lib.hid hb1
  simp only [List.drop_succ_cons, List.drop_zero]
  clear hb1 d0 d1 d2 d3 KN KC
  go_wp2_with fail
  refine KC1.out.mono ?_
  rintro e w2 ⟨rfl, m2, hst, haf⟩
  have HF : Hid (Sto.OpP w base g m (Sto.append s N b) (.returned (.int .i64 (Sto.append s N b).1)) w2) := Lib.hid ⟨rfl, m2, hst, (Sto.Aft.of_below HB1.out).trans haf⟩
  obtain ⟨c, hc⟩ : ∃ c, c = (Sto.append s N b).1 := ⟨_, rfl⟩
  rw [← hc] at HF ⊢
  clear hst haf hc
  go_wp2_with fail
  go_ret
  exact HF.out
set_option maxHeartbeats 1000000 in
set_option maxRecDepth 100000 in
theorem commit2_any (h : LS w base g s m l x) (ht : TabU base w) (y : Nat) (hy : w.heap[y]? = some (.cells #[.pointer (some ⟨x.lb, 0, none⟩)] 31)) :
    Calls Tryz.prog 71 #[.pointer (some ⟨y, 0, none⟩)] w (Sto.OpP w base g m (Sto.sync s (name l.last))) := by
  have H := Lib.hid h
  obtain ⟨N, hN⟩ : ∃ N, N = name l.last := ⟨_, rfl⟩
  have HNl : N.length ≤ maxLen := by rw [hN, name_len]; unfold maxLen; omega
  obtain ⟨z, hz⟩ : ∃ z, z = l.last := ⟨_, rfl⟩
  have hlast := h.ok.last
  have KN := Lib.hid (fun p : BelowW w => p.calls (name_any z (by omega) p.X (ht.tab.below p.hb) N (by rw [hN, hz])))
  rw [← hN]
  have q0 : w.cell? ⟨y, 0, none⟩ = some (.pointer (some ⟨x.lb, 0, none⟩)) := by rw [cell_of_row w y 0 _ _ (0, 0) hy]; rfl
  obtain ⟨c0, _, c2, _, _, _, _⟩ := h.cells
  rw [← hz] at c2
  have KC := Lib.hid (fun w1 (hb1 : Below w.heap.size w w1) => Sto.sync_any N HNl w1 base g s m (h.st.below hb1))
  have d0 : ∀ p : BelowW w, p.X.cell? ⟨y, 0, none⟩ = some (.pointer (some ⟨x.lb, 0, none⟩)) := fun p => (p.hb.cell (p := ⟨y, 0, none⟩) (Array.getElem?_eq_some_iff.1 hy).1).trans q0
  have d1 : ∀ p : BelowW w, p.X.cell? ⟨x.lb, 0, none⟩ = some (.pointer (some ⟨g, 0, none⟩)) := fun p => (p.hb.cell (p := ⟨x.lb, 0, none⟩) h.lb_tag.lt).trans c0
  have d2 : ∀ p : BelowW w, p.X.cell? ⟨x.lb, 2, none⟩ = some (.int .i64 (z : Int)) := fun p => (p.hb.cell (p := ⟨x.lb, 2, none⟩) h.lb_tag.lt).trans c2
  clear h ht hy hN HNl hz q0 c0 c2
  go_enter Tryz.func71, Tryz.ntmps71
  go_wp2_with fail
  refine wp_region_below_tail 9 (by kernel_rfl) (by kernel_rfl) ?_
  repeat (refine wpQuiet_step (fun K hK => ?_); go_simp; first | (refine hK _ ?_; clear hK K) | (apply Exists.intro; refine ⟨fun _ => ?_, hK _ ?_⟩; (exact KN.out _); clear hK K))
  refine wpQuiet_nil ?_
  rintro _ ⟨p, rfl⟩
  obtain ⟨w1, hb1⟩ := p
  have KC1 := Lib.hid (KC.out w1 hb1)
  have HB1 := Lib.hid hb1
  simp only [List.drop_succ_cons, List.drop_zero]
  clear hb1 d0 d1 d2 KN KC
  go_wp2_with fail
  refine KC1.out.mono ?_
  rintro e w2 ⟨rfl, m2, hst, haf⟩
  have HF : Hid (Sto.OpP w base g m (Sto.sync s N) (.returned (.int .i64 (Sto.sync s N).1)) w2) := Lib.hid ⟨rfl, m2, hst, (Sto.Aft.of_below HB1.out).trans haf⟩
  obtain ⟨c, hc⟩ : ∃ c, c = (Sto.sync s N).1 := ⟨_, rfl⟩
  rw [← hc] at HF ⊢
  clear hst haf hc
  go_wp2_with fail
  go_ret
  exact HF.out
/-- All that waited is written. -/
theorem LS.written (h : LS w base g s m l x) (n : Nat) (hn : l.size + n ≤ 20000000) : LS ((w.setCell ⟨x.lb, 3, none⟩ (.int .i64 ((l.size + n : Nat) : Int))).setCell ⟨x.lb, 5, none⟩ (.slice none 0 0)) base g s m { l with size := l.size + n, waiting := [] } ⟨x.lb, none, 0, []⟩ ∧ LAft w ((w.setCell ⟨x.lb, 3, none⟩ (.int .i64 ((l.size + n : Nat) : Int))).setCell ⟨x.lb, 5, none⟩ (.slice none 0 0)) g m x m ⟨x.lb, none, 0, []⟩ := by
  refine h.clear rfl rfl rfl (by simp) (fun k _ hk => ?_) ?_ rfl ⟨h.ok.limit, h.ok.last, hn, h.ok.next, by have := h.ok.next; simp only [List.length_nil]; omega, fun _ h => by cases h⟩
  · rw [heap_setCell_other _ ⟨x.lb, 5, none⟩ k _ hk, heap_setCell_other _ ⟨x.lb, 3, none⟩ k _ hk]
  · have h1 := h.box
    unfold lgObj at h1
    exact (heap_setL (heap_setL h1 (.int .i64 ((l.size + n : Nat) : Int))).2.1 (.slice none 0 0)).2.2.2.1
set_option maxHeartbeats 1000000 in
set_option maxRecDepth 100000 in
theorem commit3_any (h : LS w base g s m l x) (bA : Option Addr) (bl bc : Nat) (hn : l.size + bl ≤ 20000000) (y v : Nat) (hy : w.heap[y]? = some (.cells #[.pointer (some ⟨x.lb, 0, none⟩)] 31)) (hv : w.heap[v]? = some (.cells #[.slice bA bl bc] 23)) :
    Calls Tryz.prog 72 #[.pointer (some ⟨y, 0, none⟩), .pointer (some ⟨v, 0, none⟩)] w (LopP w base g m x 0 s { l with size := l.size + bl, waiting := [] } ⟨x.lb, none, 0, []⟩) := by
  have H := Lib.hid h
  have q0 : w.cell? ⟨y, 0, none⟩ = some (.pointer (some ⟨x.lb, 0, none⟩)) := by rw [cell_of_row w y 0 _ _ (0, 0) hy]; rfl
  have q1 : w.cell? ⟨v, 0, none⟩ = some (.slice bA bl bc) := by rw [cell_of_row w v 0 _ _ (0, 0) hv]; rfl
  obtain ⟨_, _, _, c3, _, _, _⟩ := h.cells
  clear h
  go_enter Tryz.func72, Tryz.ntmps72
  go_wp2_with fail
  obtain ⟨b, hb⟩ : ∃ b, b = x.lb := ⟨_, rfl⟩
  have HB := Lib.hid hb
  obtain ⟨V, hV⟩ : ∃ V, w.drew = V := ⟨_, rfl⟩
  have hbV : Below w.heap.size w V := by rw [← hV]; exact (Below.refl _ _).drew
  have HBV := Lib.hid hbV
  have HLV := Lib.hid (H.out.below hbV)
  have hyl : Sto.Tag w y 31 := ⟨_, _, hy⟩
  have hvl : Sto.Tag w v 23 := ⟨_, _, hv⟩
  have hyb : y ≠ b := by rw [hb]; exact hyl.ne H.out.lb_tag (by decide)
  have hvb : v ≠ b := by rw [hb]; exact hvl.ne H.out.lb_tag (by decide)
  have v0 : V.cell? ⟨y, 0, none⟩ = some (.pointer (some ⟨b, 0, none⟩)) := by rw [hb]; exact (hbV.cell (p := ⟨y, 0, none⟩) hyl.lt).trans q0
  have v1 : V.cell? ⟨v, 0, none⟩ = some (.slice bA bl bc) := (hbV.cell (p := ⟨v, 0, none⟩) hvl.lt).trans q1
  have v3 : V.cell? ⟨b, 3, none⟩ = some (.int .i64 (l.size : Int)) := by rw [hb]; exact (hbV.cell (p := ⟨x.lb, 3, none⟩) H.out.lb_tag.lt).trans c3
  obtain ⟨z, hz⟩ : ∃ z, z = l.size + bl := ⟨_, rfl⟩
  have hez : IntKind.i64.wrap ((l.size : Int) + (bl : Int)) = (z : Int) := by rw [IntKind.wrap_i64]; omega
  have HZ := Lib.hid hz
  have fz3 := HLV.out.frozen 3
  have hbx := HLV.out.box
  unfold lgObj at hbx
  rw [← hb] at fz3 hbx
  have fz5 := frozen_of_row (V.setCell ⟨b, 3, none⟩ (.int .i64 (z : Int))) b 5 _ _ (heap_setL hbx _).2.1
  have v5 : (V.setCell ⟨b, 3, none⟩ (.int .i64 (z : Int))).cell? ⟨b, 5, none⟩ = some (.slice x.WA l.waiting.length x.wc) := by
    rw [cell_of_row _ b 5 _ _ (0, 0) (heap_setL hbx _).2.1]; rfl
  have v6 : (V.setCell ⟨b, 3, none⟩ (.int .i64 (z : Int))).cell? ⟨y, 0, none⟩ = some (.pointer (some ⟨b, 0, none⟩)) := by
    rw [World.cell?_of_block (heap_setCell_other _ ⟨b, 3, none⟩ y _ hyb)]; exact v0
  have v7 : (V.setCell ⟨b, 3, none⟩ (.int .i64 (z : Int))).cell? ⟨v, 0, none⟩ = some (.slice bA bl bc) := by
    rw [World.cell?_of_block (heap_setCell_other _ ⟨b, 3, none⟩ v _ hvb)]; exact v1
  have HFIN : Hid (LopP w base g m x 0 s { l with size := l.size + bl, waiting := [] } ⟨x.lb, none, 0, []⟩ (.returned (.int .i64 0)) ((V.setCell ⟨b, 3, none⟩ (.int .i64 (z : Int))).setCell ⟨b, 5, none⟩ (.slice none 0 0))) := Lib.hid (by
    have h1 := LS.written HLV.out bl hn
    rw [hz, hb]
    exact ⟨rfl, m, h1.1, (LAft.of_below hbV).trans h1.2⟩)
  refine wp_region_E 14 (fun w' => w'.cell? ⟨y, 0, none⟩ = some (.pointer (some ⟨b, 0, none⟩)) ∧ w'.cell? ⟨v, 0, none⟩ = some (.slice bA bl bc)) (by kernel_rfl) ?_
  rw [hV]
  clear hV hz hb hbV hy hv hyl hvl hbx q0 q1 c3
  have HS0 : V.cell? ⟨y, 0, none⟩ = some (.pointer (some ⟨b, 0, none⟩)) ∧ V.cell? ⟨v, 0, none⟩ = some (.slice bA bl bc) := ⟨v0, v1⟩
  refine wpAnyE_take (i := 0) (v := ?_) rfl (by kernel_rfl) (by kernel_rfl) (by kernel_rfl) (by kernel_rfl) (fun _ _ _ h => h) (Or.inl ⟨by rfl, ?_⟩) HS0 ?_
  rotate_left
  · (intro wy hSw; obtain ⟨s1, s2x⟩ := hSw; go_simp; try with_reducible rfl)
  try simp only [Act.put, List.setIfInBounds_toArray]
  refine wpAnyE_take (i := 1) (v := ?_) rfl (by kernel_rfl) (by kernel_rfl) (by kernel_rfl) (by kernel_rfl) (fun _ _ _ h => h) (Or.inl ⟨by rfl, ?_⟩) HS0 ?_
  rotate_left
  · (intro wy hSw; obtain ⟨s1, s2x⟩ := hSw; go_simp; try with_reducible rfl)
  try simp only [Act.put]
  refine wpAnyE_take (i := 2) (v := ?_) rfl (by kernel_rfl) (by kernel_rfl) (by kernel_rfl) (by kernel_rfl) (fun _ _ _ h => h) (Or.inl ⟨by rfl, ?_⟩) HS0 ?_
  rotate_left
  · (intro wy hSw; obtain ⟨s1, s2x⟩ := hSw; go_simp; try with_reducible rfl)
  try simp only [Act.put]
  refine wpAnyE_take (i := 6) (v := ?_) rfl (by kernel_rfl) (by kernel_rfl) (by kernel_rfl) (by kernel_rfl) (fun _ _ _ h => h) (Or.inl ⟨by rfl, ?_⟩) HS0 ?_
  rotate_left
  · (intro wy hSw; obtain ⟨s1, s2x⟩ := hSw; go_simp; try with_reducible rfl)
  try simp only [Act.put]
  refine wpAnyE_take (i := 7) (v := ?_) rfl (by kernel_rfl) (by kernel_rfl) (by kernel_rfl) (by kernel_rfl) (fun _ _ _ h => h) (Or.inl ⟨by rfl, ?_⟩) HS0 ?_
  rotate_left
  · (intro wy hSw; obtain ⟨s1, s2x⟩ := hSw; go_simp; try with_reducible rfl)
  try simp only [Act.put]
  refine wpAnyE_one (i := 3) (by kernel_rfl) rfl (fun K hK => ?_)
  go_simp
  refine hK _ _ HS0 ?_
  clear hK K
  refine wpAnyE_one (i := 4) (by kernel_rfl) rfl (fun K hK => ?_)
  go_simp
  refine hK _ _ HS0 ?_
  clear hK K
  refine wpAnyE_one (i := 5) (by kernel_rfl) rfl (fun K hK => ?_)
  go_simp
  refine hK _ _ HS0 ?_
  clear hK K
  refine wpAnyE_one (i := 8) (by kernel_rfl) rfl (fun K hK => ?_)
  go_simp
  refine hK _ _ HS0 ?_
  clear hK K
  refine wpAnyE_one (i := 9) (by kernel_rfl) rfl (fun K hK => ?_)
  go_simp
  refine hK _ _ HS0 ?_
  clear hK K
  refine wpAnyE_one (i := 10) (by kernel_rfl) rfl (fun K hK => ?_)
  go_simp
  refine hK _ _ HS0 ?_
  clear hK K
  refine wpAnyE_one (i := 11) (by kernel_rfl) rfl (fun K hK => ?_)
  go_simp
  refine hK _ _ ⟨v6, v7⟩ ?_
  clear hK K
  refine wpAnyE_one (i := 12) (by kernel_rfl) rfl (fun K hK => ?_)
  go_simp
  refine hK _ _ ⟨v6, v7⟩ ?_
  clear hK K
  refine wpAnyE_one (i := 13) (by kernel_rfl) rfl (fun K hK => ?_)
  go_simp
  refine hK _ _ ⟨v6, v7⟩ ?_
  clear hK K
  refine wpAnyE_last (by kernel_rfl) (by kernel_rfl) rfl (fun K hK => ?_)
  go_simp
  refine hK _ _ ?_
  clear v0 v1 v3 v5 v6 v7 HS0 fz3 fz5
  go_wp2_with fail
  go_ret
  exact HFIN.out
end
end Wal
end Go.Proofs.YtaiokogbhfliiaaGreatDoor

namespace Go.Proofs.YtaiokogbhfliiaaGreatDoor
open Go.RowKit Go.Maps

namespace Sto
section
variable {s : St}
theorem create_sz (n : Str) : (create s n).2.files.length ≤ s.files.length + 1 ∧ (create s n).2.kept.length ≤ s.kept.length + 1 := by
  obtain ⟨h1, h2, _, _, _⟩ := meet_files s [n]
  unfold create
  simp only
  split
  · rw [h1, h2]; omega
  · split
    · rw [h1, h2]; omega
    · simp [change, h1, h2]
theorem syncDir_sz : (syncDir s).2.files.length ≤ s.files.length ∧ (syncDir s).2.kept.length ≤ s.kept.length := by
  obtain ⟨h1, h2, _, _, _⟩ := meet_files s []
  unfold syncDir
  simp only
  split
  · rw [h1, h2]; omega
  · simp [h1]
theorem append_sz (n : Str) (b : List UInt8) : (append s n b).2.files.length ≤ s.files.length ∧ (append s n b).2.kept.length ≤ s.kept.length := by
  obtain ⟨h1, h2, _, _, _⟩ := meet_files s [n]
  unfold append
  simp only
  split
  · rw [h1, h2]; omega
  · split
    · rw [h1, h2]; omega
    · split
      · rw [h1, h2]; omega
      · simp [setF, h1, h2]
theorem sync_sz (n : Str) : (sync s n).2.files.length ≤ s.files.length ∧ (sync s n).2.kept.length ≤ s.kept.length := by
  obtain ⟨h1, h2, _, _, _⟩ := meet_files s [n]
  unfold sync
  simp only
  split
  · rw [h1, h2]; omega
  · split
    · rw [h1, h2]; omega
    · simp [setF, h1, h2]
theorem remove_sz (n : Str) : (remove s n).2.files.length ≤ s.files.length ∧ (remove s n).2.kept.length ≤ s.kept.length + 1 := by
  obtain ⟨h1, h2, _, _, _⟩ := meet_files s [n]
  unfold remove
  simp only
  split
  · rw [h1, h2]; omega
  · split
    · rw [h1, h2]; omega
    · simp [change, h1, h2]
theorem append_fit {n : Str} {b : List UInt8} (hr : s.room ≤ 16777216) (h : (append s n b).1 = 0) : b.length ≤ 16777216 := by
  obtain ⟨_, _, _, _, h5⟩ := meet_files s [n]
  unfold append at h
  simp only at h
  split at h
  · rename_i h0; exact absurd h h0
  · split at h
    · cases h
    · split at h
      · cases h
      · rename_i hf
        rw [h5] at hf
        omega
end
end Sto
namespace Wal
section
variable {w w' : World} {base g : Nat} {s : Sto.St} {m m' : Sto.Mem} {l : Lg} {x : Lm}
theorem mk_sz : (mk s l).2.1.files.length ≤ s.files.length + 1 ∧ (mk s l).2.1.kept.length ≤ s.kept.length + 1 := by
  have h1 := Sto.create_sz (s := s) (name (l.last + 1))
  have h2 := Sto.syncDir_sz (s := (Sto.create s (name (l.last + 1))).2)
  unfold mk
  simp only
  split
  · simp only; omega
  · split
    · exact h1
    · split <;> (simp only; omega)
theorem mk_lg : (mk s l).2.2.broken = l.broken ∧ (mk s l).2.2.waiting = l.waiting ∧ (mk s l).2.2.limit = l.limit ∧ (mk s l).2.2.next = l.next ∧ ((mk s l).1 = 0 → (mk s l).2.2.size = 0) := by
  unfold mk
  simp only
  split
  · exact ⟨rfl, rfl, rfl, rfl, fun h => by cases h⟩
  · split
    · rename_i h0; exact ⟨rfl, rfl, rfl, rfl, fun h => absurd h h0⟩
    · split
      · rename_i h0; exact ⟨rfl, rfl, rfl, rfl, fun h => absurd h h0⟩
      · exact ⟨rfl, rfl, rfl, rfl, fun _ => rfl⟩
theorem room_sz : (room s l).2.1.files.length ≤ s.files.length + 1 ∧ (room s l).2.1.kept.length ≤ s.kept.length + 1 := by
  unfold room
  split
  · simp only; omega
  · split
    · simp only; omega
    · exact mk_sz
theorem room_lg (hl : l.limit ≤ 65536) : (room s l).2.2.broken = l.broken ∧ (room s l).2.2.waiting = l.waiting ∧ ((room s l).1 = 0 → (room s l).2.2.size ≤ 65536) := by
  unfold room
  split
  · exact ⟨rfl, rfl, fun h => by cases h⟩
  · split
    · exact ⟨rfl, rfl, fun _ => by simp only; omega⟩
    · exact ⟨mk_lg.1, mk_lg.2.1, fun h => by rw [mk_lg.2.2.2.2 h]; omega⟩
/-- The steps of Commit. -/
def cmFs (b y v : Nat) : List Fc := [⟨68, [.pointer (some ⟨b, 0, none⟩)], []⟩, ⟨69, [], [.pointer (some ⟨y, 0, none⟩), .pointer (some ⟨v, 0, none⟩)]⟩,
  ⟨71, [], [.pointer (some ⟨y, 0, none⟩)]⟩, ⟨72, [], [.pointer (some ⟨y, 0, none⟩), .pointer (some ⟨v, 0, none⟩)]⟩]
/-- How far Commit has come. -/
def CmSt (s : Sto.St) (l : Lg) (b : List UInt8) (i : Nat) (s1 : Sto.St) (l1 : Lg) : Prop :=
  (i = 0 → s1 = s ∧ l1 = l) ∧ (i = 1 → room s l = (0, s1, l1)) ∧ (i = 2 → ∃ sr, room s l = (0, sr, l1) ∧ Sto.append sr (name l1.last) b = (0, s1)) ∧
  (i = 3 → ∃ sr sa, room s l = (0, sr, l1) ∧ Sto.append sr (name l1.last) b = (0, sa) ∧ Sto.sync sa (name l1.last) = (0, s1)) ∧ (i = 4 → commit s l = (0, s1, { l1 with broken := false }))
structure CmW (w : World) (base g : Nat) (s : Sto.St) (m : Sto.Mem) (l : Lg) (x : Lm) (y v r : Nat) (bA : Option Addr) (bc : Nat) (b : List UInt8) (i : Nat) (W : World) : Prop where
  row : W.heap[r]? = some (.cells ((cmFs x.lb y v).flatMap F1).toArray 51)
  y : W.heap[y]? = some (.cells #[.pointer (some ⟨x.lb, 0, none⟩)] 31)
  v : W.heap[v]? = some (.cells #[.slice bA b.length bc] 23)
  rd : RdB W W.heap.size bA b
  tg : ∀ k, blk bA = some k → Sto.Tag W k 5
  tab : TabU base W
  st : ∃ m1 s1 l1 x1, LS W base g s1 m1 l1 x1 ∧ LAft w W g m x m1 x1 ∧ Sto.Apart W g m1 bA ∧ (i ≤ 3 → x1 = x) ∧ CmSt s l b i s1 l1
def CmF (w : World) (base g : Nat) (s : Sto.St) (m : Sto.Mem) (l : Lg) (x : Lm) (c : Int) (W : World) : Prop := ∃ m1 s1 l1 x1, LS W base g s1 m1 l1 x1 ∧ LAft w W g m x m1 x1 ∧ commit s l = (c, s1, { l1 with broken := true })
theorem commit_room (h1 : l.broken = false) (h2 : l.waiting ≠ []) (h : (room s l).1 ≠ 0) : commit s l = ((room s l).1, (room s l).2.1, { (room s l).2.2 with broken := true }) := by
  unfold commit; rw [if_neg (by rw [h1]; simp), if_neg h2]; simp only; rw [if_pos h]
theorem commit_app (h1 : l.broken = false) (h2 : l.waiting ≠ []) {s1 : Sto.St} {l1 : Lg} (hr : room s l = (0, s1, l1)) (h : (Sto.append s1 (name l1.last) (bytes l.waiting)).1 ≠ 0) : commit s l = ((Sto.append s1 (name l1.last) (bytes l.waiting)).1, (Sto.append s1 (name l1.last) (bytes l.waiting)).2, { l1 with broken := true }) := by
  unfold commit; rw [if_neg (by rw [h1]; simp), if_neg h2]; simp only; rw [hr]; simp only; rw [if_neg (by simp), if_pos h]
theorem commit_sync (h1 : l.broken = false) (h2 : l.waiting ≠ []) {s1 sa : Sto.St} {l1 : Lg} (hr : room s l = (0, s1, l1)) (ha : Sto.append s1 (name l1.last) (bytes l.waiting) = (0, sa)) (h : (Sto.sync sa (name l1.last)).1 ≠ 0) : commit s l = ((Sto.sync sa (name l1.last)).1, (Sto.sync sa (name l1.last)).2, { l1 with broken := true }) := by
  unfold commit; rw [if_neg (by rw [h1]; simp), if_neg h2]; simp only; rw [hr]; simp only; rw [if_neg (by simp), ha]; simp only; rw [if_neg (by simp), if_pos h]
theorem commit_ok (h1 : l.broken = false) (h2 : l.waiting ≠ []) {s1 sa sb : Sto.St} {l1 : Lg} (hr : room s l = (0, s1, l1)) (ha : Sto.append s1 (name l1.last) (bytes l.waiting) = (0, sa)) (hb : Sto.sync sa (name l1.last) = (0, sb)) : commit s l = (0, sb, { l1 with size := l1.size + (bytes l.waiting).length, waiting := [] }) := by
  unfold commit; rw [if_neg (by rw [h1]; simp), if_neg h2]; simp only; rw [hr]; simp only; rw [if_neg (by simp), ha]; simp only; rw [if_neg (by simp), hb]; simp only; rw [if_neg (by simp)]
theorem commit_nil (h1 : l.broken = false) (h2 : l.waiting = []) : commit s l = (0, s, l) := by
  unfold commit; rw [if_neg (by rw [h1]; simp), if_pos h2]
theorem commit_brk (h1 : l.broken = true) : commit s l = (9, s, l) := by unfold commit; rw [if_pos h1]
theorem laft_tag {x1 : Lm} (h : LS w base g s m l x) (ha : LAft w w' g m x m' x1) {k : Nat} {cs : Array Value} {T : TypeId} {fr : Nat × Nat} (ht : w.heap[k]? = some (.cells cs T fr)) (hT : Alien T) (h2 : T ≠ 87) (h3 : T ≠ 92) : w'.heap[k]? = some (.cells cs T fr) :=
  (ha.block k (Array.getElem?_eq_some_iff.1 ht).1 (fun e => by
    have t : Sto.Tag w k T := ⟨_, _, ht⟩
    rcases e with e | e | e
    · exact h.st.not_foot t hT.h1 hT.h2 hT.h3 hT.h4 hT.h5 (fun e2 => absurd e2 hT.h6) (.inl e)
    · exact t.ne h.lb_tag h2 e
    · exact t.ne (Sto.ownTagS h.wt.row e) h3 rfl)).trans ht
theorem rdB_laft {x1 : Lm} {A : Option Addr} {b : List UInt8} (h : RdB w w.heap.size A b) (hs : LS w base g s m l x) (hp : Sto.Apart w g m A) (ht : ∀ k, blk A = some k → Sto.Tag w k 5) (ha : LAft w w' g m x m' x1) : RdB w' w'.heap.size A b ∧ Sto.Apart w' g m' A ∧ ∀ k, blk A = some k → Sto.Tag w' k 5 := by
  have hn : ∀ k, blk A = some k → ¬ LMut g m x k := fun k e => by
    rintro (h1 | h1 | h1)
    · exact (hp k e).2 h1
    · exact (ht k e).ne hs.lb_tag (by decide) h1
    · exact (ht k e).ne (Sto.ownTagS hs.wt.row h1) (by decide) rfl
  refine ⟨rdB_keepS h ha.size (fun k e hk => ha.block k hk (hn k e)), fun k e => ⟨Nat.lt_of_lt_of_le (hp k e).1 ha.size, fun hm => hn k e (ha.turn k (hp k e).1 (.inl hm))⟩, fun k e => (ht k e).keep (ha.block k (hp k e).1 (hn k e))⟩
theorem CmW.step {y v r i : Nat} {bA : Option Addr} {bc : Nat} {b : List UInt8} {W W2 : World} (h : CmW w base g s m l x y v r bA bc b i W) {m1 m2 : Sto.Mem} {s1 s2 : Sto.St} {l1 l2 : Lg} {x1 x2 : Lm} (h1 : LS W base g s1 m1 l1 x1) (h2 : LAft w W g m x m1 x1) (h3 : Sto.Apart W g m1 bA)
    (k1 : LS W2 base g s2 m2 l2 x2) (k2 : LAft W W2 g m1 x1 m2 x2) (hx : i + 1 ≤ 3 → x2 = x) (hs : CmSt s l b (i + 1) s2 l2) : CmW w base g s m l x y v r bA bc b (i + 1) W2 := by
  obtain ⟨p1, p2, p3⟩ := rdB_laft h.rd h1 h3 h.tg k2
  exact ⟨laft_tag h1 k2 h.row ⟨by decide, by decide, by decide, by decide, by decide, by decide⟩ (by decide) (by decide), laft_tag h1 k2 h.y ⟨by decide, by decide, by decide, by decide, by decide, by decide⟩ (by decide) (by decide),
    laft_tag h1 k2 h.v ⟨by decide, by decide, by decide, by decide, by decide, by decide⟩ (by decide) (by decide), p1, p3, TabU.laft h.tab h1 k2, m2, s2, l2, x2, k1, h2.trans k2, p2, hx, hs⟩
theorem CmSt.at0 (b : List UInt8) : CmSt s l b 0 s l := ⟨fun _ => ⟨rfl, rfl⟩, (fun h => by cases h), (fun h => by cases h), (fun h => by cases h), (fun h => by cases h)⟩
theorem CmSt.at1 {b : List UInt8} {s1 : Sto.St} {l1 : Lg} (h : room s l = (0, s1, l1)) : CmSt s l b 1 s1 l1 := ⟨(fun h => by cases h), fun _ => h, (fun h => by cases h), (fun h => by cases h), (fun h => by cases h)⟩
theorem CmSt.at2 {b : List UInt8} {sr s1 : Sto.St} {l1 : Lg} (h : room s l = (0, sr, l1)) (h2 : Sto.append sr (name l1.last) b = (0, s1)) : CmSt s l b 2 s1 l1 := ⟨(fun h => by cases h), (fun h => by cases h), fun _ => ⟨sr, h, h2⟩, (fun h => by cases h), (fun h => by cases h)⟩
theorem CmSt.at3 {b : List UInt8} {sr sa s1 : Sto.St} {l1 : Lg} (h : room s l = (0, sr, l1)) (h2 : Sto.append sr (name l1.last) b = (0, sa)) (h3 : Sto.sync sa (name l1.last) = (0, s1)) : CmSt s l b 3 s1 l1 := ⟨(fun h => by cases h), (fun h => by cases h), (fun h => by cases h), fun _ => ⟨sr, sa, h, h2, h3⟩, (fun h => by cases h)⟩
theorem CmSt.at4 {b : List UInt8} {s1 : Sto.St} {l1 : Lg} (h : commit s l = (0, s1, { l1 with broken := false })) : CmSt s l b 4 s1 l1 := ⟨(fun h => by cases h), (fun h => by cases h), (fun h => by cases h), (fun h => by cases h), fun _ => h⟩
set_option maxHeartbeats 1000000 in
set_option maxRecDepth 100000 in
theorem commit_steps (hlim : l.limit ≤ 65536) (hbr : l.broken = false) (hwt : l.waiting ≠ []) (hl : s.kept.length ≤ 900000) (hf : s.files.length ≤ 900000) {y v r : Nat} {bA : Option Addr} {bc : Nat} {W : World} (hI : CmW w base g s m l x y v r bA bc (bytes l.waiting) 0 W) :
    Calls Tryz.prog 88 #[.slice (some ⟨r, 0, none⟩) 4 4] W fun e W' => ∃ c : Int, e = .returned (.int .i64 c) ∧ (c = 0 → CmW w base g s m l x y v r bA bc (bytes l.waiting) 4 W') ∧ (c ≠ 0 → CmF w base g s m l x c W') := by
  refine all_any (some ⟨r, 0, none⟩) 4 (cmFs x.lb y v) W (CmW w base g s m l x y v r bA bc (bytes l.waiting)) (CmF w base g s m l x) (fun u hu => ?_) (by simp [cmFs]) hI (fun i W1 _ h => rd_fcs h.row) (fun i hi W1 h => ?_)
  · simp only [cmFs, List.mem_cons, List.not_mem_nil, or_false] at hu
    rcases hu with rfl | rfl | rfl | rfl <;> exact fun _ _ => rfl
  · obtain ⟨m1, s1, l1, x1, hls, haf, hap, hx, h0, h1, h2, h3, _⟩ := h.st
    have hi4 : i < 4 := hi
    have hr1 := room_lg (s := s) hlim
    have hr2 := room_sz (s := s) (l := l)
    rcases i with _ | _ | _ | _ | i
    · obtain ⟨rfl, rfl⟩ := h0 rfl
      obtain rfl := hx (by omega)
      refine (room_any hls h.tab (by omega) (by omega)).mono ?_
      rintro e W2 ⟨he, m2, hls2, haf2⟩
      refine ⟨_, he, fun hz => h.step hls haf hap hls2 haf2 (fun _ => rfl) (CmSt.at1 (Prod.ext hz rfl)), fun hz => ⟨m2, _, _, _, hls2, haf.trans haf2, commit_room hbr hwt hz⟩⟩
    · have hrm := h1 rfl
      rw [hrm] at hr1 hr2
      simp only at hr1 hr2
      obtain rfl := hx (by omega)
      refine (commit1_any hls h.tab (by omega) bA bc (bytes l.waiting) h.rd hap y v h.y h.v).mono ?_
      rintro e W2 ⟨he, m2, hst2, haf2⟩
      exact ⟨_, he, fun hz => h.step hls haf hap (hls.store hst2 haf2) (LAft.of_aft haf2) (fun _ => rfl) (CmSt.at2 hrm (Prod.ext hz rfl)), fun hz => ⟨m2, _, _, _, hls.store hst2 haf2, haf.trans (LAft.of_aft haf2), commit_app hbr hwt hrm hz⟩⟩
    · obtain ⟨sr, hrm, happ⟩ := h2 rfl
      obtain rfl := hx (by omega)
      refine (commit2_any hls h.tab y h.y).mono ?_
      rintro e W2 ⟨he, m2, hst2, haf2⟩
      exact ⟨_, he, fun hz => h.step hls haf hap (hls.store hst2 haf2) (LAft.of_aft haf2) (fun _ => rfl) (CmSt.at3 hrm happ (Prod.ext hz rfl)), fun hz => ⟨m2, _, _, _, hls.store hst2 haf2, haf.trans (LAft.of_aft haf2), commit_sync hbr hwt hrm happ hz⟩⟩
    · obtain ⟨sr, sa, hrm, happ, hsy⟩ := h3 rfl
      obtain rfl := hx (by omega)
      rw [hrm] at hr1
      simp only at hr1
      have hroom : sr.room ≤ 16777216 := by
        obtain ⟨_, _, _, _, e1⟩ := Sto.meet_files sr [name l1.last]
        obtain ⟨_, _, _, _, e2⟩ := Sto.meet_files sa [name l1.last]
        have h9 := hls.st.r.ok.room.2
        have e3 : (Sto.append sr (name l1.last) (bytes l.waiting)).2.room = sr.room := by
          unfold Sto.append
          simp only
          split
          · exact e1
          · split
            · exact e1
            · split <;> exact e1
        have e4 : (Sto.sync sa (name l1.last)).2.room = sa.room := by
          unfold Sto.sync
          simp only
          split
          · exact e2
          · split <;> exact e2
        rw [happ] at e3
        rw [hsy] at e4
        simp only at e3 e4
        rw [← e3, ← e4]
        exact h9
      have hfit := Sto.append_fit hroom (by rw [happ])
      have hsz := hr1.2.2 (by first | exact trivial | rfl)
      refine (commit3_any hls bA (bytes l.waiting).length bc (by omega) y v h.y h.v).mono ?_
      rintro e W2 ⟨he, m2, hls2, haf2⟩
      refine ⟨0, he, fun _ => h.step hls haf hap hls2 haf2 (fun h => by omega) (CmSt.at4 ?_), fun hz => absurd rfl hz⟩
      rw [commit_ok hbr hwt hrm happ hsy, ← hr1.1.trans hbr]
    · omega
end
end Wal
end Go.Proofs.YtaiokogbhfliiaaGreatDoor

namespace Go.Proofs.YtaiokogbhfliiaaGreatDoor
open Go.RowKit Go.Maps

namespace Wal
theorem one_len (x : Bt) (h1 : x.1 ≤ 1099511627776) (h2 : x.2.length ≤ 60000) : (Cod.number x.1 ++ x.2).length ≤ 60010 ∧ (one x).length ≤ 61000 := by
  have n1 := Cod.number_len (n := x.1) (by omega)
  have n2 := Cod.number_len (n := (Cod.number x.1 ++ x.2).length) (by rw [List.length_append]; omega)
  refine ⟨by rw [List.length_append]; omega, ?_⟩
  unfold one Frm.put Frm.head Cod.text
  have hb : ∀ n, (Frm.be4 n).length = 4 := fun n => by unfold Frm.be4; simp
  rw [List.length_append, List.length_cons, List.length_append, hb]
  rw [List.length_append] at n2 ⊢
  omega
theorem bytes_snoc (l : List Bt) (x : Bt) : bytes (l ++ [x]) = bytes l ++ one x := by unfold bytes; simp
theorem bytes_len : ∀ (l : List Bt), (∀ b ∈ l, b.1 ≤ 1099511627776 ∧ b.2.length ≤ 60000) → (bytes l).length ≤ l.length * 61000
  | [], _ => by simp [bytes]
  | x :: l, h => by
    have h1 := (one_len x (h x (by simp)).1 (h x (by simp)).2).2
    have h2 := bytes_len l (fun b hb => h b (by simp [hb]))
    have e : bytes (x :: l) = one x ++ bytes l := by simp [bytes]
    rw [e, List.length_append, List.length_cons, Nat.succ_mul]
    omega
section
variable {w w' : World} {base g : Nat} {s : Sto.St} {m m' : Sto.Mem} {l : Lg} {x : Lm}
/-- What lies in a round of Commit's loop. -/
structure CmI (w : World) (b : Nat) (L : List UInt8) (wr : World) : Prop where
  y : wr.heap[w.heap.size]? = some (.cells #[.pointer (some ⟨b, 0, none⟩)] 31)
  v : ∃ BA bc, wr.heap[w.heap.size + 1]? = some (.cells #[.slice BA L.length bc] 23) ∧ Own wr w.heap.size 5 BA bc L
  below : Below w.heap.size w wr
theorem CmI.call {b : Nat} {L : List UInt8} {wr w1 : World} (h : CmI w b L wr) (hb : Below wr.heap.size wr w1) : CmI w b L w1 := by
  obtain ⟨BA, bc, h1, h2⟩ := h.v
  exact ⟨(hb.block _ (Array.getElem?_eq_some_iff.1 h.y).1).trans h.y, ⟨BA, bc, (hb.block _ (Array.getElem?_eq_some_iff.1 h1).1).trans h1, h2.below hb⟩, h.below.trans (hb.mono h.below.size)⟩
theorem CmI.next {b : Nat} {L L4 : List UInt8} {wr w8 : World} {BA A4 : Option Addr} {bc c4 : Nat} (h : CmI w b L wr) (hv : wr.heap[w.heap.size + 1]? = some (.cells #[.slice BA L.length bc] 23)) (ho : Own wr w.heap.size 5 BA bc L) (hg : wr.grownBy w8 (blk BA)) (ho4 : Own w8 w.heap.size 5 A4 c4 L4) :
    w8.heap[w.heap.size + 1]? = some (.cells #[.slice BA L.length bc] 23) ∧ CmI w b L4 (w8.setCell ⟨w.heap.size + 1, 0, none⟩ (.slice A4 L4.length c4)) := by
  have hr : ∀ k, blk BA = some k → Sto.Tag wr k 5 := fun k e => Sto.ownTag ho e
  have hv8 : w8.heap[w.heap.size + 1]? = some (.cells #[.slice BA L.length bc] 23) := (hg.block _ (Array.getElem?_eq_some_iff.1 hv).1 (fun e => (hr _ e.symm).ne ⟨_, _, hv⟩ (by decide) rfl)).trans hv
  have hy8 := (hg.block _ (Array.getElem?_eq_some_iff.1 h.y).1 (fun e => (hr _ e.symm).ne ⟨_, _, h.y⟩ (by decide) rfl)).trans h.y
  refine ⟨hv8, ⟨by rw [box_set_other (by omega)]; exact hy8, ⟨A4, c4, box_set hv8 _, own_keepS ho4 (fun k e => box_set_other ((Sto.ownTag ho4 e).ne ⟨_, _, hv8⟩ (by decide)) _)⟩, ?_⟩⟩
  exact (h.below.grown hg h.below.size (fun k e => (ho.blk_ge k e).1)).setCell (by simp) _
set_option maxHeartbeats 2000000 in
set_option maxRecDepth 100000 in
theorem commit_any (h : LS w base g s m l x) (ht : TabU base w) (hl : s.kept.length ≤ 900000) (hf : s.files.length ≤ 900000) (hw : l.waiting.length ≤ 100000) :
    Calls Tryz.prog 30 #[.pointer (some ⟨x.lb, 0, none⟩)] w fun e w' => ∃ x', LopP w base g m x (commit s l).1 (commit s l).2.1 (commit s l).2.2 x' e w' := by
  have H := Lib.hid h
  obtain ⟨_, _, _, _, _, c5, _⟩ := h.cells
  have hlt := h.lb_tag.lt
  obtain ⟨b, hb⟩ : ∃ b, b = x.lb := ⟨_, rfl⟩
  rw [← hb] at c5 hlt ⊢
  have HB := Lib.hid hb
  obtain ⟨n, hn⟩ : ∃ n, n = l.waiting.length := ⟨_, rfl⟩
  rw [← hn] at c5 hw
  obtain ⟨WA, hWA⟩ : ∃ WA, WA = x.WA := ⟨_, rfl⟩
  rw [← hWA] at c5
  have HWA := Lib.hid hWA
  have HN : Hid (x.W.length = n) := Lib.hid (by rw [hn, ← h.wt.bt, List.length_map])
  have HTK : Hid (∀ k (hk : k < x.W.length), l.waiting.take (k + 1) = l.waiting.take k ++ [x.W[k].bt]) := Lib.hid (fun k hk => by
    have hk' : k < l.waiting.length := by rw [← h.wt.bt, List.length_map]; exact hk
    rw [List.take_succ_eq_append_getElem hk']
    congr 2
    simp [← h.wt.bt])
  have HWN := Lib.hid hn
  clear h hb hn hWA
  go_enter Tryz.func30, Tryz.ntmps30
  go_wp2_with fail
  have HI0 : Hid (CmI w b [] ((w.alloc (.cells #[.pointer (some ⟨b, 0, none⟩)] 31)).alloc (.cells #[.slice none 0 0] 23))) := Lib.hid (by
    refine ⟨?_, ⟨none, 0, ?_, Own.nil _ _ _⟩, ((Below.refl _ _).alloc (Nat.le_refl _) _).alloc (by simp) _⟩
    · rw [Below.heap_alloc _ _ _ (by simp)]; exact heap_alloc_new w _
    · have := heap_alloc_new (w.alloc (.cells #[.pointer (some ⟨b, 0, none⟩)] 31)) (.cells #[.slice none 0 0] 23)
      rw [World.size_alloc] at this
      exact this)
  go_loopw [13] (fun i wr => ∃ k : Nat, k ≤ n ∧ i = .int .i64 (k : Int) ∧ Hid (CmI w b (bytes (l.waiting.take k)) wr)) (fun i _ => n - (intOf i).toNat)
  case atStart => exact ⟨0, by omega, rfl, HI0⟩
  case round =>
    obtain ⟨k, hk, rfl, HI⟩ := hrel
    by_cases hkn : k < n
    · have hkW : k < x.W.length := by rw [HN.out]; exact hkn
      obtain ⟨BA, bc, hbx, hbo⟩ := HI.out.v
      have hbl := HI.out.below
      have hLS := H.out.below hbl
      obtain ⟨qb, qo, hqA, hqb, hqc⟩ := RdS.row (f := Bv.cells) (n := 2) (fun _ => rfl) (by omega) hLS.wt.row.rd (by omega)
      have q0 := hqc k hkW 0 _ rfl
      have q1 := hqc k hkW 1 _ rfl
      have hv0 := hLS.wt.bys.ok x.W[k] (List.getElem_mem hkW)
      have hok := hLS.ok.one x.W[k].bt (by rw [← hLS.wt.bt]; exact List.mem_map_of_mem (List.getElem_mem hkW))
      have hT := HTK.out k hkW
      obtain ⟨u, hu⟩ : ∃ u, u = x.W[k] := ⟨_, rfl⟩
      rw [← hu] at q0 q1 hv0 hok hT
      obtain ⟨un, uA, uc, ub⟩ := u
      simp only [Bv.bt] at hok
      simp only at q0 q1 hv0
      rw [Nat.add_zero] at q0
      have HV0 := Lib.hid hv0.1
      have HLEN : Hid ((bytes (l.waiting.take k)).length ≤ 6100000000) := Lib.hid (by
        have h1 := bytes_len (l.waiting.take k) (fun b hb => hLS.ok.one b (List.mem_of_mem_take hb))
        have h2 : (l.waiting.take k).length ≤ 100000 := by rw [List.length_take]; omega
        have h3 := Nat.mul_le_mul_right 61000 h2
        omega)
      have HB2 : Hid (bytes (l.waiting.take (k + 1)) = bytes (l.waiting.take k) ++ Frm.put 66 (Cod.number un ++ ub)) := Lib.hid (by rw [hT, bytes_snoc]; rfl)
      have hol := one_len (un, ub) hok.1 hok.2
      obtain ⟨L, hL⟩ : ∃ L, L = bytes (l.waiting.take k) := ⟨_, rfl⟩
      rw [← hL] at hbx hbo HLEN HB2 HI
      have HBX := Lib.hid hbx
      have HBO := Lib.hid hbo
      have hsz := HI.out.below.size
      have hyz := (Array.getElem?_eq_some_iff.1 hbx).1
      have hw64 : IntKind.u64.wrap (un : Int) = (un : Int) := by rw [IntKind.wrap_u64]; omega
      have hok1 := hok.1
      have HOL := Lib.hid hol
      obtain rfl : WA = some ⟨qb, qo, none⟩ := HWA.out.trans hqA
      clear hqA hqc hu hT hv0 hok hLS hbl hL hbx hbo hol
      go_wp2_with fail
      obtain ⟨V, hV⟩ : ∃ V, (wr.alloc (.cells #[.int .i64 (un : Int), .slice uA ub.length uc] 92)).drew = V := ⟨_, rfl⟩
      have hbV : Below wr.heap.size wr V := by rw [← hV]; exact ((Below.refl _ _).alloc (Nat.le_refl _) _).drew
      have HCV := Lib.hid (HI.out.call hbV)
      have hxV : V.heap[wr.heap.size]? = some (.cells #[.int .i64 (un : Int), .slice uA ub.length uc] 92) := by rw [← hV]; exact heap_alloc_new wr _
      have v0 := cell_of_row V wr.heap.size 0 _ _ (0, 0) hxV
      have v1 := cell_of_row V wr.heap.size 1 _ _ (0, 0) hxV
      simp only [List.getElem?_toArray, List.getElem?_cons_zero, List.getElem?_cons_succ] at v0 v1
      have HXV := Lib.hid hxV
      have HUB : Hid (RdB V V.heap.size uA ub) := Lib.hid ((HV0.out.below hbV (Nat.le_refl _)).more hbV.size)
      have HBVZ := Lib.hid hbV.size
      refine wp_region_E 12 (fun w' => w'.cell? ⟨wr.heap.size, 0, none⟩ = some (.int .i64 (un : Int)) ∧ w'.cell? ⟨wr.heap.size, 1, none⟩ = some (.slice uA ub.length uc)) (by kernel_rfl) ?_
      rw [hV]
      clear hV hbV hxV
      have HS0 : V.cell? ⟨wr.heap.size, 0, none⟩ = some (.int .i64 (un : Int)) ∧ V.cell? ⟨wr.heap.size, 1, none⟩ = some (.slice uA ub.length uc) := ⟨v0, v1⟩
      refine wpAnyE_take (i := 0) (v := ?_) rfl (by kernel_rfl) (by kernel_rfl) (by kernel_rfl) (by kernel_rfl) (fun _ _ _ h => h) (Or.inl ⟨by rfl, ?_⟩) HS0 ?_
      rotate_left
      · (intro wy hSw; obtain ⟨s1, s2x⟩ := hSw; go_simp; try with_reducible rfl)
      try simp only [Act.put, List.setIfInBounds_toArray]
      refine wpAnyE_take (i := 1) (v := ?_) rfl (by kernel_rfl) (by kernel_rfl) (by kernel_rfl) (by kernel_rfl) (fun _ _ _ h => h) (Or.inl ⟨by rfl, ?_⟩) HS0 ?_
      rotate_left
      · (intro wy hSw; obtain ⟨s1, s2x⟩ := hSw; go_simp; try with_reducible rfl)
      try simp only [Act.put]
      refine wpAnyE_take (i := 2) (v := ?_) rfl (by kernel_rfl) (by kernel_rfl) (by kernel_rfl) (by kernel_rfl) (fun _ _ _ h => h) (Or.inl ⟨by rfl, ?_⟩) HS0 ?_
      rotate_left
      · (intro wy hSw; obtain ⟨s1, s2x⟩ := hSw; go_simp; try with_reducible rfl)
      try simp only [Act.put]
      refine wpAnyE_take (i := 4) (v := ?_) rfl (by kernel_rfl) (by kernel_rfl) (by kernel_rfl) (by kernel_rfl) (fun _ _ _ h => h) (Or.inl ⟨by rfl, ?_⟩) HS0 ?_
      rotate_left
      · (intro wy hSw; obtain ⟨s1, s2x⟩ := hSw; go_simp; try with_reducible rfl)
      try simp only [Act.put]
      refine wpAnyE_take (i := 5) (v := ?_) rfl (by kernel_rfl) (by kernel_rfl) (by kernel_rfl) (by kernel_rfl) (fun _ _ _ h => h) (Or.inl ⟨by rfl, ?_⟩) HS0 ?_
      rotate_left
      · (intro wy hSw; obtain ⟨s1, s2x⟩ := hSw; go_simp; try with_reducible rfl)
      try simp only [Act.put]
      refine wpAnyE_one (i := 3) (by kernel_rfl) rfl (fun K hK => ?_)
      go_simp
      refine (number_any un (by omega) V).mono ?_
      rintro e w1 ⟨A1, c1, rfl, ho1, hb1⟩
      have HS1 : w1.cell? ⟨wr.heap.size, 0, none⟩ = some (.int .i64 (un : Int)) ∧ w1.cell? ⟨wr.heap.size, 1, none⟩ = some (.slice uA ub.length uc) :=
        ⟨(hb1.cell (p := ⟨wr.heap.size, 0, none⟩) (Array.getElem?_eq_some_iff.1 HXV.out).1).trans v0, (hb1.cell (p := ⟨wr.heap.size, 1, none⟩) (Array.getElem?_eq_some_iff.1 HXV.out).1).trans v1⟩
      have HX1 : Hid (w1.heap[wr.heap.size]? = some (.cells #[.int .i64 (un : Int), .slice uA ub.length uc] 92)) := Lib.hid ((hb1.block _ (Array.getElem?_eq_some_iff.1 HXV.out).1).trans HXV.out)
      have HO1 := Lib.hid ho1
      have HB1 := Lib.hid hb1
      refine hK _ _ HS1 ?_
      clear hK K HS0 v0 v1 ho1 hb1
      refine wpAnyE_one (i := 6) (by kernel_rfl) rfl (fun K hK => ?_)
      refine step_append_be w1 (by rfl) (some 24) (by rfl) (.tmp 21) (.tmp 23) bt (by rfl) V.heap.size A1 c1 (Cod.number un) (by rfl) HO1.out w1.heap.size uA ub.length uc ub (by rfl) rfl ((HUB.out.below HB1.out (Nat.le_refl _)).more HB1.out.size) (by have h9 := HOL.out.1; simp only [List.length_append] at h9; omega) HB1.out.size ?_
      intro A2 c2 L2 w2 hL2 ho2 hg2 hat2
      have hne : some wr.heap.size ≠ blk A1 := fun e => by have h1 := (HO1.out.blk_ge _ e.symm).1; have h2 := (Array.getElem?_eq_some_iff.1 HXV.out).1; omega
      have hx2 : w2.heap[wr.heap.size]? = some (.cells #[.int .i64 (un : Int), .slice uA ub.length uc] 92) := (hg2.block _ (Array.getElem?_eq_some_iff.1 HX1.out).1 hne).trans HX1.out
      have v0 := cell_of_row w2 wr.heap.size 0 _ _ (0, 0) hx2
      have v1 := cell_of_row w2 wr.heap.size 1 _ _ (0, 0) hx2
      simp only [List.getElem?_toArray, List.getElem?_cons_zero, List.getElem?_cons_succ] at v0 v1
      have HB12 : Hid (Below V.heap.size V w2) := Lib.hid (HB1.out.grown hg2 HB1.out.size (fun g e => (HO1.out.blk_ge g e).1))
      have HO2 := Lib.hid ho2
      have HX2 := Lib.hid hx2
      have HL2 := Lib.hid hL2
      refine hK _ _ ⟨v0, v1⟩ ?_
      clear hK K hne hx2 hL2 ho2 hg2 hat2
      try simp only [Act.put]
      have hL2l : L2.length ≤ 60010 := by rw [HL2.out]; exact HOL.out.1
      have KP : Hid (Calls Tryz.prog 65 #[.int .u8 66, .slice A2 L2.length c2] w2 (GivesP w2 true (Frm.put 66 L2))) := Lib.hid (by
        have h1 := fput_any 66 A2 c2 L2 w2 HO2.out.rd (by omega)
        rw [decide_eq_true (by omega)] at h1
        exact h1)
      refine wpAnyE_one (i := 7) (by kernel_rfl) rfl (fun K hK => ?_)
      go_simp
      refine KP.out.mono ?_
      rintro e w3 ⟨hb3, h3⟩
      rcases h3 with ⟨h3, _⟩ | ⟨_, A3, c3, rfl, ho3⟩
      · cases h3
      have HS3 : w3.cell? ⟨wr.heap.size, 0, none⟩ = some (.int .i64 (un : Int)) ∧ w3.cell? ⟨wr.heap.size, 1, none⟩ = some (.slice uA ub.length uc) :=
        ⟨(hb3.cell (p := ⟨wr.heap.size, 0, none⟩) (Array.getElem?_eq_some_iff.1 HX2.out).1).trans v0, (hb3.cell (p := ⟨wr.heap.size, 1, none⟩) (Array.getElem?_eq_some_iff.1 HX2.out).1).trans v1⟩
      have HO3 := Lib.hid ho3
      have HB3 := Lib.hid (HB12.out.trans (hb3.mono HB12.out.size))
      obtain ⟨F, hF⟩ : ∃ F, F = Frm.put 66 L2 := ⟨_, rfl⟩
      rw [← hF] at HO3 ⊢
      have HF : Hid (F = Frm.put 66 (Cod.number un ++ ub)) := Lib.hid (by rw [hF, HL2.out])
      refine hK _ _ HS3 ?_
      clear hK K v0 v1 ho3 hb3 hF
      refine wpAnyE_one (i := 8) (by kernel_rfl) rfl (fun K hK => ?_)
      go_simp
      refine hK _ _ HS3 ?_
      clear hK K
      refine wpAnyE_take (i := 9) (v := ?_) rfl (by kernel_rfl) (by kernel_rfl) (by kernel_rfl) (by kernel_rfl) (fun _ _ _ h => h) (Or.inl ⟨by rfl, ?_⟩) HS3 ?_
      rotate_left
      · (intro wy hSw; obtain ⟨s1, s2x⟩ := hSw; go_simp; try with_reducible rfl)
      try simp only [Act.put]
      refine wpAnyE_take (i := 10) (v := ?_) rfl (by kernel_rfl) (by kernel_rfl) (by kernel_rfl) (by kernel_rfl) (fun _ _ _ h => h) (Or.inl ⟨by rfl, ?_⟩) HS3 ?_
      rotate_left
      · (intro wy hSw; obtain ⟨s1, s2x⟩ := hSw; go_simp; try with_reducible rfl)
      try simp only [Act.put]
      refine wpAnyE_one (i := 11) (by kernel_rfl) rfl (fun K hK => ?_)
      go_simp
      refine hK _ _ HS3 ?_
      clear hK K
      refine wpAnyE_last (by kernel_rfl) (by kernel_rfl) rfl (fun K hK => ?_)
      go_simp
      refine hK _ _ ?_
      clear hK K HS3
      have HC3 := Lib.hid (HCV.out.call HB3.out)
      obtain ⟨BA3, bc3, hbx3, hbo3⟩ := HC3.out.v
      have t3 := box_cell hbx3
      have u3 := box_frozen hbx3
      have HBX3 := Lib.hid hbx3
      have HBO3 := Lib.hid hbo3
      have hFl : F.length ≤ 61000 := by rw [HF.out]; exact HOL.out.2
      have hsz3 := HC3.out.below.size
      clear hbx3 hbo3
      go_wp2_with (at_builtin; refine wpList_append_b _ rfl _ _ bt rfl w.heap.size BA3 bc3 L rfl HBO3.out w3.heap.size A3 F.length c3 F rfl rfl HO3.out.rd (by have := HLEN.out; omega) hsz3 ?_)
      intro A4 c4 L4 w8 hL4 ho4 hg4 hat4
      have HNX := Lib.hid (CmI.next HC3.out HBX3.out HBO3.out hg4 ho4)
      have HL4 := Lib.hid hL4
      have t4 := box_cell HNX.out.1
      have u4 := box_frozen HNX.out.1
      clear hL4 ho4 hg4 hat4
      go_wp2_with fail
      exact ⟨⟨k + 1, by omega, by simp, Lib.hid (by rw [HB2.out, ← HF.out, ← HL4.out]; exact HNX.out.2)⟩, by simp only [intOf]; omega⟩
    · have hke : k = n := by omega
      have HIN : Hid (CmI w b (bytes l.waiting) wr) := Lib.hid (by
        have h1 := HI.out
        rw [hke, HWN.out, List.take_length] at h1
        exact h1)
      clear HI
      obtain ⟨BA, bc, hbx, hbo⟩ := HIN.out.v
      have t0 := box_cell hbx
      have u0 := box_frozen hbx
      have y0 := box_cell HIN.out.y
      obtain ⟨L, hL⟩ : ∃ L, L = bytes l.waiting := ⟨_, rfl⟩
      rw [← hL] at t0 hbx hbo
      have HL := Lib.hid hL
      have HBX := Lib.hid hbx
      have HBO := Lib.hid hbo
      clear hL hbx hbo hlt
      obtain ⟨nL, hnL⟩ : ∃ nL, nL = L.length := ⟨_, rfl⟩
      rw [← hnL] at t0
      have HNL := Lib.hid hnL
      clear hnL
      have HWR := Lib.hid (H.out.below HIN.out.below)
      by_cases hz : nL = 0
      · have e1 : ((nL : Int) == 0) = true := by rw [hz]; rfl
        have hW0 : l.waiting = [] := by
          have h1 : L = [] := List.eq_nil_of_length_eq_zero (by rw [← HNL.out, hz])
          rw [HL.out] at h1
          rcases hw0 : l.waiting with _ | ⟨a, r⟩
          · rfl
          · rw [hw0] at h1
            have h2 : bytes (a :: r) = one a ++ bytes r := by simp [bytes]
            rw [h2] at h1
            have h3 := congrArg List.length h1
            rw [List.length_append, List.length_nil] at h3
            have h4 : 0 < (one a).length := by unfold one Frm.put Frm.head; simp
            omega
        have HW0 := Lib.hid hW0
        have KD := Lib.hid (does_any HWR.out none 0 0 (fun c s1 l1 x1 => c = 0 ∧ s1 = s ∧ l1 = l ∧ x1 = x) (fun _ => (all_any none 0 [] wr (fun _ W => W = wr) (fun _ _ => False) (fun _ h => by cases h) (by simp) rfl (fun i W _ h => RdS.nil) (fun i hi => by simp at hi)).mono (fun e W' ⟨c, he, h0, h1⟩ => by
          have hc : c = 0 := by
            rcases Decidable.em (c = 0) with h | h
            · exact h
            · exact (h1 h).elim
          obtain rfl := h0 hc
          exact ⟨c, s, m, l, x, he, HWR.out, LAft.refl _ _ _ _, hc, rfl, rfl, rfl⟩)))
        rw [← HB.out] at KD
        clear hz hW0
        go_wp2_with fail
        refine KD.out.mono ?_
        intro e w9 hD
        have HD : Hid (∃ x', LopP w base g m x (commit s l).1 (commit s l).2.1 (commit s l).2.2 x' e w9) := Lib.hid (by
          have hab : LAft w wr g m x m x := LAft.of_below HIN.out.below
          rcases hD with ⟨hb1, he, m', h1, h2⟩ | ⟨hb1, c, s1, l1, x1, ⟨rfl, rfl, rfl, rfl⟩, he, m', h1, h2⟩
          · rw [commit_brk hb1]; exact ⟨x, he, m', h1, hab.trans h2⟩
          · rw [commit_nil hb1 HW0.out]
            have e3 : ({ l1 with broken := (0 : Int) != 0 } : Lg) = l1 := by
              have : ((0 : Int) != 0) = l1.broken := by rw [hb1]; rfl
              rw [this]
            rw [e3] at h1
            exact ⟨x1, he, m', h1, hab.trans h2⟩)
        obtain ⟨c, hc⟩ : ∃ c : Int, e = .returned (.int .i64 c) := by
          rcases hD with ⟨_, he, _⟩ | ⟨_, c, _, _, _, _, he, _⟩
          · exact ⟨_, he⟩
          · exact ⟨_, he⟩
        subst hc
        clear hD
        go_wp2_with fail
        go_ret
        exact HD.out
      · have e1 : ((nL : Int) == 0) = false := by simp; omega
        have hW0 : l.waiting ≠ [] := fun h => hz (by rw [HNL.out, HL.out, h]; rfl)
        have HW0 := Lib.hid hW0
        obtain ⟨W, hW⟩ : ∃ W, W = wr.alloc (.cells #[.func (.func 68) #[.pointer (some ⟨b, 0, none⟩)] #[], .func (.func 69) #[] #[.pointer (some ⟨w.heap.size, 0, none⟩), .pointer (some ⟨w.heap.size + 1, 0, none⟩)],
          .func (.func 71) #[] #[.pointer (some ⟨w.heap.size, 0, none⟩)], .func (.func 72) #[] #[.pointer (some ⟨w.heap.size, 0, none⟩), .pointer (some ⟨w.heap.size + 1, 0, none⟩)]] 51) := ⟨_, rfl⟩
        have hbW : Below wr.heap.size wr W := by rw [hW]; exact (Below.refl _ _).alloc (Nat.le_refl _) _
        have hbw : Below w.heap.size w W := HIN.out.below.trans (hbW.mono HIN.out.below.size)
        have HI1 : Hid (CmW w base g s m l x w.heap.size (w.heap.size + 1) wr.heap.size BA bc (bytes l.waiting) 0 W) := Lib.hid (by
          have h1 := HIN.out.call hbW
          refine ⟨?_, ?_, ?_, ?_, fun k e => Sto.ownTag (HBO.out.below hbW) e, TabU.below ht H.out hbw, m, s, l, x, H.out.below hbw, LAft.of_below hbw, Sto.Apart.new H.out.st.r (HBO.out.below hbW), fun _ => rfl, CmSt.at0 _⟩
          · rw [← HB.out, hW]; exact heap_alloc_new wr _
          · rw [← HB.out]; exact h1.y
          · rw [← HL.out]; exact (hbW.block _ (Array.getElem?_eq_some_iff.1 HBX.out).1).trans HBX.out
          · rw [← HL.out]; exact (HBO.out.below hbW).rd)
        have HLW := Lib.hid (H.out.below hbw)
        have HAW : Hid (LAft w W g m x m x) := Lib.hid (LAft.of_below hbw)
        have KD := Lib.hid (does_any HLW.out (some ⟨wr.heap.size, 0, none⟩) 4 4 (fun c s1 l1 x1 => commit s l = (c, s1, { l1 with broken := c != 0 })) (fun hbr => (commit_steps (w := W) (base := base) (g := g) (s := s) (m := m) (l := l) (x := x) H.out.ok.limit hbr HW0.out hl hf (y := w.heap.size) (v := w.heap.size + 1) (r := wr.heap.size) (bA := BA) (bc := bc) (W := W)
          (by
            obtain ⟨a1, a2, a3, a4, a5, a6, a7⟩ := HI1.out
            exact ⟨a1, a2, a3, a4, a5, a6, m, s, l, x, HLW.out, LAft.refl _ _ _ _, by
              obtain ⟨m1, s1, l1, x1, _, _, _, _, _⟩ := a7
              exact Sto.Apart.new H.out.st.r (HBO.out.below hbW), fun _ => rfl, CmSt.at0 _⟩)).mono (fun e W' ⟨c, he, h0, h1⟩ => by
          rcases Decidable.em (c = 0) with hc | hc
          · obtain ⟨m1, s1, l1, x1, k1, k2, _, _, _, _, _, _, k9⟩ := (h0 hc).st
            exact ⟨c, s1, m1, l1, x1, he, k1, k2, by rw [hc]; exact k9 rfl⟩
          · obtain ⟨m1, s1, l1, x1, k1, k2, k3⟩ := h1 hc
            have e5 : (c != 0) = true := by simpa using hc
            exact ⟨c, s1, m1, l1, x1, he, k1, k2, by rw [e5]; exact k3⟩)))
        rw [← HB.out, hW] at KD
        clear hz hW0 hbW hbw HI1
        rw [hW] at HAW
        clear HLW
        clear hW
        clear W
        go_wp2_with fail
        refine KD.out.mono ?_
        intro e w9 hD
        have HD : Hid (∃ x', LopP w base g m x (commit s l).1 (commit s l).2.1 (commit s l).2.2 x' e w9) := Lib.hid (by
          rcases hD with ⟨hb1, he, m', h1, h2⟩ | ⟨hb1, c, s1, l1, x1, hR, he, m', h1, h2⟩
          · rw [commit_brk hb1]; exact ⟨x, he, m', h1, HAW.out.trans h2⟩
          · rw [hR]
            exact ⟨x1, he, m', h1, HAW.out.trans h2⟩)
        obtain ⟨c, hc⟩ : ∃ c : Int, e = .returned (.int .i64 c) := by
          rcases hD with ⟨_, he, _⟩ | ⟨_, c, _, _, _, _, he, _⟩
          · exact ⟨_, he⟩
          · exact ⟨_, he⟩
        subst hc
        clear hD
        go_wp2_with fail
        go_ret
        exact HD.out
end
end Wal
end Go.Proofs.YtaiokogbhfliiaaGreatDoor

namespace Go.Proofs.YtaiokogbhfliiaaGreatDoor
open Go.WideShapes

namespace Wal
section
variable {s : Sto.St} {k N : Nat} {fs : List Fi} {f : Fi} {l : Lg} {wt : List (List UInt8)}
/-- Open, where nothing fails. -/
theorem opens_ok (h : Cl s k fs) (hp : s.plan = []) (limit : Int) (h1 : 1 ≤ limit) (h2 : limit ≤ 65536) (hN : ∀ f ∈ fs, f.n ≤ N) (hN2 : N < 999999) :
    ∃ s' l, opens s limit = (0, s', some (l, numb k (flat fs))) ∧ s'.plan = [] ∧ s'.room = s.room ∧ Sto.size s' = Sto.size s ∧ l.next = (if flat fs = [] then 1 else k + (flat fs).length) ∧
      ∃ i, Cl s' k (fs ++ [⟨l.last, i, []⟩]) ∧ (Sto.file s' i).b = [] ∧ l.last ≤ N + 1 ∧ l.broken = false ∧ l.waiting = [] := by
  obtain ⟨L, hL⟩ : ∃ L : Nat, L = (files s).getLastD 0 := ⟨_, rfl⟩
  have hLf : (∀ f ∈ fs, f.n ≤ L) ∧ L ≤ N := by
    rw [h.dir.files] at hL
    rcases nil_or_snoc fs with rfl | ⟨r, a, rfl⟩
    · rw [hL]; exact ⟨(fun f hf => by cases hf), Nat.zero_le _⟩
    · have e : L = a.n := by rw [hL]; simp
      rw [e]
      refine ⟨fun f hf => ?_, hN a (by simp)⟩
      rcases List.mem_append.1 hf with hf | hf
      · exact Nat.le_of_lt ((List.pairwise_append.1 h.dir.inc).2.2 f hf a (by simp))
      · rw [List.mem_singleton] at hf; rw [hf]; exact Nat.le_refl _
  have hLl : (⟨limit.toNat, L, 0, 1, [], false⟩ : Lg).last = L := rfl
  obtain ⟨m1, m2, m3, m4⟩ := mk_plain (l := ⟨limit.toNat, L, 0, 1, [], false⟩) h hLf.1 (by rw [hLl]; omega) hp
  rcases mk_ways (l := ⟨limit.toNat, L, 0, 1, [], false⟩) h hLf.1 (by rw [hLl]; omega) [] with ⟨x, _⟩ | ⟨_, e2, i, hc, hb⟩
  · exact absurd m1 x
  have ht := there_of h.dir h.off h.lies
  unfold opens
  rw [if_neg (by omega), if_neg (by rw [h.off]; simp)]
  simp only
  rw [← hL, if_neg (fun x => x m1), ht, e2]
  refine ⟨_, _, rfl, m2, m3, m4, ?_, i, hc, hb, ?_, rfl, rfl⟩
  · simp only
    rcases nil_or_snoc (flat fs) with e | ⟨r, a, e⟩
    · rw [e]; rfl
    · rw [e, numb_last, if_neg (by simp)]
      simp only [List.length_append, List.length_cons, List.length_nil]; omega
  · show L + 1 ≤ N + 1
    omega
end
end Wal
end Go.Proofs.YtaiokogbhfliiaaGreatDoor
