/- Parts of the proof, one behind the other: Contracts of the log: make.; Contracts of the log: make.; Contracts of the log: room, does, Skip, Next, Waiting.; Contracts of the log: the steps of Commit.; Contracts of the log: the steps of Commit, one behind the other.; Contracts of the log: Commit.; Contracts of the log: Skip, Next, Waiting, Add.; Rows of bytes in memory, beside a store and a log.; Contracts of the log: Open. -/
import Derived.Test.YtekbdedpombgcaaGreatDoorMrg35
import Derived.Test.YtekbdedpombgcaaGreatDoorMrg43
import Derived.Test.YtekbdedpombgcaaGreatDoorMrg44
import Derived.Test.YtekbdedpombgcaaGreatDoorMrg07
import Derived.Test.YtekbdedpombgcaaGreatDoorMrg28
import Derived.Test.YtekbdedpombgcaaGreatDoorMrg05
import Derived.Test.YtekbdedpombgcaaGreatDoorMrg26
import Derived.Deep.DeepCutAuto
namespace Go.Proofs.YtekbdedpombgcaaGreatDoor
open Go.RowKit Go.Maps

namespace Wal
section
variable {w w' : World} {base g : Nat} {s : Sto.St} {m : Sto.Mem} {l : Lg} {x : Lm}
theorem TabU.laft {m' : Sto.Mem} {x' : Lm} (h : TabU base w) (hs : LS w base g s m l x) (ha : LAft w w' g m x m' x') : TabU base w' := TabU.keep h (ha.below hs)
theorem TabU.below (h : TabU base w) (hs : LS w base g s m l x) (hb : Below w.heap.size w w') : TabU base w' := TabU.keep h (hb.mono (Nat.le_trans hs.lbb (Nat.le_of_lt hs.lb_tag.lt)))
theorem name_len (n : Nat) : (name n).length = 10 := by unfold name; simp [Dig.digW_length]
set_option maxHeartbeats 1000000 in
set_option maxRecDepth 100000 in
theorem make1_any (h : LS w base g s m l x) (ht : TabU base w) (hlast : l.last < 999999) (hl : s.kept.length ≤ 1000000) (hf : s.files.length ≤ 1000000) (y : Nat) (hy : w.heap[y]? = some (.cells #[.pointer (some ⟨x.lb, 0, none⟩)] 50)) :
    Calls Tryz.prog 103 #[.pointer (some ⟨y, 0, none⟩)] w (Sto.OpP w base g m (Sto.create s (name (l.last + 1)))) := by
  have H := Lib.hid h
  obtain ⟨N, hN⟩ : ∃ N, N = name (l.last + 1) := ⟨_, rfl⟩
  have HNl : N.length ≤ maxLen := by rw [hN, name_len]; unfold maxLen; omega
  obtain ⟨z, hz⟩ : ∃ z, z = l.last + 1 := ⟨_, rfl⟩
  have KN := Lib.hid (fun p : BelowW w => p.calls (name_any z (by omega) p.X (ht.tab.below p.hb) N (by rw [hN, hz])))
  rw [← hN]
  have q0 : w.cell? ⟨y, 0, none⟩ = some (.pointer (some ⟨x.lb, 0, none⟩)) := by rw [cell_of_row w y 0 _ _ (0, 0) hy]; rfl
  obtain ⟨c0, _, c2, _, _, _, _⟩ := h.cells
  have KC := Lib.hid (fun w1 (hb : Below w.heap.size w w1) => Sto.create_any N HNl w1 base g s m (h.st.below hb) hl hf)
  have e1 : IntKind.i64.wrap ((l.last : Int) + 1) = (z : Int) := by rw [IntKind.wrap_i64]; omega
  have d0 : ∀ p : BelowW w, p.X.cell? ⟨y, 0, none⟩ = some (.pointer (some ⟨x.lb, 0, none⟩)) := fun p => (p.hb.cell (p := ⟨y, 0, none⟩) (Array.getElem?_eq_some_iff.1 hy).1).trans q0
  have d1 : ∀ p : BelowW w, p.X.cell? ⟨x.lb, 0, none⟩ = some (.pointer (some ⟨g, 0, none⟩)) := fun p => (p.hb.cell (p := ⟨x.lb, 0, none⟩) h.lb_tag.lt).trans c0
  have d2 : ∀ p : BelowW w, p.X.cell? ⟨x.lb, 2, none⟩ = some (.int .i64 (l.last : Int)) := fun p => (p.hb.cell (p := ⟨x.lb, 2, none⟩) h.lb_tag.lt).trans c2
  clear h ht hy hN HNl hz q0 c0 c2
  go_enter Tryz.func103, Tryz.ntmps103
  go_wp2_with fail
  refine wp_region_below_tail 10 (by kernel_rfl) (by kernel_rfl) ?_
  repeat (refine wpQuiet_step (fun K hK => ?_); go_simp; first | (refine hK _ ?_; clear hK K) | (apply Exists.intro; refine ⟨fun _ => ?_, hK _ ?_⟩; (exact KN.out _); clear hK K))
  refine wpQuiet_nil ?_
  rintro _ ⟨p, rfl⟩
  obtain ⟨w1, hb1⟩ := p
  have KC1 := Lib.hid (KC.out w1 hb1)
  have HB1 := Lib.hid hb1
  simp only [List.drop_succ_cons, List.drop_zero]
  clear hb1 d0 d1 d2 KN KC
  go_wp2_with fail
  refine KC1.out.mono ?_
  rintro e w2 ⟨rfl, m2, hst, haf⟩
  have HF : Hid (Sto.OpP w base g m (Sto.create s N) (.returned (.int .i64 (Sto.create s N).1)) w2) := Lib.hid ⟨rfl, m2, hst, (Sto.Aft.of_below HB1.out).trans haf⟩
  obtain ⟨c, hc⟩ : ∃ c, c = (Sto.create s N).1 := ⟨_, rfl⟩
  rw [← hc]
  have HC := Lib.hid hc
  clear hst haf hc
  go_wp2_with fail
  go_ret
  rw [HC.out]
  exact HF.out
end
end Wal
end Go.Proofs.YtekbdedpombgcaaGreatDoor

namespace Go.Proofs.YtekbdedpombgcaaGreatDoor
open Go.RowKit Go.Maps

namespace Wal
section
variable {w w' : World} {base g : Nat} {s : Sto.St} {m m' : Sto.Mem} {l : Lg} {x : Lm}
/-- A type that no block of a store has. -/
structure Alien (T : TypeId) : Prop where
  h1 : T ≠ 44
  h2 : T ≠ 107
  h3 : T ≠ 262
  h4 : T ≠ 9
  h5 : T ≠ 103
  h6 : T ≠ 5
theorem aft_tag (h : Sto.StAt w base g s m) (ha : Sto.Aft w w' g m m') {k : Nat} {cs : Array Value} {T : TypeId} {fr : Nat × Nat} (ht : w.heap[k]? = some (.cells cs T fr)) (hT : Alien T) : w'.heap[k]? = some (.cells cs T fr) :=
  (ha.block k (Array.getElem?_eq_some_iff.1 ht).1 (fun e => h.not_foot ⟨_, _, ht⟩ hT.h1 hT.h2 hT.h3 hT.h4 hT.h5 (fun e2 => absurd e2 hT.h6) (.inl e))).trans ht
theorem mk_over (h : 999999 ≤ l.last) : mk s l = (2, s, l) := by unfold mk; rw [if_pos h]
theorem mk_bad1 (h : ¬ 999999 ≤ l.last) (h1 : (Sto.create s (name (l.last + 1))).1 ≠ 0) : mk s l = ((Sto.create s (name (l.last + 1))).1, (Sto.create s (name (l.last + 1))).2, l) := by unfold mk; rw [if_neg h]; simp only; rw [if_pos h1]
theorem mk_bad2 (h : ¬ 999999 ≤ l.last) {s1 : Sto.St} (h1 : Sto.create s (name (l.last + 1)) = (0, s1)) (h2 : (Sto.syncDir s1).1 ≠ 0) : mk s l = ((Sto.syncDir s1).1, (Sto.syncDir s1).2, l) := by unfold mk; rw [if_neg h, h1]; simp only; rw [if_neg (by simp), if_pos h2]
theorem mk_ok (h : ¬ 999999 ≤ l.last) {s1 : Sto.St} (h1 : Sto.create s (name (l.last + 1)) = (0, s1)) (h2 : (Sto.syncDir s1).1 = 0) : mk s l = (0, (Sto.syncDir s1).2, { l with last := l.last + 1, size := 0 }) := by unfold mk; rw [if_neg h, h1]; simp only; rw [if_neg (by simp), if_neg (by rw [h2]; simp)]
/-- The steps of make. -/
def mkFs (g y : Nat) : List Fc := [⟨103, [], [.pointer (some ⟨y, 0, none⟩)]⟩, ⟨78, [.pointer (some ⟨g, 0, none⟩)], []⟩]
structure MkI (w : World) (base g : Nat) (s : Sto.St) (m : Sto.Mem) (l : Lg) (x : Lm) (y r : Nat) (i : Nat) (W : World) : Prop where
  row : W.heap[r]? = some (.cells ((mkFs g y).flatMap F1).toArray 100)
  box : W.heap[y]? = some (.cells #[.pointer (some ⟨x.lb, 0, none⟩)] 50)
  tab : TabU base W
  st : ∃ m1 s1, LS W base g s1 m1 l x ∧ LAft w W g m x m1 x ∧ (i = 0 → s1 = s) ∧ (i = 1 → Sto.create s (name (l.last + 1)) = (0, s1)) ∧ (i = 2 → mk s l = (0, s1, { l with last := l.last + 1, size := 0 }))
def MkF (w : World) (base g : Nat) (s : Sto.St) (m : Sto.Mem) (l : Lg) (x : Lm) (c : Int) (W : World) : Prop := ∃ m1 s1, LS W base g s1 m1 l x ∧ LAft w W g m x m1 x ∧ mk s l = (c, s1, l)
set_option maxRecDepth 100000 in
theorem mk_steps (hlast : ¬ 999999 ≤ l.last) (hl : s.kept.length ≤ 1000000) (hf : s.files.length ≤ 1000000) {y r : Nat} {W : World} (hI : MkI w base g s m l x y r 0 W) :
    Calls Tryz.prog 102 #[.slice (some ⟨r, 0, none⟩) 2 2] W fun e W' => ∃ c : Int, e = .returned (.int .i64 c) ∧ (c = 0 → MkI w base g s m l x y r 2 W') ∧ (c ≠ 0 → MkF w base g s m l x c W') := by
  refine all_any (some ⟨r, 0, none⟩) 2 (mkFs g y) W (MkI w base g s m l x y r) (MkF w base g s m l x) (fun v hv => ?_) (by simp [mkFs]) hI (fun i W1 _ h => rd_fcs h.row) (fun i hi W1 h => ?_)
  · simp only [mkFs, List.mem_cons, List.not_mem_nil, or_false] at hv
    rcases hv with rfl | rfl <;> exact fun _ _ => rfl
  · obtain ⟨m1, s1, hls, haf, h0, h1, _⟩ := h.st
    have hi2 : i < 2 := hi
    rcases i with _ | _ | i
    · have := h0 rfl
      subst this
      refine (make1_any hls h.tab (by omega) hl hf y h.box).mono ?_
      rintro e W2 ⟨he, m2, hst2, haf2⟩
      have hls2 := hls.store hst2 haf2
      have haf3 := haf.trans (LAft.of_aft haf2)
      refine ⟨_, he, fun hz => ⟨aft_tag hls.st haf2 h.row ⟨by decide, by decide, by decide, by decide, by decide, by decide⟩, aft_tag hls.st haf2 h.box ⟨by decide, by decide, by decide, by decide, by decide, by decide⟩, TabU.laft h.tab hls (LAft.of_aft haf2), m2, _, hls2, haf3, (fun h => by cases h), fun _ => Prod.ext hz rfl, (fun h => by cases h)⟩, fun hz => ⟨m2, _, hls2, haf3, mk_bad1 hlast hz⟩⟩
    · have hc := h1 rfl
      refine (Sto.syncDir_any hls.st).mono ?_
      rintro e W2 ⟨he, m2, hst2, haf2⟩
      have hls2 := hls.store hst2 haf2
      have haf3 := haf.trans (LAft.of_aft haf2)
      refine ⟨_, he, fun hz => ⟨aft_tag hls.st haf2 h.row ⟨by decide, by decide, by decide, by decide, by decide, by decide⟩, aft_tag hls.st haf2 h.box ⟨by decide, by decide, by decide, by decide, by decide, by decide⟩, TabU.laft h.tab hls (LAft.of_aft haf2), m2, _, hls2, haf3, (fun h => by cases h), (fun h => by cases h), fun _ => mk_ok hlast hc hz⟩, fun hz => ⟨m2, _, hls2, haf3, mk_bad2 hlast hc hz⟩⟩
    · omega
/-- The log's last file is turned. -/
theorem LS.made (h : LS w base g s m l x) (hlast : l.last < 999999) : LS ((w.setCell ⟨x.lb, 2, none⟩ (.int .i64 ((l.last + 1 : Nat) : Int))).setCell ⟨x.lb, 3, none⟩ (.int .i64 0)) base g s m { l with last := l.last + 1, size := 0 } x ∧ LAft w ((w.setCell ⟨x.lb, 2, none⟩ (.int .i64 ((l.last + 1 : Nat) : Int))).setCell ⟨x.lb, 3, none⟩ (.int .i64 0)) g m x m x := by
  refine h.turn rfl rfl rfl (by simp) (fun k _ hk => ?_) ?_ rfl ⟨h.ok.limit, by simp only; omega, by simp, h.ok.next, h.ok.wait, h.ok.one⟩
  · rw [heap_setCell_other _ ⟨x.lb, 3, none⟩ k _ hk, heap_setCell_other _ ⟨x.lb, 2, none⟩ k _ hk]
  · have h1 := h.box
    unfold lgObj at h1
    exact (heap_setL (heap_setL h1 (.int .i64 ((l.last + 1 : Nat) : Int))).1 (.int .i64 0)).2.1
set_option maxHeartbeats 1000000 in
set_option maxRecDepth 100000 in
theorem make_any (h : LS w base g s m l x) (ht : TabU base w) (hl : s.kept.length ≤ 1000000) (hf : s.files.length ≤ 1000000) :
    Calls Tryz.prog 46 #[.pointer (some ⟨x.lb, 0, none⟩)] w (LopP w base g m x (mk s l).1 (mk s l).2.1 (mk s l).2.2 x) := by
  have H := Lib.hid h
  obtain ⟨c0, _, c2, _, _, _, _⟩ := h.cells
  obtain ⟨b, hb⟩ : ∃ b, b = x.lb := ⟨_, rfl⟩
  have hbz : b < w.heap.size := by rw [hb]; exact h.lb_tag.lt
  obtain ⟨T, hT⟩ : ∃ T, T = l.last := ⟨_, rfl⟩
  have HT := Lib.hid hT
  rw [← hb] at c0 c2 ⊢
  rw [← hT] at c2
  have HB := Lib.hid hb
  have KA := Lib.hid (fun (hlast : ¬ 999999 ≤ l.last) => mk_steps (w := w) (base := base) (g := g) (s := s) (m := m) (l := l) (x := x) hlast hl hf (y := w.heap.size) (r := w.heap.size + 1) (W := ((w.alloc (.cells #[.pointer (some ⟨b, 0, none⟩)] 50)).alloc (.cells #[.func (.func 103) #[] #[.pointer (some ⟨w.heap.size, 0, none⟩)], .func (.func 78) #[.pointer (some ⟨g, 0, none⟩)] #[]] 100)))
    (by
      have b1 : Below w.heap.size w (w.alloc (.cells #[.pointer (some ⟨b, 0, none⟩)] 50)) := (Below.refl _ _).alloc (Nat.le_refl _) _
      have b2 := b1.alloc b1.size (.cells #[.func (.func 103) #[] #[.pointer (some ⟨w.heap.size, 0, none⟩)], .func (.func 78) #[.pointer (some ⟨g, 0, none⟩)] #[]] 100)
      refine ⟨?_, ?_, TabU.below ht h b2, m, s, h.below b2, LAft.of_below b2, fun _ => rfl, (fun h => by cases h), (fun h => by cases h)⟩
      · have := heap_alloc_new (w.alloc (.cells #[.pointer (some ⟨b, 0, none⟩)] 50)) (.cells #[.func (.func 103) #[] #[.pointer (some ⟨w.heap.size, 0, none⟩)], .func (.func 78) #[.pointer (some ⟨g, 0, none⟩)] #[]] 100)
        rw [World.size_alloc] at this
        exact this
      · rw [Below.heap_alloc _ _ _ (by simp), ← hb]
        exact heap_alloc_new w _))
  have HM2 : Hid (999999 ≤ l.last → mk s l = (2, s, l)) := Lib.hid (fun hh => mk_over hh)
  clear h ht hb hT
  go_enter Tryz.func46, Tryz.ntmps46
  by_cases hov : (999999 : Int) ≤ (T : Int)
  · go_wp2_with fail
    go_ret
    rw [HM2.out (by have := HT.out; omega)]
    have b1 : Below w.heap.size w (w.alloc (.cells #[.pointer (some ⟨b, 0, none⟩)] 50)) := (Below.refl _ _).alloc (Nat.le_refl _) _
    exact ⟨rfl, m, H.out.below b1, LAft.of_below b1⟩
  · have KA1 := Lib.hid (KA.out (by have := HT.out; omega))
    clear KA
    go_wp2_with fail
    refine KA1.out.mono ?_
    rintro e w1 ⟨c, rfl, h0, h1⟩
    by_cases hc : c = 0
    · have e1 : (c == 0) = true := by rw [hc]; rfl
      have e2 : (c != 0) = false := by rw [hc]; rfl
      obtain ⟨_, hbox, _, m1, s1, hls, haf, _, _, hmk⟩ := h0 hc
      have HMK := Lib.hid (hmk rfl)
      have HLS := Lib.hid hls
      have HAF := Lib.hid haf
      have HYZ : Hid (w.heap.size < w1.heap.size) := Lib.hid (Array.getElem?_eq_some_iff.1 hbox).1
      obtain ⟨z, hz⟩ : ∃ z, z = T + 1 := ⟨_, rfl⟩
      have HZ : Hid (z = l.last + 1) := Lib.hid (by rw [hz, HT.out])
      have hez : IntKind.i64.wrap ((T : Int) + 1) = (z : Int) := by rw [IntKind.wrap_i64]; omega
      clear hz
      have q0 : w1.cell? ⟨w.heap.size, 0, none⟩ = some (.pointer (some ⟨b, 0, none⟩)) := by rw [cell_of_row w1 w.heap.size 0 _ _ (0, 0) hbox, HB.out]; rfl
      obtain ⟨_, _, q2, q3, _, _, _⟩ := hls.cells
      rw [← HB.out, ← HT.out] at q2
      rw [← HB.out] at q3
      clear h0 h1 hmk hls haf hbox
      go_wp2_with fail
      obtain ⟨V, hV⟩ : ∃ V, w1.drew = V := ⟨_, rfl⟩
      have hbV : Below w1.heap.size w1 V := by rw [← hV]; exact (Below.refl _ _).drew
      have HBV := Lib.hid hbV
      have HLV := Lib.hid (HLS.out.below hbV)
      have hbyz : b ≠ w.heap.size := Nat.ne_of_lt hbz
      have v0 : V.cell? ⟨w.heap.size, 0, none⟩ = some (.pointer (some ⟨b, 0, none⟩)) := (hbV.cell (p := ⟨w.heap.size, 0, none⟩) HYZ.out).trans q0
      obtain ⟨_, _, v2, v3, _, _, _⟩ := HLV.out.cells
      have fz2 := HLV.out.frozen 2
      have fz3 := frozen_of_row (V.setCell ⟨b, 2, none⟩ (.int .i64 (z : Int))) b 3 _ _ (by have h1 := HLV.out.box; unfold lgObj at h1; rw [HB.out]; exact (heap_setL h1 _).1)
      rw [← HB.out, ← HT.out] at v2
      rw [← HB.out] at v3 fz2
      have v4 : (V.setCell ⟨b, 2, none⟩ (.int .i64 (z : Int))).cell? ⟨w.heap.size, 0, none⟩ = some (.pointer (some ⟨b, 0, none⟩)) := by
        rw [World.cell?_of_block (heap_setCell_other _ ⟨b, 2, none⟩ w.heap.size _ (Ne.symm hbyz))]; exact v0
      have v5 : (V.setCell ⟨b, 2, none⟩ (.int .i64 (z : Int))).cell? ⟨b, 3, none⟩ = some (.int .i64 (l.size : Int)) := by
        have h1 := HLV.out.box
        unfold lgObj at h1
        rw [HB.out, cell_of_row _ x.lb 3 _ _ (0, 0) (heap_setL h1 _).1]; rfl
      clear hbV q0 q2 q3
      refine wp_region_E 12 (fun w' => w'.cell? ⟨w.heap.size, 0, none⟩ = some (.pointer (some ⟨b, 0, none⟩))) (by kernel_rfl) ?_
      rw [hV]
      clear hV
      have HS0 : V.cell? ⟨w.heap.size, 0, none⟩ = some (.pointer (some ⟨b, 0, none⟩)) := v0
      refine wpAnyE_take (i := 0) (v := ?_) rfl (by kernel_rfl) (by kernel_rfl) (by kernel_rfl) (by kernel_rfl) (fun _ _ _ h => h) (Or.inl ⟨by rfl, ?_⟩) HS0 ?_
      rotate_left
      · (intro wy hSw; go_simp; try with_reducible rfl)
      try simp only [Act.put, List.setIfInBounds_toArray]
      refine wpAnyE_take (i := 1) (v := ?_) rfl (by kernel_rfl) (by kernel_rfl) (by kernel_rfl) (by kernel_rfl) (fun _ _ _ h => h) (Or.inl ⟨by rfl, ?_⟩) HS0 ?_
      rotate_left
      · (intro wy hSw; go_simp; try with_reducible rfl)
      try simp only [Act.put]
      refine wpAnyE_take (i := 2) (v := ?_) rfl (by kernel_rfl) (by kernel_rfl) (by kernel_rfl) (by kernel_rfl) (fun _ _ _ h => h) (Or.inl ⟨by rfl, ?_⟩) HS0 ?_
      rotate_left
      · (intro wy hSw; go_simp; try with_reducible rfl)
      try simp only [Act.put]
      refine wpAnyE_one (i := 3) (by kernel_rfl) rfl (fun K hK => ?_)
      go_simp
      refine hK _ _ HS0 ?_
      clear hK K
      refine wpAnyE_one (i := 4) (by kernel_rfl) rfl (fun K hK => ?_)
      go_simp
      refine hK _ _ HS0 ?_
      clear hK K
      refine wpAnyE_one (i := 5) (by kernel_rfl) rfl (fun K hK => ?_)
      go_simp
      refine hK _ _ HS0 ?_
      clear hK K
      refine wpAnyE_one (i := 6) (by kernel_rfl) rfl (fun K hK => ?_)
      go_simp
      refine hK _ _ HS0 ?_
      clear hK K
      refine wpAnyE_one (i := 7) (by kernel_rfl) rfl (fun K hK => ?_)
      go_simp
      refine hK _ _ HS0 ?_
      clear hK K
      refine wpAnyE_one (i := 8) (by kernel_rfl) rfl (fun K hK => ?_)
      go_simp
      refine hK _ _ HS0 ?_
      clear hK K
      refine wpAnyE_one (i := 9) (by kernel_rfl) rfl (fun K hK => ?_)
      go_simp
      refine hK _ _ v4 ?_
      clear hK K
      refine wpAnyE_one (i := 10) (by kernel_rfl) rfl (fun K hK => ?_)
      go_simp
      refine hK _ _ v4 ?_
      clear hK K
      refine wpAnyE_one (i := 11) (by kernel_rfl) rfl (fun K hK => ?_)
      go_simp
      refine hK _ _ v4 ?_
      clear hK K
      refine wpAnyE_last (by kernel_rfl) (by kernel_rfl) rfl (fun K hK => ?_)
      go_simp
      refine hK _ _ ?_
      have HFIN : Hid (LopP w base g m x (mk s l).1 (mk s l).2.1 (mk s l).2.2 x (.returned (.int .i64 0)) ((V.setCell ⟨b, 2, none⟩ (.int .i64 (z : Int))).setCell ⟨b, 3, none⟩ (.int .i64 0))) := Lib.hid (by
        have h1 := LS.made HLV.out (by have := HT.out; omega)
        rw [HMK.out, HZ.out, HB.out]
        exact ⟨rfl, m1, h1.1, HAF.out.trans ((LAft.of_below HBV.out).trans h1.2)⟩)
      clear v0 v2 v3 v4 v5 HS0 fz2 fz3
      go_wp2_with fail
      go_ret
      exact HFIN.out
    · have e1 : (c == 0) = false := by simpa using hc
      have e2 : (c != 0) = true := by simpa using hc
      obtain ⟨m1, s1, hls, haf, hmk⟩ := h1 hc
      have HF : Hid (LopP w base g m x (mk s l).1 (mk s l).2.1 (mk s l).2.2 x (.returned (.int .i64 c)) w1) := Lib.hid (by rw [hmk]; exact ⟨rfl, m1, hls, haf⟩)
      clear h0 h1 hmk hls haf
      go_wp2_with fail
      go_ret
      exact HF.out
end
end Wal
end Go.Proofs.YtekbdedpombgcaaGreatDoor

namespace Go.Proofs.YtekbdedpombgcaaGreatDoor
open Go.RowKit Go.Maps

namespace Wal
section
variable {w w' : World} {base g : Nat} {s : Sto.St} {m m' : Sto.Mem} {l : Lg} {x : Lm}
theorem below_drewN (w : World) (n : Nat) : Below w.heap.size w (w.drewN n) := ⟨rfl, rfl, rfl, Nat.le_refl _, fun _ _ => rfl⟩
theorem room_off (h : s.off = true) : room s l = (8, s, l) := by unfold room; rw [if_pos h]
theorem room_yes (h : s.off = false) (h2 : l.size < l.limit) : room s l = (0, s, l) := by unfold room; rw [if_neg (by rw [h]; simp), if_pos h2]
theorem room_mk (h : s.off = false) (h2 : ¬ l.size < l.limit) : room s l = mk s l := by unfold room; rw [if_neg (by rw [h]; simp), if_neg h2]
set_option maxHeartbeats 1000000 in
set_option maxRecDepth 100000 in
theorem room_any (h : LS w base g s m l x) (ht : TabU base w) (hl : s.kept.length ≤ 1000000) (hf : s.files.length ≤ 1000000) :
    Calls Tryz.prog 117 #[.pointer (some ⟨x.lb, 0, none⟩)] w (LopP w base g m x (room s l).1 (room s l).2.1 (room s l).2.2 x) := by
  have H := Lib.hid h
  obtain ⟨c0, c1, _, c3, _, _, _⟩ := h.cells
  have KO := Lib.hid (Sto.off_any h.st)
  have KM := Lib.hid (fun n => make_any (h.below (below_drewN w n)) (TabU.below ht h (below_drewN w n)) hl hf)
  obtain ⟨o, ho⟩ : ∃ o, o = s.off := ⟨_, rfl⟩
  have HO := Lib.hid ho
  rw [← ho] at KO
  clear h ht ho
  go_enter Tryz.func117, Tryz.ntmps117
  go_wp2_with fail
  refine KO.out.mono ?_
  rintro e w1 ⟨rfl, rfl⟩
  rcases o with _ | _
  · by_cases hlt : (l.size : Int) < (l.limit : Int)
    · have HE := Lib.hid (room_yes (s := s) (l := l) HO.out.symm (by omega))
      go_wp2_with fail
      go_quiet (fail)
      go_wp2_with fail
      go_ret
      rw [HE.out]
      exact ⟨rfl, m, H.out.below (below_drewN _ _), LAft.of_below (below_drewN _ _)⟩
    · have HE := Lib.hid (room_mk (s := s) (l := l) HO.out.symm (by omega))
      go_wp2_with fail
      go_quiet (fail)
      go_wp2_with fail
      refine (KM.out _).mono ?_
      rintro e w2 ⟨rfl, m2, hls, haf⟩
      have HF : Hid (LopP w1 base g m x (room s l).1 (room s l).2.1 (room s l).2.2 x (.returned (.int .i64 (mk s l).1)) w2) := Lib.hid (by rw [HE.out]; exact ⟨rfl, m2, hls, (LAft.of_below (below_drewN _ _)).trans haf⟩)
      obtain ⟨c, hc⟩ : ∃ c, c = (mk s l).1 := ⟨_, rfl⟩
      rw [← hc] at HF ⊢
      clear hc hls haf
      go_wp2_with fail
      go_ret
      exact HF.out
  · have HE := Lib.hid (room_off (s := s) (l := l) HO.out.symm)
    go_wp2_with fail
    go_ret
    rw [HE.out]
    exact ⟨rfl, m, H.out, LAft.refl _ _ _ _⟩
/-- What breaks a log. -/
theorem LS.brk (h : LS w base g s m l x) (b : Bool) : LS (w.setCell ⟨x.lb, 6, none⟩ (.bool b)) base g s m { l with broken := b } x ∧ LAft w (w.setCell ⟨x.lb, 6, none⟩ (.bool b)) g m x m x := by
  refine h.turn rfl rfl rfl (by simp) (fun k _ hk => heap_setCell_other _ ⟨x.lb, 6, none⟩ k _ hk) ?_ rfl ⟨h.ok.limit, h.ok.last, h.ok.size, h.ok.next, h.ok.wait, h.ok.one⟩
  have h1 := h.box
  unfold lgObj at h1
  exact (heap_setL h1 (.bool b)).2.2.2.2
/-- What does comes to. -/
def DoesP (w : World) (base g : Nat) (s : Sto.St) (m : Sto.Mem) (l : Lg) (x : Lm) (R : Int → Sto.St → Lg → Lm → Prop) (e : Ending) (w' : World) : Prop :=
  (l.broken = true ∧ LopP w base g m x 9 s l x e w') ∨ (l.broken = false ∧ ∃ c s1 l1 x1, R c s1 l1 x1 ∧ LopP w base g m x c s1 { l1 with broken := c != 0 } x1 e w')
set_option maxHeartbeats 1000000 in
set_option maxRecDepth 100000 in
theorem does_any (h : LS w base g s m l x) (A : Option Addr) (n c : Nat) (R : Int → Sto.St → Lg → Lm → Prop)
    (hall : l.broken = false → Calls Tryz.prog 102 #[.slice A n c] w fun e w1 => ∃ c s1 m1 l1 x1, e = .returned (.int .i64 c) ∧ LS w1 base g s1 m1 l1 x1 ∧ LAft w w1 g m x m1 x1 ∧ R c s1 l1 x1) :
    Calls Tryz.prog 116 #[.pointer (some ⟨x.lb, 0, none⟩), .slice A n c] w (DoesP w base g s m l x R) := by
  have H := Lib.hid h
  obtain ⟨_, _, _, _, _, _, c6⟩ := h.cells
  obtain ⟨o, ho⟩ : ∃ o, o = l.broken := ⟨_, rfl⟩
  rw [← ho] at c6
  have HO := Lib.hid ho
  obtain ⟨b, hb⟩ : ∃ b, b = x.lb := ⟨_, rfl⟩
  rw [← hb] at c6 ⊢
  have HB := Lib.hid hb
  have KA := Lib.hid hall
  clear h ho hall hb
  go_enter Tryz.func116, Tryz.ntmps116
  rcases o with _ | _
  · have KA1 := Lib.hid (KA.out HO.out.symm)
    clear KA
    go_wp2_with fail
    refine KA1.out.mono ?_
    rintro e w1 ⟨c', s1, m1, l1, x1, rfl, hls, haf, hR⟩
    have HLS := Lib.hid hls
    have HAF := Lib.hid haf
    have HR := Lib.hid hR
    obtain ⟨_, _, _, _, _, _, d6⟩ := hls.cells
    have f6 := hls.frozen 6
    rw [haf.lb, ← HB.out] at d6 f6
    obtain ⟨q, hq⟩ : ∃ q, q = (c' != 0) := ⟨_, rfl⟩
    have hq' : (c' != 0) = q := hq.symm
    have hq2 : (!(c' == 0)) = q := by rw [← hq']; rfl
    have HQ := Lib.hid hq
    have HF : Hid (DoesP w base g s m l x R (.returned (.int .i64 c')) (w1.setCell ⟨b, 6, none⟩ (.bool q))) := Lib.hid (.inr ⟨HO.out.symm, c', s1, l1, x1, hR, rfl, m1, by
      have h1 := LS.brk hls q
      rw [haf.lb, ← HB.out] at h1
      rw [← hq]
      exact ⟨h1.1, haf.trans h1.2⟩⟩)
    clear hls haf hR hq c6
    go_wp2_with fail
    go_ret
    exact HF.out
  · go_wp2_with fail
    go_ret
    exact .inl ⟨HO.out.symm, rfl, m, H.out, LAft.refl _ _ _ _⟩
end
end Wal
end Go.Proofs.YtekbdedpombgcaaGreatDoor

namespace Go.Proofs.YtekbdedpombgcaaGreatDoor
open Go.RowKit Go.Maps

namespace Wal
section
variable {w w' : World} {base g : Nat} {s : Sto.St} {m m' : Sto.Mem} {l : Lg} {x : Lm}
set_option maxHeartbeats 1000000 in
set_option maxRecDepth 100000 in
theorem commit1_any (h : LS w base g s m l x) (ht : TabU base w) (hf : s.files.length ≤ 1000000) (bA : Option Addr) (bc : Nat) (b : List UInt8) (hb : RdB w w.heap.size bA b) (hp : Sto.Apart w g m bA) (y v : Nat) (hy : w.heap[y]? = some (.cells #[.pointer (some ⟨x.lb, 0, none⟩)] 50)) (hv : w.heap[v]? = some (.cells #[.slice bA b.length bc] 34)) :
    Calls Tryz.prog 118 #[.pointer (some ⟨y, 0, none⟩), .pointer (some ⟨v, 0, none⟩)] w (Sto.OpP w base g m (Sto.append s (name l.last) b)) := by
  have H := Lib.hid h
  obtain ⟨N, hN⟩ : ∃ N, N = name l.last := ⟨_, rfl⟩
  have HNl : N.length ≤ maxLen := by rw [hN, name_len]; unfold maxLen; omega
  obtain ⟨z, hz⟩ : ∃ z, z = l.last := ⟨_, rfl⟩
  have hlast := h.ok.last
  have KN := Lib.hid (fun p : BelowW w => p.calls (name_any z (by omega) p.X (ht.tab.below p.hb) N (by rw [hN, hz])))
  rw [← hN]
  have q0 : w.cell? ⟨y, 0, none⟩ = some (.pointer (some ⟨x.lb, 0, none⟩)) := by rw [cell_of_row w y 0 _ _ (0, 0) hy]; rfl
  have q1 : w.cell? ⟨v, 0, none⟩ = some (.slice bA b.length bc) := by rw [cell_of_row w v 0 _ _ (0, 0) hv]; rfl
  obtain ⟨c0, _, c2, _, _, _, _⟩ := h.cells
  rw [← hz] at c2
  have KC := Lib.hid (fun w1 (hb1 : Below w.heap.size w w1) => Sto.append_any N HNl bA bc b (h.st.below hb1) ((hb.below hb1 (Nat.le_refl _)).more hb1.size) (hp.aft (Sto.Aft.of_below hb1)) hf)
  have d0 : ∀ p : BelowW w, p.X.cell? ⟨y, 0, none⟩ = some (.pointer (some ⟨x.lb, 0, none⟩)) := fun p => (p.hb.cell (p := ⟨y, 0, none⟩) (Array.getElem?_eq_some_iff.1 hy).1).trans q0
  have d3 : ∀ p : BelowW w, p.X.cell? ⟨v, 0, none⟩ = some (.slice bA b.length bc) := fun p => (p.hb.cell (p := ⟨v, 0, none⟩) (Array.getElem?_eq_some_iff.1 hv).1).trans q1
  have d1 : ∀ p : BelowW w, p.X.cell? ⟨x.lb, 0, none⟩ = some (.pointer (some ⟨g, 0, none⟩)) := fun p => (p.hb.cell (p := ⟨x.lb, 0, none⟩) h.lb_tag.lt).trans c0
  have d2 : ∀ p : BelowW w, p.X.cell? ⟨x.lb, 2, none⟩ = some (.int .i64 (z : Int)) := fun p => (p.hb.cell (p := ⟨x.lb, 2, none⟩) h.lb_tag.lt).trans c2
  clear h ht hy hv hN HNl hz q0 q1 c0 c2 hb hp
  go_enter Tryz.func118, Tryz.ntmps118
  go_wp2_with fail
  refine wp_region_below_tail 10 (by kernel_rfl) (by kernel_rfl) ?_
  repeat (refine wpQuiet_step (fun K hK => ?_); go_simp; first | (refine hK _ ?_; clear hK K) | (apply Exists.intro; refine ⟨fun _ => ?_, hK _ ?_⟩; (exact KN.out _); clear hK K))
  refine wpQuiet_nil ?_
  rintro _ ⟨p, rfl⟩
  obtain ⟨w1, hb1⟩ := p
  have KC1 := Lib.hid (KC.out w1 hb1)
  have HB1 := Lib.hid hb1
  simp only [List.drop_succ_cons, List.drop_zero]
  clear hb1 d0 d1 d2 d3 KN KC
  go_wp2_with fail
  refine KC1.out.mono ?_
  rintro e w2 ⟨rfl, m2, hst, haf⟩
  have HF : Hid (Sto.OpP w base g m (Sto.append s N b) (.returned (.int .i64 (Sto.append s N b).1)) w2) := Lib.hid ⟨rfl, m2, hst, (Sto.Aft.of_below HB1.out).trans haf⟩
  obtain ⟨c, hc⟩ : ∃ c, c = (Sto.append s N b).1 := ⟨_, rfl⟩
  rw [← hc] at HF ⊢
  clear hst haf hc
  go_wp2_with fail
  go_ret
  exact HF.out
set_option maxHeartbeats 1000000 in
set_option maxRecDepth 100000 in
theorem commit2_any (h : LS w base g s m l x) (ht : TabU base w) (y : Nat) (hy : w.heap[y]? = some (.cells #[.pointer (some ⟨x.lb, 0, none⟩)] 50)) :
    Calls Tryz.prog 120 #[.pointer (some ⟨y, 0, none⟩)] w (Sto.OpP w base g m (Sto.sync s (name l.last))) := by
  have H := Lib.hid h
  obtain ⟨N, hN⟩ : ∃ N, N = name l.last := ⟨_, rfl⟩
  have HNl : N.length ≤ maxLen := by rw [hN, name_len]; unfold maxLen; omega
  obtain ⟨z, hz⟩ : ∃ z, z = l.last := ⟨_, rfl⟩
  have hlast := h.ok.last
  have KN := Lib.hid (fun p : BelowW w => p.calls (name_any z (by omega) p.X (ht.tab.below p.hb) N (by rw [hN, hz])))
  rw [← hN]
  have q0 : w.cell? ⟨y, 0, none⟩ = some (.pointer (some ⟨x.lb, 0, none⟩)) := by rw [cell_of_row w y 0 _ _ (0, 0) hy]; rfl
  obtain ⟨c0, _, c2, _, _, _, _⟩ := h.cells
  rw [← hz] at c2
  have KC := Lib.hid (fun w1 (hb1 : Below w.heap.size w w1) => Sto.sync_any N HNl w1 base g s m (h.st.below hb1))
  have d0 : ∀ p : BelowW w, p.X.cell? ⟨y, 0, none⟩ = some (.pointer (some ⟨x.lb, 0, none⟩)) := fun p => (p.hb.cell (p := ⟨y, 0, none⟩) (Array.getElem?_eq_some_iff.1 hy).1).trans q0
  have d1 : ∀ p : BelowW w, p.X.cell? ⟨x.lb, 0, none⟩ = some (.pointer (some ⟨g, 0, none⟩)) := fun p => (p.hb.cell (p := ⟨x.lb, 0, none⟩) h.lb_tag.lt).trans c0
  have d2 : ∀ p : BelowW w, p.X.cell? ⟨x.lb, 2, none⟩ = some (.int .i64 (z : Int)) := fun p => (p.hb.cell (p := ⟨x.lb, 2, none⟩) h.lb_tag.lt).trans c2
  clear h ht hy hN HNl hz q0 c0 c2
  go_enter Tryz.func120, Tryz.ntmps120
  go_wp2_with fail
  refine wp_region_below_tail 9 (by kernel_rfl) (by kernel_rfl) ?_
  repeat (refine wpQuiet_step (fun K hK => ?_); go_simp; first | (refine hK _ ?_; clear hK K) | (apply Exists.intro; refine ⟨fun _ => ?_, hK _ ?_⟩; (exact KN.out _); clear hK K))
  refine wpQuiet_nil ?_
  rintro _ ⟨p, rfl⟩
  obtain ⟨w1, hb1⟩ := p
  have KC1 := Lib.hid (KC.out w1 hb1)
  have HB1 := Lib.hid hb1
  simp only [List.drop_succ_cons, List.drop_zero]
  clear hb1 d0 d1 d2 KN KC
  go_wp2_with fail
  refine KC1.out.mono ?_
  rintro e w2 ⟨rfl, m2, hst, haf⟩
  have HF : Hid (Sto.OpP w base g m (Sto.sync s N) (.returned (.int .i64 (Sto.sync s N).1)) w2) := Lib.hid ⟨rfl, m2, hst, (Sto.Aft.of_below HB1.out).trans haf⟩
  obtain ⟨c, hc⟩ : ∃ c, c = (Sto.sync s N).1 := ⟨_, rfl⟩
  rw [← hc] at HF ⊢
  clear hst haf hc
  go_wp2_with fail
  go_ret
  exact HF.out
/-- All that waited is written. -/
theorem LS.written (h : LS w base g s m l x) (n : Nat) (hn : l.size + n ≤ 20000000) : LS ((w.setCell ⟨x.lb, 3, none⟩ (.int .i64 ((l.size + n : Nat) : Int))).setCell ⟨x.lb, 5, none⟩ (.slice none 0 0)) base g s m { l with size := l.size + n, waiting := [] } ⟨x.lb, none, 0, []⟩ ∧ LAft w ((w.setCell ⟨x.lb, 3, none⟩ (.int .i64 ((l.size + n : Nat) : Int))).setCell ⟨x.lb, 5, none⟩ (.slice none 0 0)) g m x m ⟨x.lb, none, 0, []⟩ := by
  refine h.clear rfl rfl rfl (by simp) (fun k _ hk => ?_) ?_ rfl ⟨h.ok.limit, h.ok.last, hn, h.ok.next, by have := h.ok.next; simp only [List.length_nil]; omega, fun _ h => by cases h⟩
  · rw [heap_setCell_other _ ⟨x.lb, 5, none⟩ k _ hk, heap_setCell_other _ ⟨x.lb, 3, none⟩ k _ hk]
  · have h1 := h.box
    unfold lgObj at h1
    exact (heap_setL (heap_setL h1 (.int .i64 ((l.size + n : Nat) : Int))).2.1 (.slice none 0 0)).2.2.2.1
set_option maxHeartbeats 1000000 in
set_option maxRecDepth 100000 in
theorem commit3_any (h : LS w base g s m l x) (bA : Option Addr) (bl bc : Nat) (hn : l.size + bl ≤ 20000000) (y v : Nat) (hy : w.heap[y]? = some (.cells #[.pointer (some ⟨x.lb, 0, none⟩)] 50)) (hv : w.heap[v]? = some (.cells #[.slice bA bl bc] 34)) :
    Calls Tryz.prog 122 #[.pointer (some ⟨y, 0, none⟩), .pointer (some ⟨v, 0, none⟩)] w (LopP w base g m x 0 s { l with size := l.size + bl, waiting := [] } ⟨x.lb, none, 0, []⟩) := by
  have H := Lib.hid h
  have q0 : w.cell? ⟨y, 0, none⟩ = some (.pointer (some ⟨x.lb, 0, none⟩)) := by rw [cell_of_row w y 0 _ _ (0, 0) hy]; rfl
  have q1 : w.cell? ⟨v, 0, none⟩ = some (.slice bA bl bc) := by rw [cell_of_row w v 0 _ _ (0, 0) hv]; rfl
  obtain ⟨_, _, _, c3, _, _, _⟩ := h.cells
  clear h
  go_enter Tryz.func122, Tryz.ntmps122
  go_wp2_with fail
  obtain ⟨b, hb⟩ : ∃ b, b = x.lb := ⟨_, rfl⟩
  have HB := Lib.hid hb
  obtain ⟨V, hV⟩ : ∃ V, w.drew = V := ⟨_, rfl⟩
  have hbV : Below w.heap.size w V := by rw [← hV]; exact (Below.refl _ _).drew
  have HBV := Lib.hid hbV
  have HLV := Lib.hid (H.out.below hbV)
  have hyl : Sto.Tag w y 50 := ⟨_, _, hy⟩
  have hvl : Sto.Tag w v 34 := ⟨_, _, hv⟩
  have hyb : y ≠ b := by rw [hb]; exact hyl.ne H.out.lb_tag (by decide)
  have hvb : v ≠ b := by rw [hb]; exact hvl.ne H.out.lb_tag (by decide)
  have v0 : V.cell? ⟨y, 0, none⟩ = some (.pointer (some ⟨b, 0, none⟩)) := by rw [hb]; exact (hbV.cell (p := ⟨y, 0, none⟩) hyl.lt).trans q0
  have v1 : V.cell? ⟨v, 0, none⟩ = some (.slice bA bl bc) := (hbV.cell (p := ⟨v, 0, none⟩) hvl.lt).trans q1
  have v3 : V.cell? ⟨b, 3, none⟩ = some (.int .i64 (l.size : Int)) := by rw [hb]; exact (hbV.cell (p := ⟨x.lb, 3, none⟩) H.out.lb_tag.lt).trans c3
  obtain ⟨z, hz⟩ : ∃ z, z = l.size + bl := ⟨_, rfl⟩
  have hez : IntKind.i64.wrap ((l.size : Int) + (bl : Int)) = (z : Int) := by rw [IntKind.wrap_i64]; omega
  have HZ := Lib.hid hz
  have fz3 := HLV.out.frozen 3
  have hbx := HLV.out.box
  unfold lgObj at hbx
  rw [← hb] at fz3 hbx
  have fz5 := frozen_of_row (V.setCell ⟨b, 3, none⟩ (.int .i64 (z : Int))) b 5 _ _ (heap_setL hbx _).2.1
  have v5 : (V.setCell ⟨b, 3, none⟩ (.int .i64 (z : Int))).cell? ⟨b, 5, none⟩ = some (.slice x.WA l.waiting.length x.wc) := by
    rw [cell_of_row _ b 5 _ _ (0, 0) (heap_setL hbx _).2.1]; rfl
  have v6 : (V.setCell ⟨b, 3, none⟩ (.int .i64 (z : Int))).cell? ⟨y, 0, none⟩ = some (.pointer (some ⟨b, 0, none⟩)) := by
    rw [World.cell?_of_block (heap_setCell_other _ ⟨b, 3, none⟩ y _ hyb)]; exact v0
  have v7 : (V.setCell ⟨b, 3, none⟩ (.int .i64 (z : Int))).cell? ⟨v, 0, none⟩ = some (.slice bA bl bc) := by
    rw [World.cell?_of_block (heap_setCell_other _ ⟨b, 3, none⟩ v _ hvb)]; exact v1
  have HFIN : Hid (LopP w base g m x 0 s { l with size := l.size + bl, waiting := [] } ⟨x.lb, none, 0, []⟩ (.returned (.int .i64 0)) ((V.setCell ⟨b, 3, none⟩ (.int .i64 (z : Int))).setCell ⟨b, 5, none⟩ (.slice none 0 0))) := Lib.hid (by
    have h1 := LS.written HLV.out bl hn
    rw [hz, hb]
    exact ⟨rfl, m, h1.1, (LAft.of_below hbV).trans h1.2⟩)
  refine wp_region_E 14 (fun w' => w'.cell? ⟨y, 0, none⟩ = some (.pointer (some ⟨b, 0, none⟩)) ∧ w'.cell? ⟨v, 0, none⟩ = some (.slice bA bl bc)) (by kernel_rfl) ?_
  rw [hV]
  clear hV hz hb hbV hy hv hyl hvl hbx q0 q1 c3
  have HS0 : V.cell? ⟨y, 0, none⟩ = some (.pointer (some ⟨b, 0, none⟩)) ∧ V.cell? ⟨v, 0, none⟩ = some (.slice bA bl bc) := ⟨v0, v1⟩
  refine wpAnyE_take (i := 0) (v := ?_) rfl (by kernel_rfl) (by kernel_rfl) (by kernel_rfl) (by kernel_rfl) (fun _ _ _ h => h) (Or.inl ⟨by rfl, ?_⟩) HS0 ?_
  rotate_left
  · (intro wy hSw; obtain ⟨s1, s2x⟩ := hSw; go_simp; try with_reducible rfl)
  try simp only [Act.put, List.setIfInBounds_toArray]
  refine wpAnyE_take (i := 1) (v := ?_) rfl (by kernel_rfl) (by kernel_rfl) (by kernel_rfl) (by kernel_rfl) (fun _ _ _ h => h) (Or.inl ⟨by rfl, ?_⟩) HS0 ?_
  rotate_left
  · (intro wy hSw; obtain ⟨s1, s2x⟩ := hSw; go_simp; try with_reducible rfl)
  try simp only [Act.put]
  refine wpAnyE_take (i := 2) (v := ?_) rfl (by kernel_rfl) (by kernel_rfl) (by kernel_rfl) (by kernel_rfl) (fun _ _ _ h => h) (Or.inl ⟨by rfl, ?_⟩) HS0 ?_
  rotate_left
  · (intro wy hSw; obtain ⟨s1, s2x⟩ := hSw; go_simp; try with_reducible rfl)
  try simp only [Act.put]
  refine wpAnyE_take (i := 6) (v := ?_) rfl (by kernel_rfl) (by kernel_rfl) (by kernel_rfl) (by kernel_rfl) (fun _ _ _ h => h) (Or.inl ⟨by rfl, ?_⟩) HS0 ?_
  rotate_left
  · (intro wy hSw; obtain ⟨s1, s2x⟩ := hSw; go_simp; try with_reducible rfl)
  try simp only [Act.put]
  refine wpAnyE_take (i := 7) (v := ?_) rfl (by kernel_rfl) (by kernel_rfl) (by kernel_rfl) (by kernel_rfl) (fun _ _ _ h => h) (Or.inl ⟨by rfl, ?_⟩) HS0 ?_
  rotate_left
  · (intro wy hSw; obtain ⟨s1, s2x⟩ := hSw; go_simp; try with_reducible rfl)
  try simp only [Act.put]
  refine wpAnyE_one (i := 3) (by kernel_rfl) rfl (fun K hK => ?_)
  go_simp
  refine hK _ _ HS0 ?_
  clear hK K
  refine wpAnyE_one (i := 4) (by kernel_rfl) rfl (fun K hK => ?_)
  go_simp
  refine hK _ _ HS0 ?_
  clear hK K
  refine wpAnyE_one (i := 5) (by kernel_rfl) rfl (fun K hK => ?_)
  go_simp
  refine hK _ _ HS0 ?_
  clear hK K
  refine wpAnyE_one (i := 8) (by kernel_rfl) rfl (fun K hK => ?_)
  go_simp
  refine hK _ _ HS0 ?_
  clear hK K
  refine wpAnyE_one (i := 9) (by kernel_rfl) rfl (fun K hK => ?_)
  go_simp
  refine hK _ _ HS0 ?_
  clear hK K
  refine wpAnyE_one (i := 10) (by kernel_rfl) rfl (fun K hK => ?_)
  go_simp
  refine hK _ _ HS0 ?_
  clear hK K
  refine wpAnyE_one (i := 11) (by kernel_rfl) rfl (fun K hK => ?_)
  go_simp
  refine hK _ _ ⟨v6, v7⟩ ?_
  clear hK K
  refine wpAnyE_one (i := 12) (by kernel_rfl) rfl (fun K hK => ?_)
  go_simp
  refine hK _ _ ⟨v6, v7⟩ ?_
  clear hK K
  refine wpAnyE_one (i := 13) (by kernel_rfl) rfl (fun K hK => ?_)
  go_simp
  refine hK _ _ ⟨v6, v7⟩ ?_
  clear hK K
  refine wpAnyE_last (by kernel_rfl) (by kernel_rfl) rfl (fun K hK => ?_)
  go_simp
  refine hK _ _ ?_
  clear v0 v1 v3 v5 v6 v7 HS0 fz3 fz5
  go_wp2_with fail
  go_ret
  exact HFIN.out
end
end Wal
end Go.Proofs.YtekbdedpombgcaaGreatDoor

namespace Go.Proofs.YtekbdedpombgcaaGreatDoor
open Go.RowKit Go.Maps

namespace Sto
section
variable {s : St}
theorem create_sz (n : Str) : (create s n).2.files.length ≤ s.files.length + 1 ∧ (create s n).2.kept.length ≤ s.kept.length + 1 := by
  obtain ⟨h1, h2, _, _, _⟩ := meet_files s [n]
  unfold create
  simp only
  split
  · rw [h1, h2]; omega
  · split
    · rw [h1, h2]; omega
    · simp [change, h1, h2]
theorem syncDir_sz : (syncDir s).2.files.length ≤ s.files.length ∧ (syncDir s).2.kept.length ≤ s.kept.length := by
  obtain ⟨h1, h2, _, _, _⟩ := meet_files s []
  unfold syncDir
  simp only
  split
  · rw [h1, h2]; omega
  · simp [h1]
theorem append_fit {n : Str} {b : List UInt8} (hr : s.room ≤ 16777216) (h : (append s n b).1 = 0) : b.length ≤ 16777216 := by
  obtain ⟨_, _, _, _, h5⟩ := meet_files s [n]
  unfold append at h
  simp only at h
  split at h
  · rename_i h0; exact absurd h h0
  · split at h
    · cases h
    · split at h
      · cases h
      · rename_i hf
        rw [h5] at hf
        omega
end
end Sto
namespace Wal
section
variable {w w' : World} {base g : Nat} {s : Sto.St} {m m' : Sto.Mem} {l : Lg} {x : Lm}
theorem mk_sz : (mk s l).2.1.files.length ≤ s.files.length + 1 ∧ (mk s l).2.1.kept.length ≤ s.kept.length + 1 := by
  have h1 := Sto.create_sz (s := s) (name (l.last + 1))
  have h2 := Sto.syncDir_sz (s := (Sto.create s (name (l.last + 1))).2)
  unfold mk
  simp only
  split
  · simp only; omega
  · split
    · exact h1
    · split <;> (simp only; omega)
theorem mk_lg : (mk s l).2.2.broken = l.broken ∧ (mk s l).2.2.waiting = l.waiting ∧ (mk s l).2.2.limit = l.limit ∧ (mk s l).2.2.next = l.next ∧ ((mk s l).1 = 0 → (mk s l).2.2.size = 0) := by
  unfold mk
  simp only
  split
  · exact ⟨rfl, rfl, rfl, rfl, fun h => by cases h⟩
  · split
    · rename_i h0; exact ⟨rfl, rfl, rfl, rfl, fun h => absurd h h0⟩
    · split
      · rename_i h0; exact ⟨rfl, rfl, rfl, rfl, fun h => absurd h h0⟩
      · exact ⟨rfl, rfl, rfl, rfl, fun _ => rfl⟩
theorem room_sz : (room s l).2.1.files.length ≤ s.files.length + 1 ∧ (room s l).2.1.kept.length ≤ s.kept.length + 1 := by
  unfold room
  split
  · simp only; omega
  · split
    · simp only; omega
    · exact mk_sz
theorem room_lg (hl : l.limit ≤ 65536) : (room s l).2.2.broken = l.broken ∧ (room s l).2.2.waiting = l.waiting ∧ ((room s l).1 = 0 → (room s l).2.2.size ≤ 65536) := by
  unfold room
  split
  · exact ⟨rfl, rfl, fun h => by cases h⟩
  · split
    · exact ⟨rfl, rfl, fun _ => by simp only; omega⟩
    · exact ⟨mk_lg.1, mk_lg.2.1, fun h => by rw [mk_lg.2.2.2.2 h]; omega⟩
/-- The steps of Commit. -/
def cmFs (b y v : Nat) : List Fc := [⟨117, [.pointer (some ⟨b, 0, none⟩)], []⟩, ⟨118, [], [.pointer (some ⟨y, 0, none⟩), .pointer (some ⟨v, 0, none⟩)]⟩,
  ⟨120, [], [.pointer (some ⟨y, 0, none⟩)]⟩, ⟨122, [], [.pointer (some ⟨y, 0, none⟩), .pointer (some ⟨v, 0, none⟩)]⟩]
/-- How far Commit has come. -/
def CmSt (s : Sto.St) (l : Lg) (b : List UInt8) (i : Nat) (s1 : Sto.St) (l1 : Lg) : Prop :=
  (i = 0 → s1 = s ∧ l1 = l) ∧ (i = 1 → room s l = (0, s1, l1)) ∧ (i = 2 → ∃ sr, room s l = (0, sr, l1) ∧ Sto.append sr (name l1.last) b = (0, s1)) ∧
  (i = 3 → ∃ sr sa, room s l = (0, sr, l1) ∧ Sto.append sr (name l1.last) b = (0, sa) ∧ Sto.sync sa (name l1.last) = (0, s1)) ∧ (i = 4 → commit s l = (0, s1, { l1 with broken := false }))
structure CmW (w : World) (base g : Nat) (s : Sto.St) (m : Sto.Mem) (l : Lg) (x : Lm) (y v r : Nat) (bA : Option Addr) (bc : Nat) (b : List UInt8) (i : Nat) (W : World) : Prop where
  row : W.heap[r]? = some (.cells ((cmFs x.lb y v).flatMap F1).toArray 100)
  y : W.heap[y]? = some (.cells #[.pointer (some ⟨x.lb, 0, none⟩)] 50)
  v : W.heap[v]? = some (.cells #[.slice bA b.length bc] 34)
  rd : RdB W W.heap.size bA b
  tg : ∀ k, blk bA = some k → Sto.Tag W k 5
  tab : TabU base W
  st : ∃ m1 s1 l1 x1, LS W base g s1 m1 l1 x1 ∧ LAft w W g m x m1 x1 ∧ Sto.Apart W g m1 bA ∧ (i ≤ 3 → x1 = x) ∧ CmSt s l b i s1 l1
def CmF (w : World) (base g : Nat) (s : Sto.St) (m : Sto.Mem) (l : Lg) (x : Lm) (c : Int) (W : World) : Prop := ∃ m1 s1 l1 x1, LS W base g s1 m1 l1 x1 ∧ LAft w W g m x m1 x1 ∧ commit s l = (c, s1, { l1 with broken := true })
theorem commit_room (h1 : l.broken = false) (h2 : l.waiting ≠ []) (h : (room s l).1 ≠ 0) : commit s l = ((room s l).1, (room s l).2.1, { (room s l).2.2 with broken := true }) := by
  unfold commit; rw [if_neg (by rw [h1]; simp), if_neg h2]; simp only; rw [if_pos h]
theorem commit_app (h1 : l.broken = false) (h2 : l.waiting ≠ []) {s1 : Sto.St} {l1 : Lg} (hr : room s l = (0, s1, l1)) (h : (Sto.append s1 (name l1.last) (bytes l.waiting)).1 ≠ 0) : commit s l = ((Sto.append s1 (name l1.last) (bytes l.waiting)).1, (Sto.append s1 (name l1.last) (bytes l.waiting)).2, { l1 with broken := true }) := by
  unfold commit; rw [if_neg (by rw [h1]; simp), if_neg h2]; simp only; rw [hr]; simp only; rw [if_neg (by simp), if_pos h]
theorem commit_sync (h1 : l.broken = false) (h2 : l.waiting ≠ []) {s1 sa : Sto.St} {l1 : Lg} (hr : room s l = (0, s1, l1)) (ha : Sto.append s1 (name l1.last) (bytes l.waiting) = (0, sa)) (h : (Sto.sync sa (name l1.last)).1 ≠ 0) : commit s l = ((Sto.sync sa (name l1.last)).1, (Sto.sync sa (name l1.last)).2, { l1 with broken := true }) := by
  unfold commit; rw [if_neg (by rw [h1]; simp), if_neg h2]; simp only; rw [hr]; simp only; rw [if_neg (by simp), ha]; simp only; rw [if_neg (by simp), if_pos h]
theorem commit_ok (h1 : l.broken = false) (h2 : l.waiting ≠ []) {s1 sa sb : Sto.St} {l1 : Lg} (hr : room s l = (0, s1, l1)) (ha : Sto.append s1 (name l1.last) (bytes l.waiting) = (0, sa)) (hb : Sto.sync sa (name l1.last) = (0, sb)) : commit s l = (0, sb, { l1 with size := l1.size + (bytes l.waiting).length, waiting := [] }) := by
  unfold commit; rw [if_neg (by rw [h1]; simp), if_neg h2]; simp only; rw [hr]; simp only; rw [if_neg (by simp), ha]; simp only; rw [if_neg (by simp), hb]; simp only; rw [if_neg (by simp)]
theorem commit_nil (h1 : l.broken = false) (h2 : l.waiting = []) : commit s l = (0, s, l) := by
  unfold commit; rw [if_neg (by rw [h1]; simp), if_pos h2]
theorem commit_brk (h1 : l.broken = true) : commit s l = (9, s, l) := by unfold commit; rw [if_pos h1]
theorem laft_tag {x1 : Lm} (h : LS w base g s m l x) (ha : LAft w w' g m x m' x1) {k : Nat} {cs : Array Value} {T : TypeId} {fr : Nat × Nat} (ht : w.heap[k]? = some (.cells cs T fr)) (hT : Alien T) (h2 : T ≠ 146) (h3 : T ≠ 151) : w'.heap[k]? = some (.cells cs T fr) :=
  (ha.block k (Array.getElem?_eq_some_iff.1 ht).1 (fun e => by
    have t : Sto.Tag w k T := ⟨_, _, ht⟩
    rcases e with e | e | e
    · exact h.st.not_foot t hT.h1 hT.h2 hT.h3 hT.h4 hT.h5 (fun e2 => absurd e2 hT.h6) (.inl e)
    · exact t.ne h.lb_tag h2 e
    · exact t.ne (Sto.ownTagS h.wt.row e) h3 rfl)).trans ht
theorem rdB_laft {x1 : Lm} {A : Option Addr} {b : List UInt8} (h : RdB w w.heap.size A b) (hs : LS w base g s m l x) (hp : Sto.Apart w g m A) (ht : ∀ k, blk A = some k → Sto.Tag w k 5) (ha : LAft w w' g m x m' x1) : RdB w' w'.heap.size A b ∧ Sto.Apart w' g m' A ∧ ∀ k, blk A = some k → Sto.Tag w' k 5 := by
  have hn : ∀ k, blk A = some k → ¬ LMut g m x k := fun k e => by
    rintro (h1 | h1 | h1)
    · exact (hp k e).2 h1
    · exact (ht k e).ne hs.lb_tag (by decide) h1
    · exact (ht k e).ne (Sto.ownTagS hs.wt.row h1) (by decide) rfl
  refine ⟨rdB_keepS h ha.size (fun k e hk => ha.block k hk (hn k e)), fun k e => ⟨Nat.lt_of_lt_of_le (hp k e).1 ha.size, fun hm => hn k e (ha.turn k (hp k e).1 (.inl hm))⟩, fun k e => (ht k e).keep (ha.block k (hp k e).1 (hn k e))⟩
theorem CmW.step {y v r i : Nat} {bA : Option Addr} {bc : Nat} {b : List UInt8} {W W2 : World} (h : CmW w base g s m l x y v r bA bc b i W) {m1 m2 : Sto.Mem} {s1 s2 : Sto.St} {l1 l2 : Lg} {x1 x2 : Lm} (h1 : LS W base g s1 m1 l1 x1) (h2 : LAft w W g m x m1 x1) (h3 : Sto.Apart W g m1 bA)
    (k1 : LS W2 base g s2 m2 l2 x2) (k2 : LAft W W2 g m1 x1 m2 x2) (hx : i + 1 ≤ 3 → x2 = x) (hs : CmSt s l b (i + 1) s2 l2) : CmW w base g s m l x y v r bA bc b (i + 1) W2 := by
  obtain ⟨p1, p2, p3⟩ := rdB_laft h.rd h1 h3 h.tg k2
  exact ⟨laft_tag h1 k2 h.row ⟨by decide, by decide, by decide, by decide, by decide, by decide⟩ (by decide) (by decide), laft_tag h1 k2 h.y ⟨by decide, by decide, by decide, by decide, by decide, by decide⟩ (by decide) (by decide),
    laft_tag h1 k2 h.v ⟨by decide, by decide, by decide, by decide, by decide, by decide⟩ (by decide) (by decide), p1, p3, TabU.laft h.tab h1 k2, m2, s2, l2, x2, k1, h2.trans k2, p2, hx, hs⟩
theorem CmSt.at0 (b : List UInt8) : CmSt s l b 0 s l := ⟨fun _ => ⟨rfl, rfl⟩, (fun h => by cases h), (fun h => by cases h), (fun h => by cases h), (fun h => by cases h)⟩
theorem CmSt.at1 {b : List UInt8} {s1 : Sto.St} {l1 : Lg} (h : room s l = (0, s1, l1)) : CmSt s l b 1 s1 l1 := ⟨(fun h => by cases h), fun _ => h, (fun h => by cases h), (fun h => by cases h), (fun h => by cases h)⟩
theorem CmSt.at2 {b : List UInt8} {sr s1 : Sto.St} {l1 : Lg} (h : room s l = (0, sr, l1)) (h2 : Sto.append sr (name l1.last) b = (0, s1)) : CmSt s l b 2 s1 l1 := ⟨(fun h => by cases h), (fun h => by cases h), fun _ => ⟨sr, h, h2⟩, (fun h => by cases h), (fun h => by cases h)⟩
theorem CmSt.at3 {b : List UInt8} {sr sa s1 : Sto.St} {l1 : Lg} (h : room s l = (0, sr, l1)) (h2 : Sto.append sr (name l1.last) b = (0, sa)) (h3 : Sto.sync sa (name l1.last) = (0, s1)) : CmSt s l b 3 s1 l1 := ⟨(fun h => by cases h), (fun h => by cases h), (fun h => by cases h), fun _ => ⟨sr, sa, h, h2, h3⟩, (fun h => by cases h)⟩
theorem CmSt.at4 {b : List UInt8} {s1 : Sto.St} {l1 : Lg} (h : commit s l = (0, s1, { l1 with broken := false })) : CmSt s l b 4 s1 l1 := ⟨(fun h => by cases h), (fun h => by cases h), (fun h => by cases h), (fun h => by cases h), fun _ => h⟩
set_option maxHeartbeats 1000000 in
set_option maxRecDepth 100000 in
theorem commit_steps (hlim : l.limit ≤ 65536) (hbr : l.broken = false) (hwt : l.waiting ≠ []) (hl : s.kept.length ≤ 900000) (hf : s.files.length ≤ 900000) {y v r : Nat} {bA : Option Addr} {bc : Nat} {W : World} (hI : CmW w base g s m l x y v r bA bc (bytes l.waiting) 0 W) :
    Calls Tryz.prog 102 #[.slice (some ⟨r, 0, none⟩) 4 4] W fun e W' => ∃ c : Int, e = .returned (.int .i64 c) ∧ (c = 0 → CmW w base g s m l x y v r bA bc (bytes l.waiting) 4 W') ∧ (c ≠ 0 → CmF w base g s m l x c W') := by
  refine all_any (some ⟨r, 0, none⟩) 4 (cmFs x.lb y v) W (CmW w base g s m l x y v r bA bc (bytes l.waiting)) (CmF w base g s m l x) (fun u hu => ?_) (by simp [cmFs]) hI (fun i W1 _ h => rd_fcs h.row) (fun i hi W1 h => ?_)
  · simp only [cmFs, List.mem_cons, List.not_mem_nil, or_false] at hu
    rcases hu with rfl | rfl | rfl | rfl <;> exact fun _ _ => rfl
  · obtain ⟨m1, s1, l1, x1, hls, haf, hap, hx, h0, h1, h2, h3, _⟩ := h.st
    have hi4 : i < 4 := hi
    have hr1 := room_lg (s := s) hlim
    have hr2 := room_sz (s := s) (l := l)
    rcases i with _ | _ | _ | _ | i
    · obtain ⟨rfl, rfl⟩ := h0 rfl
      obtain rfl := hx (by omega)
      refine (room_any hls h.tab (by omega) (by omega)).mono ?_
      rintro e W2 ⟨he, m2, hls2, haf2⟩
      refine ⟨_, he, fun hz => h.step hls haf hap hls2 haf2 (fun _ => rfl) (CmSt.at1 (Prod.ext hz rfl)), fun hz => ⟨m2, _, _, _, hls2, haf.trans haf2, commit_room hbr hwt hz⟩⟩
    · have hrm := h1 rfl
      rw [hrm] at hr1 hr2
      simp only at hr1 hr2
      obtain rfl := hx (by omega)
      refine (commit1_any hls h.tab (by omega) bA bc (bytes l.waiting) h.rd hap y v h.y h.v).mono ?_
      rintro e W2 ⟨he, m2, hst2, haf2⟩
      exact ⟨_, he, fun hz => h.step hls haf hap (hls.store hst2 haf2) (LAft.of_aft haf2) (fun _ => rfl) (CmSt.at2 hrm (Prod.ext hz rfl)), fun hz => ⟨m2, _, _, _, hls.store hst2 haf2, haf.trans (LAft.of_aft haf2), commit_app hbr hwt hrm hz⟩⟩
    · obtain ⟨sr, hrm, happ⟩ := h2 rfl
      obtain rfl := hx (by omega)
      refine (commit2_any hls h.tab y h.y).mono ?_
      rintro e W2 ⟨he, m2, hst2, haf2⟩
      exact ⟨_, he, fun hz => h.step hls haf hap (hls.store hst2 haf2) (LAft.of_aft haf2) (fun _ => rfl) (CmSt.at3 hrm happ (Prod.ext hz rfl)), fun hz => ⟨m2, _, _, _, hls.store hst2 haf2, haf.trans (LAft.of_aft haf2), commit_sync hbr hwt hrm happ hz⟩⟩
    · obtain ⟨sr, sa, hrm, happ, hsy⟩ := h3 rfl
      obtain rfl := hx (by omega)
      rw [hrm] at hr1
      simp only at hr1
      have hroom : sr.room ≤ 16777216 := by
        obtain ⟨_, _, _, _, e1⟩ := Sto.meet_files sr [name l1.last]
        obtain ⟨_, _, _, _, e2⟩ := Sto.meet_files sa [name l1.last]
        have h9 := hls.st.r.ok.room.2
        have e3 : (Sto.append sr (name l1.last) (bytes l.waiting)).2.room = sr.room := by
          unfold Sto.append
          simp only
          split
          · exact e1
          · split
            · exact e1
            · split <;> exact e1
        have e4 : (Sto.sync sa (name l1.last)).2.room = sa.room := by
          unfold Sto.sync
          simp only
          split
          · exact e2
          · split <;> exact e2
        rw [happ] at e3
        rw [hsy] at e4
        simp only at e3 e4
        rw [← e3, ← e4]
        exact h9
      have hfit := Sto.append_fit hroom (by rw [happ])
      have hsz := hr1.2.2 (by first | exact trivial | rfl)
      refine (commit3_any hls bA (bytes l.waiting).length bc (by omega) y v h.y h.v).mono ?_
      rintro e W2 ⟨he, m2, hls2, haf2⟩
      refine ⟨0, he, fun _ => h.step hls haf hap hls2 haf2 (fun h => by omega) (CmSt.at4 ?_), fun hz => absurd rfl hz⟩
      rw [commit_ok hbr hwt hrm happ hsy, ← hr1.1.trans hbr]
    · omega
end
end Wal
end Go.Proofs.YtekbdedpombgcaaGreatDoor

namespace Go.Proofs.YtekbdedpombgcaaGreatDoor
open Go.RowKit Go.Maps

namespace Wal
theorem one_len (x : Bt) (h1 : x.1 ≤ 1099511627776) (h2 : x.2.length ≤ 60000) : (Cod.number x.1 ++ x.2).length ≤ 60010 ∧ (one x).length ≤ 61000 := by
  have n1 := Cod.number_len (n := x.1) (by omega)
  have n2 := Cod.number_len (n := (Cod.number x.1 ++ x.2).length) (by rw [List.length_append]; omega)
  refine ⟨by rw [List.length_append]; omega, ?_⟩
  unfold one Frm.put Frm.head Cod.text
  have hb : ∀ n, (Frm.be4 n).length = 4 := fun n => by unfold Frm.be4; simp
  rw [List.length_append, List.length_cons, List.length_append, hb]
  rw [List.length_append] at n2 ⊢
  omega
theorem bytes_snoc (l : List Bt) (x : Bt) : bytes (l ++ [x]) = bytes l ++ one x := by unfold bytes; simp
theorem bytes_len : ∀ (l : List Bt), (∀ b ∈ l, b.1 ≤ 1099511627776 ∧ b.2.length ≤ 60000) → (bytes l).length ≤ l.length * 61000
  | [], _ => by simp [bytes]
  | x :: l, h => by
    have h1 := (one_len x (h x (by simp)).1 (h x (by simp)).2).2
    have h2 := bytes_len l (fun b hb => h b (by simp [hb]))
    have e : bytes (x :: l) = one x ++ bytes l := by simp [bytes]
    rw [e, List.length_append, List.length_cons, Nat.succ_mul]
    omega
section
variable {w w' : World} {base g : Nat} {s : Sto.St} {m m' : Sto.Mem} {l : Lg} {x : Lm}
/-- What lies in a round of Commit's loop. -/
structure CmI (w : World) (b : Nat) (L : List UInt8) (wr : World) : Prop where
  y : wr.heap[w.heap.size]? = some (.cells #[.pointer (some ⟨b, 0, none⟩)] 50)
  v : ∃ BA bc, wr.heap[w.heap.size + 1]? = some (.cells #[.slice BA L.length bc] 34) ∧ Own wr w.heap.size 5 BA bc L
  below : Below w.heap.size w wr
theorem CmI.call {b : Nat} {L : List UInt8} {wr w1 : World} (h : CmI w b L wr) (hb : Below wr.heap.size wr w1) : CmI w b L w1 := by
  obtain ⟨BA, bc, h1, h2⟩ := h.v
  exact ⟨(hb.block _ (Array.getElem?_eq_some_iff.1 h.y).1).trans h.y, ⟨BA, bc, (hb.block _ (Array.getElem?_eq_some_iff.1 h1).1).trans h1, h2.below hb⟩, h.below.trans (hb.mono h.below.size)⟩
theorem CmI.next {b : Nat} {L L4 : List UInt8} {wr w8 : World} {BA A4 : Option Addr} {bc c4 : Nat} (h : CmI w b L wr) (hv : wr.heap[w.heap.size + 1]? = some (.cells #[.slice BA L.length bc] 34)) (ho : Own wr w.heap.size 5 BA bc L) (hg : wr.grownBy w8 (blk BA)) (ho4 : Own w8 w.heap.size 5 A4 c4 L4) :
    w8.heap[w.heap.size + 1]? = some (.cells #[.slice BA L.length bc] 34) ∧ CmI w b L4 (w8.setCell ⟨w.heap.size + 1, 0, none⟩ (.slice A4 L4.length c4)) := by
  have hr : ∀ k, blk BA = some k → Sto.Tag wr k 5 := fun k e => Sto.ownTag ho e
  have hv8 : w8.heap[w.heap.size + 1]? = some (.cells #[.slice BA L.length bc] 34) := (hg.block _ (Array.getElem?_eq_some_iff.1 hv).1 (fun e => (hr _ e.symm).ne ⟨_, _, hv⟩ (by decide) rfl)).trans hv
  have hy8 := (hg.block _ (Array.getElem?_eq_some_iff.1 h.y).1 (fun e => (hr _ e.symm).ne ⟨_, _, h.y⟩ (by decide) rfl)).trans h.y
  refine ⟨hv8, ⟨by rw [box_set_other (by omega)]; exact hy8, ⟨A4, c4, box_set hv8 _, own_keepS ho4 (fun k e => box_set_other ((Sto.ownTag ho4 e).ne ⟨_, _, hv8⟩ (by decide)) _)⟩, ?_⟩⟩
  exact (h.below.grown hg h.below.size (fun k e => (ho.blk_ge k e).1)).setCell (by simp) _
set_option maxHeartbeats 2000000 in
set_option maxRecDepth 100000 in
theorem commit_any (h : LS w base g s m l x) (ht : TabU base w) (hl : s.kept.length ≤ 900000) (hf : s.files.length ≤ 900000) (hw : l.waiting.length ≤ 100000) :
    Calls Tryz.prog 54 #[.pointer (some ⟨x.lb, 0, none⟩)] w fun e w' => ∃ x', LopP w base g m x (commit s l).1 (commit s l).2.1 (commit s l).2.2 x' e w' := by
  have H := Lib.hid h
  obtain ⟨_, _, _, _, _, c5, _⟩ := h.cells
  have hlt := h.lb_tag.lt
  obtain ⟨b, hb⟩ : ∃ b, b = x.lb := ⟨_, rfl⟩
  rw [← hb] at c5 hlt ⊢
  have HB := Lib.hid hb
  obtain ⟨n, hn⟩ : ∃ n, n = l.waiting.length := ⟨_, rfl⟩
  rw [← hn] at c5 hw
  obtain ⟨WA, hWA⟩ : ∃ WA, WA = x.WA := ⟨_, rfl⟩
  rw [← hWA] at c5
  have HWA := Lib.hid hWA
  have HN : Hid (x.W.length = n) := Lib.hid (by rw [hn, ← h.wt.bt, List.length_map])
  have HTK : Hid (∀ k (hk : k < x.W.length), l.waiting.take (k + 1) = l.waiting.take k ++ [x.W[k].bt]) := Lib.hid (fun k hk => by
    have hk' : k < l.waiting.length := by rw [← h.wt.bt, List.length_map]; exact hk
    rw [List.take_succ_eq_append_getElem hk']
    congr 2
    simp [← h.wt.bt])
  have HWN := Lib.hid hn
  clear h hb hn hWA
  go_enter Tryz.func54, Tryz.ntmps54
  go_wp2_with fail
  have HI0 : Hid (CmI w b [] ((w.alloc (.cells #[.pointer (some ⟨b, 0, none⟩)] 50)).alloc (.cells #[.slice none 0 0] 34))) := Lib.hid (by
    refine ⟨?_, ⟨none, 0, ?_, Own.nil _ _ _⟩, ((Below.refl _ _).alloc (Nat.le_refl _) _).alloc (by simp) _⟩
    · rw [Below.heap_alloc _ _ _ (by simp)]; exact heap_alloc_new w _
    · have := heap_alloc_new (w.alloc (.cells #[.pointer (some ⟨b, 0, none⟩)] 50)) (.cells #[.slice none 0 0] 34)
      rw [World.size_alloc] at this
      exact this)
  go_loopw [13] (fun i wr => ∃ k : Nat, k ≤ n ∧ i = .int .i64 (k : Int) ∧ Hid (CmI w b (bytes (l.waiting.take k)) wr)) (fun i _ => n - (intOf i).toNat)
  case atStart => exact ⟨0, by omega, rfl, HI0⟩
  case round =>
    obtain ⟨k, hk, rfl, HI⟩ := hrel
    by_cases hkn : k < n
    · have hkW : k < x.W.length := by rw [HN.out]; exact hkn
      obtain ⟨BA, bc, hbx, hbo⟩ := HI.out.v
      have hbl := HI.out.below
      have hLS := H.out.below hbl
      obtain ⟨qb, qo, hqA, hqb, hqc⟩ := RdS.row (f := Bv.cells) (n := 2) (fun _ => rfl) (by omega) hLS.wt.row.rd (by omega)
      have q0 := hqc k hkW 0 _ rfl
      have q1 := hqc k hkW 1 _ rfl
      have hv0 := hLS.wt.bys.ok x.W[k] (List.getElem_mem hkW)
      have hok := hLS.ok.one x.W[k].bt (by rw [← hLS.wt.bt]; exact List.mem_map_of_mem (List.getElem_mem hkW))
      have hT := HTK.out k hkW
      obtain ⟨u, hu⟩ : ∃ u, u = x.W[k] := ⟨_, rfl⟩
      rw [← hu] at q0 q1 hv0 hok hT
      obtain ⟨un, uA, uc, ub⟩ := u
      simp only [Bv.bt] at hok
      simp only at q0 q1 hv0
      rw [Nat.add_zero] at q0
      have HV0 := Lib.hid hv0.1
      have HLEN : Hid ((bytes (l.waiting.take k)).length ≤ 6100000000) := Lib.hid (by
        have h1 := bytes_len (l.waiting.take k) (fun b hb => hLS.ok.one b (List.mem_of_mem_take hb))
        have h2 : (l.waiting.take k).length ≤ 100000 := by rw [List.length_take]; omega
        have h3 := Nat.mul_le_mul_right 61000 h2
        omega)
      have HB2 : Hid (bytes (l.waiting.take (k + 1)) = bytes (l.waiting.take k) ++ Frm.put 66 (Cod.number un ++ ub)) := Lib.hid (by rw [hT, bytes_snoc]; rfl)
      have hol := one_len (un, ub) hok.1 hok.2
      obtain ⟨L, hL⟩ : ∃ L, L = bytes (l.waiting.take k) := ⟨_, rfl⟩
      rw [← hL] at hbx hbo HLEN HB2 HI
      have HBX := Lib.hid hbx
      have HBO := Lib.hid hbo
      have hsz := HI.out.below.size
      have hyz := (Array.getElem?_eq_some_iff.1 hbx).1
      have hw64 : IntKind.u64.wrap (un : Int) = (un : Int) := by rw [IntKind.wrap_u64]; omega
      have hok1 := hok.1
      have HOL := Lib.hid hol
      obtain rfl : WA = some ⟨qb, qo, none⟩ := HWA.out.trans hqA
      clear hqA hqc hu hT hv0 hok hLS hbl hL hbx hbo hol
      go_wp2_with fail
      obtain ⟨V, hV⟩ : ∃ V, (wr.alloc (.cells #[.int .i64 (un : Int), .slice uA ub.length uc] 151)).drew = V := ⟨_, rfl⟩
      have hbV : Below wr.heap.size wr V := by rw [← hV]; exact ((Below.refl _ _).alloc (Nat.le_refl _) _).drew
      have HCV := Lib.hid (HI.out.call hbV)
      have hxV : V.heap[wr.heap.size]? = some (.cells #[.int .i64 (un : Int), .slice uA ub.length uc] 151) := by rw [← hV]; exact heap_alloc_new wr _
      have v0 := cell_of_row V wr.heap.size 0 _ _ (0, 0) hxV
      have v1 := cell_of_row V wr.heap.size 1 _ _ (0, 0) hxV
      simp only [List.getElem?_toArray, List.getElem?_cons_zero, List.getElem?_cons_succ] at v0 v1
      have HXV := Lib.hid hxV
      have HUB : Hid (RdB V V.heap.size uA ub) := Lib.hid ((HV0.out.below hbV (Nat.le_refl _)).more hbV.size)
      have HBVZ := Lib.hid hbV.size
      refine wp_region_E 12 (fun w' => w'.cell? ⟨wr.heap.size, 0, none⟩ = some (.int .i64 (un : Int)) ∧ w'.cell? ⟨wr.heap.size, 1, none⟩ = some (.slice uA ub.length uc)) (by kernel_rfl) ?_
      rw [hV]
      clear hV hbV hxV
      have HS0 : V.cell? ⟨wr.heap.size, 0, none⟩ = some (.int .i64 (un : Int)) ∧ V.cell? ⟨wr.heap.size, 1, none⟩ = some (.slice uA ub.length uc) := ⟨v0, v1⟩
      refine wpAnyE_take (i := 0) (v := ?_) rfl (by kernel_rfl) (by kernel_rfl) (by kernel_rfl) (by kernel_rfl) (fun _ _ _ h => h) (Or.inl ⟨by rfl, ?_⟩) HS0 ?_
      rotate_left
      · (intro wy hSw; obtain ⟨s1, s2x⟩ := hSw; go_simp; try with_reducible rfl)
      try simp only [Act.put, List.setIfInBounds_toArray]
      refine wpAnyE_take (i := 1) (v := ?_) rfl (by kernel_rfl) (by kernel_rfl) (by kernel_rfl) (by kernel_rfl) (fun _ _ _ h => h) (Or.inl ⟨by rfl, ?_⟩) HS0 ?_
      rotate_left
      · (intro wy hSw; obtain ⟨s1, s2x⟩ := hSw; go_simp; try with_reducible rfl)
      try simp only [Act.put]
      refine wpAnyE_take (i := 2) (v := ?_) rfl (by kernel_rfl) (by kernel_rfl) (by kernel_rfl) (by kernel_rfl) (fun _ _ _ h => h) (Or.inl ⟨by rfl, ?_⟩) HS0 ?_
      rotate_left
      · (intro wy hSw; obtain ⟨s1, s2x⟩ := hSw; go_simp; try with_reducible rfl)
      try simp only [Act.put]
      refine wpAnyE_take (i := 4) (v := ?_) rfl (by kernel_rfl) (by kernel_rfl) (by kernel_rfl) (by kernel_rfl) (fun _ _ _ h => h) (Or.inl ⟨by rfl, ?_⟩) HS0 ?_
      rotate_left
      · (intro wy hSw; obtain ⟨s1, s2x⟩ := hSw; go_simp; try with_reducible rfl)
      try simp only [Act.put]
      refine wpAnyE_take (i := 5) (v := ?_) rfl (by kernel_rfl) (by kernel_rfl) (by kernel_rfl) (by kernel_rfl) (fun _ _ _ h => h) (Or.inl ⟨by rfl, ?_⟩) HS0 ?_
      rotate_left
      · (intro wy hSw; obtain ⟨s1, s2x⟩ := hSw; go_simp; try with_reducible rfl)
      try simp only [Act.put]
      refine wpAnyE_one (i := 3) (by kernel_rfl) rfl (fun K hK => ?_)
      go_simp
      refine (number_any un (by omega) V).mono ?_
      rintro e w1 ⟨A1, c1, rfl, ho1, hb1⟩
      have HS1 : w1.cell? ⟨wr.heap.size, 0, none⟩ = some (.int .i64 (un : Int)) ∧ w1.cell? ⟨wr.heap.size, 1, none⟩ = some (.slice uA ub.length uc) :=
        ⟨(hb1.cell (p := ⟨wr.heap.size, 0, none⟩) (Array.getElem?_eq_some_iff.1 HXV.out).1).trans v0, (hb1.cell (p := ⟨wr.heap.size, 1, none⟩) (Array.getElem?_eq_some_iff.1 HXV.out).1).trans v1⟩
      have HX1 : Hid (w1.heap[wr.heap.size]? = some (.cells #[.int .i64 (un : Int), .slice uA ub.length uc] 151)) := Lib.hid ((hb1.block _ (Array.getElem?_eq_some_iff.1 HXV.out).1).trans HXV.out)
      have HO1 := Lib.hid ho1
      have HB1 := Lib.hid hb1
      refine hK _ _ HS1 ?_
      clear hK K HS0 v0 v1 ho1 hb1
      refine wpAnyE_one (i := 6) (by kernel_rfl) rfl (fun K hK => ?_)
      refine step_append_be w1 (by rfl) (some 24) (by rfl) (.tmp 21) (.tmp 23) bt (by rfl) V.heap.size A1 c1 (Cod.number un) (by rfl) HO1.out w1.heap.size uA ub.length uc ub (by rfl) rfl ((HUB.out.below HB1.out (Nat.le_refl _)).more HB1.out.size) (by have h9 := HOL.out.1; simp only [List.length_append] at h9; omega) HB1.out.size ?_
      intro A2 c2 L2 w2 hL2 ho2 hg2 hat2
      have hne : some wr.heap.size ≠ blk A1 := fun e => by have h1 := (HO1.out.blk_ge _ e.symm).1; have h2 := (Array.getElem?_eq_some_iff.1 HXV.out).1; omega
      have hx2 : w2.heap[wr.heap.size]? = some (.cells #[.int .i64 (un : Int), .slice uA ub.length uc] 151) := (hg2.block _ (Array.getElem?_eq_some_iff.1 HX1.out).1 hne).trans HX1.out
      have v0 := cell_of_row w2 wr.heap.size 0 _ _ (0, 0) hx2
      have v1 := cell_of_row w2 wr.heap.size 1 _ _ (0, 0) hx2
      simp only [List.getElem?_toArray, List.getElem?_cons_zero, List.getElem?_cons_succ] at v0 v1
      have HB12 : Hid (Below V.heap.size V w2) := Lib.hid (HB1.out.grown hg2 HB1.out.size (fun g e => (HO1.out.blk_ge g e).1))
      have HO2 := Lib.hid ho2
      have HX2 := Lib.hid hx2
      have HL2 := Lib.hid hL2
      refine hK _ _ ⟨v0, v1⟩ ?_
      clear hK K hne hx2 hL2 ho2 hg2 hat2
      try simp only [Act.put]
      have hL2l : L2.length ≤ 60010 := by rw [HL2.out]; exact HOL.out.1
      have KP : Hid (Calls Tryz.prog 115 #[.int .u8 66, .slice A2 L2.length c2] w2 (GivesP w2 true (Frm.put 66 L2))) := Lib.hid (by
        have h1 := fput_any 66 A2 c2 L2 w2 HO2.out.rd (by omega)
        rw [decide_eq_true (by omega)] at h1
        exact h1)
      refine wpAnyE_one (i := 7) (by kernel_rfl) rfl (fun K hK => ?_)
      go_simp
      refine KP.out.mono ?_
      rintro e w3 ⟨hb3, h3⟩
      rcases h3 with ⟨h3, _⟩ | ⟨_, A3, c3, rfl, ho3⟩
      · cases h3
      have HS3 : w3.cell? ⟨wr.heap.size, 0, none⟩ = some (.int .i64 (un : Int)) ∧ w3.cell? ⟨wr.heap.size, 1, none⟩ = some (.slice uA ub.length uc) :=
        ⟨(hb3.cell (p := ⟨wr.heap.size, 0, none⟩) (Array.getElem?_eq_some_iff.1 HX2.out).1).trans v0, (hb3.cell (p := ⟨wr.heap.size, 1, none⟩) (Array.getElem?_eq_some_iff.1 HX2.out).1).trans v1⟩
      have HO3 := Lib.hid ho3
      have HB3 := Lib.hid (HB12.out.trans (hb3.mono HB12.out.size))
      obtain ⟨F, hF⟩ : ∃ F, F = Frm.put 66 L2 := ⟨_, rfl⟩
      rw [← hF] at HO3 ⊢
      have HF : Hid (F = Frm.put 66 (Cod.number un ++ ub)) := Lib.hid (by rw [hF, HL2.out])
      refine hK _ _ HS3 ?_
      clear hK K v0 v1 ho3 hb3 hF
      refine wpAnyE_one (i := 8) (by kernel_rfl) rfl (fun K hK => ?_)
      go_simp
      refine hK _ _ HS3 ?_
      clear hK K
      refine wpAnyE_take (i := 9) (v := ?_) rfl (by kernel_rfl) (by kernel_rfl) (by kernel_rfl) (by kernel_rfl) (fun _ _ _ h => h) (Or.inl ⟨by rfl, ?_⟩) HS3 ?_
      rotate_left
      · (intro wy hSw; obtain ⟨s1, s2x⟩ := hSw; go_simp; try with_reducible rfl)
      try simp only [Act.put]
      refine wpAnyE_take (i := 10) (v := ?_) rfl (by kernel_rfl) (by kernel_rfl) (by kernel_rfl) (by kernel_rfl) (fun _ _ _ h => h) (Or.inl ⟨by rfl, ?_⟩) HS3 ?_
      rotate_left
      · (intro wy hSw; obtain ⟨s1, s2x⟩ := hSw; go_simp; try with_reducible rfl)
      try simp only [Act.put]
      refine wpAnyE_one (i := 11) (by kernel_rfl) rfl (fun K hK => ?_)
      go_simp
      refine hK _ _ HS3 ?_
      clear hK K
      refine wpAnyE_last (by kernel_rfl) (by kernel_rfl) rfl (fun K hK => ?_)
      go_simp
      refine hK _ _ ?_
      clear hK K HS3
      have HC3 := Lib.hid (HCV.out.call HB3.out)
      obtain ⟨BA3, bc3, hbx3, hbo3⟩ := HC3.out.v
      have t3 := box_cell hbx3
      have u3 := box_frozen hbx3
      have HBX3 := Lib.hid hbx3
      have HBO3 := Lib.hid hbo3
      have hFl : F.length ≤ 61000 := by rw [HF.out]; exact HOL.out.2
      have hsz3 := HC3.out.below.size
      clear hbx3 hbo3
      go_wp2_with (at_builtin; refine wpList_append_b _ rfl _ _ bt rfl w.heap.size BA3 bc3 L rfl HBO3.out w3.heap.size A3 F.length c3 F rfl rfl HO3.out.rd (by have := HLEN.out; omega) hsz3 ?_)
      intro A4 c4 L4 w8 hL4 ho4 hg4 hat4
      have HNX := Lib.hid (CmI.next HC3.out HBX3.out HBO3.out hg4 ho4)
      have HL4 := Lib.hid hL4
      have t4 := box_cell HNX.out.1
      have u4 := box_frozen HNX.out.1
      clear hL4 ho4 hg4 hat4
      go_wp2_with fail
      exact ⟨⟨k + 1, by omega, by simp, Lib.hid (by rw [HB2.out, ← HF.out, ← HL4.out]; exact HNX.out.2)⟩, by simp only [intOf]; omega⟩
    · have hke : k = n := by omega
      have HIN : Hid (CmI w b (bytes l.waiting) wr) := Lib.hid (by
        have h1 := HI.out
        rw [hke, HWN.out, List.take_length] at h1
        exact h1)
      clear HI
      obtain ⟨BA, bc, hbx, hbo⟩ := HIN.out.v
      have t0 := box_cell hbx
      have u0 := box_frozen hbx
      have y0 := box_cell HIN.out.y
      obtain ⟨L, hL⟩ : ∃ L, L = bytes l.waiting := ⟨_, rfl⟩
      rw [← hL] at t0 hbx hbo
      have HL := Lib.hid hL
      have HBX := Lib.hid hbx
      have HBO := Lib.hid hbo
      clear hL hbx hbo hlt
      obtain ⟨nL, hnL⟩ : ∃ nL, nL = L.length := ⟨_, rfl⟩
      rw [← hnL] at t0
      have HNL := Lib.hid hnL
      clear hnL
      have HWR := Lib.hid (H.out.below HIN.out.below)
      by_cases hz : nL = 0
      · have e1 : ((nL : Int) == 0) = true := by rw [hz]; rfl
        have hW0 : l.waiting = [] := by
          have h1 : L = [] := List.eq_nil_of_length_eq_zero (by rw [← HNL.out, hz])
          rw [HL.out] at h1
          rcases hw0 : l.waiting with _ | ⟨a, r⟩
          · rfl
          · rw [hw0] at h1
            have h2 : bytes (a :: r) = one a ++ bytes r := by simp [bytes]
            rw [h2] at h1
            have h3 := congrArg List.length h1
            rw [List.length_append, List.length_nil] at h3
            have h4 : 0 < (one a).length := by unfold one Frm.put Frm.head; simp
            omega
        have HW0 := Lib.hid hW0
        have KD := Lib.hid (does_any HWR.out none 0 0 (fun c s1 l1 x1 => c = 0 ∧ s1 = s ∧ l1 = l ∧ x1 = x) (fun _ => (all_any none 0 [] wr (fun _ W => W = wr) (fun _ _ => False) (fun _ h => by cases h) (by simp) rfl (fun i W _ h => RdS.nil) (fun i hi => by simp at hi)).mono (fun e W' ⟨c, he, h0, h1⟩ => by
          have hc : c = 0 := by
            rcases Decidable.em (c = 0) with h | h
            · exact h
            · exact (h1 h).elim
          obtain rfl := h0 hc
          exact ⟨c, s, m, l, x, he, HWR.out, LAft.refl _ _ _ _, hc, rfl, rfl, rfl⟩)))
        rw [← HB.out] at KD
        clear hz hW0
        go_wp2_with fail
        refine KD.out.mono ?_
        intro e w9 hD
        have HD : Hid (∃ x', LopP w base g m x (commit s l).1 (commit s l).2.1 (commit s l).2.2 x' e w9) := Lib.hid (by
          have hab : LAft w wr g m x m x := LAft.of_below HIN.out.below
          rcases hD with ⟨hb1, he, m', h1, h2⟩ | ⟨hb1, c, s1, l1, x1, ⟨rfl, rfl, rfl, rfl⟩, he, m', h1, h2⟩
          · rw [commit_brk hb1]; exact ⟨x, he, m', h1, hab.trans h2⟩
          · rw [commit_nil hb1 HW0.out]
            have e3 : ({ l1 with broken := (0 : Int) != 0 } : Lg) = l1 := by
              have : ((0 : Int) != 0) = l1.broken := by rw [hb1]; rfl
              rw [this]
            rw [e3] at h1
            exact ⟨x1, he, m', h1, hab.trans h2⟩)
        obtain ⟨c, hc⟩ : ∃ c : Int, e = .returned (.int .i64 c) := by
          rcases hD with ⟨_, he, _⟩ | ⟨_, c, _, _, _, _, he, _⟩
          · exact ⟨_, he⟩
          · exact ⟨_, he⟩
        subst hc
        clear hD
        go_wp2_with fail
        go_ret
        exact HD.out
      · have e1 : ((nL : Int) == 0) = false := by simp; omega
        have hW0 : l.waiting ≠ [] := fun h => hz (by rw [HNL.out, HL.out, h]; rfl)
        have HW0 := Lib.hid hW0
        obtain ⟨W, hW⟩ : ∃ W, W = wr.alloc (.cells #[.func (.func 117) #[.pointer (some ⟨b, 0, none⟩)] #[], .func (.func 118) #[] #[.pointer (some ⟨w.heap.size, 0, none⟩), .pointer (some ⟨w.heap.size + 1, 0, none⟩)],
          .func (.func 120) #[] #[.pointer (some ⟨w.heap.size, 0, none⟩)], .func (.func 122) #[] #[.pointer (some ⟨w.heap.size, 0, none⟩), .pointer (some ⟨w.heap.size + 1, 0, none⟩)]] 100) := ⟨_, rfl⟩
        have hbW : Below wr.heap.size wr W := by rw [hW]; exact (Below.refl _ _).alloc (Nat.le_refl _) _
        have hbw : Below w.heap.size w W := HIN.out.below.trans (hbW.mono HIN.out.below.size)
        have HI1 : Hid (CmW w base g s m l x w.heap.size (w.heap.size + 1) wr.heap.size BA bc (bytes l.waiting) 0 W) := Lib.hid (by
          have h1 := HIN.out.call hbW
          refine ⟨?_, ?_, ?_, ?_, fun k e => Sto.ownTag (HBO.out.below hbW) e, TabU.below ht H.out hbw, m, s, l, x, H.out.below hbw, LAft.of_below hbw, Sto.Apart.new H.out.st.r (HBO.out.below hbW), fun _ => rfl, CmSt.at0 _⟩
          · rw [← HB.out, hW]; exact heap_alloc_new wr _
          · rw [← HB.out]; exact h1.y
          · rw [← HL.out]; exact (hbW.block _ (Array.getElem?_eq_some_iff.1 HBX.out).1).trans HBX.out
          · rw [← HL.out]; exact (HBO.out.below hbW).rd)
        have HLW := Lib.hid (H.out.below hbw)
        have HAW : Hid (LAft w W g m x m x) := Lib.hid (LAft.of_below hbw)
        have KD := Lib.hid (does_any HLW.out (some ⟨wr.heap.size, 0, none⟩) 4 4 (fun c s1 l1 x1 => commit s l = (c, s1, { l1 with broken := c != 0 })) (fun hbr => (commit_steps (w := W) (base := base) (g := g) (s := s) (m := m) (l := l) (x := x) H.out.ok.limit hbr HW0.out hl hf (y := w.heap.size) (v := w.heap.size + 1) (r := wr.heap.size) (bA := BA) (bc := bc) (W := W)
          (by
            obtain ⟨a1, a2, a3, a4, a5, a6, a7⟩ := HI1.out
            exact ⟨a1, a2, a3, a4, a5, a6, m, s, l, x, HLW.out, LAft.refl _ _ _ _, by
              obtain ⟨m1, s1, l1, x1, _, _, _, _, _⟩ := a7
              exact Sto.Apart.new H.out.st.r (HBO.out.below hbW), fun _ => rfl, CmSt.at0 _⟩)).mono (fun e W' ⟨c, he, h0, h1⟩ => by
          rcases Decidable.em (c = 0) with hc | hc
          · obtain ⟨m1, s1, l1, x1, k1, k2, _, _, _, _, _, _, k9⟩ := (h0 hc).st
            exact ⟨c, s1, m1, l1, x1, he, k1, k2, by rw [hc]; exact k9 rfl⟩
          · obtain ⟨m1, s1, l1, x1, k1, k2, k3⟩ := h1 hc
            have e5 : (c != 0) = true := by simpa using hc
            exact ⟨c, s1, m1, l1, x1, he, k1, k2, by rw [e5]; exact k3⟩)))
        rw [← HB.out, hW] at KD
        clear hz hW0 hbW hbw HI1
        rw [hW] at HAW
        clear HLW
        clear hW
        clear W
        go_wp2_with fail
        refine KD.out.mono ?_
        intro e w9 hD
        have HD : Hid (∃ x', LopP w base g m x (commit s l).1 (commit s l).2.1 (commit s l).2.2 x' e w9) := Lib.hid (by
          rcases hD with ⟨hb1, he, m', h1, h2⟩ | ⟨hb1, c, s1, l1, x1, hR, he, m', h1, h2⟩
          · rw [commit_brk hb1]; exact ⟨x, he, m', h1, HAW.out.trans h2⟩
          · rw [hR]
            exact ⟨x1, he, m', h1, HAW.out.trans h2⟩)
        obtain ⟨c, hc⟩ : ∃ c : Int, e = .returned (.int .i64 c) := by
          rcases hD with ⟨_, he, _⟩ | ⟨_, c, _, _, _, _, he, _⟩
          · exact ⟨_, he⟩
          · exact ⟨_, he⟩
        subst hc
        clear hD
        go_wp2_with fail
        go_ret
        exact HD.out
end
end Wal
end Go.Proofs.YtekbdedpombgcaaGreatDoor

namespace Go.Proofs.YtekbdedpombgcaaGreatDoor
open Go.RowKit Go.Maps

namespace Wal
section
variable {w w' : World} {base g : Nat} {s : Sto.St} {m m' : Sto.Mem} {l : Lg} {x : Lm}
theorem LS.setNext (h : LS w base g s m l x) (n : Nat) (h1 : l.next ≤ n) (h2 : n ≤ 1099511627777) : LS (w.setCell ⟨x.lb, 4, none⟩ (.int .i64 (n : Int))) base g s m { l with next := n } x ∧ LAft w (w.setCell ⟨x.lb, 4, none⟩ (.int .i64 (n : Int))) g m x m x := by
  refine h.turn rfl rfl rfl (by simp) (fun k _ hk => heap_setCell_other _ ⟨x.lb, 4, none⟩ k _ hk) ?_ rfl ⟨h.ok.limit, h.ok.last, h.ok.size, ⟨Nat.le_trans h.ok.next.1 h1, h2⟩, Nat.lt_of_lt_of_le h.ok.wait h1, h.ok.one⟩
  have h1 := h.box
  unfold lgObj at h1
  exact (heap_setL h1 (.int .i64 (n : Int))).2.2.1
theorem skip_brk (n : Int) (h : l.broken = true) : skip l n = (9, l) := by unfold skip; rw [if_pos h]
theorem skip_bad (n : Int) (h : l.broken = false) (h1 : n < 1 ∨ 1099511627776 < n) : skip l n = (1, l) := by unfold skip; rw [if_neg (by rw [h]; simp), if_pos h1]
theorem skip_wait (n : Int) (h : l.broken = false) (h1 : ¬ (n < 1 ∨ 1099511627776 < n)) (h2 : l.waiting ≠ []) : skip l n = (10, l) := by unfold skip; rw [if_neg (by rw [h]; simp), if_neg h1, if_pos h2]
theorem skip_ok (n : Int) (h : l.broken = false) (h1 : ¬ (n < 1 ∨ 1099511627776 < n)) (h2 : l.waiting = []) : skip l n = (0, { l with next := max l.next n.toNat }) := by unfold skip; rw [if_neg (by rw [h]; simp), if_neg h1, if_neg (by rw [h2]; simp)]
set_option maxHeartbeats 1000000 in
set_option maxRecDepth 100000 in
theorem skip_any (h : LS w base g s m l x) (n : Int) : Calls Tryz.prog 20 #[.pointer (some ⟨x.lb, 0, none⟩), .int .i64 n] w (LopP w base g m x (skip l n).1 s (skip l n).2 x) := by
  have H := Lib.hid h
  obtain ⟨_, _, _, _, c4, c5, c6⟩ := h.cells
  have f4 := h.frozen 4
  obtain ⟨o, ho⟩ : ∃ o, o = l.broken := ⟨_, rfl⟩
  rw [← ho] at c6
  have HO := Lib.hid ho
  obtain ⟨b, hb⟩ : ∃ b, b = x.lb := ⟨_, rfl⟩
  rw [← hb] at c4 c5 c6 f4 ⊢
  have HB := Lib.hid hb
  obtain ⟨z, hz⟩ : ∃ z, z = l.waiting.length := ⟨_, rfl⟩
  rw [← hz] at c5
  have HZ := Lib.hid hz
  obtain ⟨N, hN⟩ : ∃ N, N = l.next := ⟨_, rfl⟩
  rw [← hN] at c4
  have HN := Lib.hid hN
  have hNb := h.ok.next
  rw [← hN] at hNb
  clear h ho hb hz hN
  go_enter Tryz.func20, Tryz.ntmps20
  rcases o with _ | _
  · by_cases h1 : n < 1
    · have HE := Lib.hid (skip_bad (l := l) n HO.out.symm (.inl h1))
      go_wp2_with fail
      go_ret
      rw [HE.out]
      exact ⟨rfl, m, H.out, LAft.refl _ _ _ _⟩
    · by_cases h2 : (1099511627776 : Int) < n
      · have HE := Lib.hid (skip_bad (l := l) n HO.out.symm (.inr h2))
        go_wp2_with fail
        go_ret
        rw [HE.out]
        exact ⟨rfl, m, H.out, LAft.refl _ _ _ _⟩
      · by_cases h3 : 0 < (z : Int)
        · have HE := Lib.hid (skip_wait (l := l) n HO.out.symm (by omega) (fun e => by have := HZ.out; rw [e] at this; simp at this; omega))
          go_wp2_with fail
          go_ret
          rw [HE.out]
          exact ⟨rfl, m, H.out, LAft.refl _ _ _ _⟩
        · have HE := Lib.hid (skip_ok (l := l) n HO.out.symm (by omega) (List.eq_nil_of_length_eq_zero (by rw [← HZ.out]; omega)))
          obtain ⟨k, rfl⟩ := Int.eq_ofNat_of_zero_le (show 0 ≤ n by omega)
          obtain ⟨u, hu⟩ : ∃ u, u = max N k := ⟨_, rfl⟩
          have hmx : max (N : Int) (k : Int) = (u : Int) := by omega
          have HU : Hid (u = max l.next k) := Lib.hid (by rw [hu, HN.out])
          have HF : Hid (LopP w base g m x (skip l (k : Int)).1 s (skip l (k : Int)).2 x (.returned (.int .i64 0)) (w.setCell ⟨b, 4, none⟩ (.int .i64 (u : Int)))) := Lib.hid (by
            rw [HE.out, Int.toNat_natCast, ← HU.out, HB.out]
            have h9 := LS.setNext H.out u (by rw [HU.out]; omega) (by omega)
            exact ⟨rfl, m, h9.1, h9.2⟩)
          clear hu
          go_wp2_with fail
          go_ret
          exact HF.out
  · have HE := Lib.hid (skip_brk (l := l) n HO.out.symm)
    go_wp2_with fail
    go_ret
    rw [HE.out]
    exact ⟨rfl, m, H.out, LAft.refl _ _ _ _⟩
theorem add_brk (b : List UInt8) (h : l.broken = true) : add l b = (9, 0, l) := by unfold add; rw [if_pos h]
theorem add_big (b : List UInt8) (h : l.broken = false) (h1 : 60000 < b.length) : add l b = (1, 0, l) := by unfold add; rw [if_neg (by rw [h]; simp), if_pos h1]
theorem add_over (b : List UInt8) (h : l.broken = false) (h1 : ¬ 60000 < b.length) (h2 : 1099511627776 < l.next) : add l b = (2, 0, l) := by unfold add; rw [if_neg (by rw [h]; simp), if_neg h1, if_pos h2]
theorem add_ok (b : List UInt8) (h : l.broken = false) (h1 : ¬ 60000 < b.length) (h2 : ¬ 1099511627776 < l.next) : add l b = (0, l.next, { l with waiting := l.waiting ++ [(l.next, b)], next := l.next + 1 }) := by unfold add; rw [if_neg (by rw [h]; simp), if_neg h1, if_neg h2]
/-- What Add comes to. -/
def AddP (w : World) (base g : Nat) (s : Sto.St) (m : Sto.Mem) (x : Lm) (r : Int × Nat × Lg) (e : Ending) (w' : World) : Prop := e = .returned (.tuple #[.int .i64 (r.2.1 : Int), .int .i64 r.1]) ∧ ∃ m' x', LS w' base g s m' r.2.2 x' ∧ LAft w w' g m x m' x'
set_option maxHeartbeats 1000000 in
set_option maxRecDepth 100000 in
theorem add_any (h : LS w base g s m l x) (bA : Option Addr) (bc : Nat) (b : List UInt8) (hb : RdB w w.heap.size bA b) (hl : b.length ≤ 140737488355328) : Calls Tryz.prog 52 #[.pointer (some ⟨x.lb, 0, none⟩), .slice bA b.length bc] w (AddP w base g s m x (add l b)) := by
  have H := Lib.hid h
  obtain ⟨_, _, _, _, c4, c5, c6⟩ := h.cells
  have KC := Lib.hid (fun W (hbw : Below w.heap.size w W) => clone_any bA bc b W ((hb.below hbw (Nat.le_refl _)).more hbw.size) hl)
  obtain ⟨o, ho⟩ : ∃ o, o = l.broken := ⟨_, rfl⟩
  rw [← ho] at c6
  have HO := Lib.hid ho
  obtain ⟨lb, hlb⟩ : ∃ lb, lb = x.lb := ⟨_, rfl⟩
  rw [← hlb] at c4 c5 c6 ⊢
  have HLB := Lib.hid hlb
  have hwl : l.waiting.length = x.W.length := by rw [← h.wt.bt, List.length_map]
  rw [hwl] at c5
  obtain ⟨N, hN⟩ : ∃ N, N = l.next := ⟨_, rfl⟩
  rw [← hN] at c4
  have HN := Lib.hid hN
  have hNb := h.ok.next
  have hzN := h.ok.wait
  have HLZ : Hid (lb < w.heap.size) := Lib.hid (by rw [hlb]; exact h.lb_tag.lt)
  rw [← hN] at hNb
  rw [← hN, hwl] at hzN
  have HROW := Lib.hid h.wt.row
  clear h ho hlb hwl hN hb
  go_enter Tryz.func52, Tryz.ntmps52
  rcases o with _ | _
  · by_cases h1 : (60000 : Int) < (b.length : Int)
    · have HE := Lib.hid (add_big (l := l) b HO.out.symm (by omega))
      go_wp2_with fail
      go_ret2
      rw [HE.out]
      exact ⟨rfl, m, x, H.out, LAft.refl _ _ _ _⟩
    · by_cases h2 : (1099511627776 : Int) < (N : Int)
      · have HE := Lib.hid (add_over (l := l) b HO.out.symm (by omega) (by rw [← HN.out]; omega))
        go_wp2_with fail
        go_ret2
        rw [HE.out]
        exact ⟨rfl, m, x, H.out, LAft.refl _ _ _ _⟩
      · have HE := Lib.hid (add_ok (l := l) b HO.out.symm (by omega) (by rw [← HN.out]; omega))
        go_wp2_with fail
        obtain ⟨V, hV⟩ : ∃ V, w.drew = V := ⟨_, rfl⟩
        have hbV : Below w.heap.size w V := by rw [← hV]; exact (Below.refl _ _).drew
        have HBV := Lib.hid hbV
        have HS0 : V.cell? ⟨lb, 5, none⟩ = some (.slice x.WA x.W.length x.wc) := (hbV.cell (p := ⟨lb, 5, none⟩) HLZ.out).trans c5
        have KC1 := Lib.hid (KC.out V hbV)
        have HNZ : Hid (some lb ≠ blk x.WA) := Lib.hid (fun e => by
          have t := Sto.ownTagS HROW.out e.symm
          rw [HLB.out] at t
          exact t.ne H.out.lb_tag (by decide) rfl)
        refine wp_region_E 13 (fun w' => w'.cell? ⟨lb, 5, none⟩ = some (.slice x.WA x.W.length x.wc)) (by kernel_rfl) ?_
        rw [hV]
        clear hV hbV c4 c5 c6 KC
        refine wpAnyE_take (i := 0) (v := ?_) rfl (by kernel_rfl) (by kernel_rfl) (by kernel_rfl) (by kernel_rfl) (fun _ _ _ h => h) (Or.inl ⟨by rfl, ?_⟩) HS0 ?_
        rotate_left
        · (intro wy hSw; go_simp; try with_reducible rfl)
        try simp only [Act.put, List.setIfInBounds_toArray]
        refine wpAnyE_take (i := 1) (v := ?_) rfl (by kernel_rfl) (by kernel_rfl) (by kernel_rfl) (by kernel_rfl) (fun _ _ _ h => h) (Or.inl ⟨by rfl, ?_⟩) HS0 ?_
        rotate_left
        · (intro wy hSw; go_simp; try with_reducible rfl)
        try simp only [Act.put]
        refine wpAnyE_take (i := 2) (v := ?_) rfl (by kernel_rfl) (by kernel_rfl) (by kernel_rfl) (by kernel_rfl) (fun _ _ _ h => h) (Or.inl ⟨by rfl, ?_⟩) HS0 ?_
        rotate_left
        · (intro wy hSw; go_simp; try with_reducible rfl)
        try simp only [Act.put]
        refine wpAnyE_take (i := 3) (v := ?_) rfl (by kernel_rfl) (by kernel_rfl) (by kernel_rfl) (by kernel_rfl) (fun _ _ _ h => h) (Or.inl ⟨by rfl, ?_⟩) HS0 ?_
        rotate_left
        · (intro wy hSw; go_simp; try with_reducible rfl)
        try simp only [Act.put]
        refine wpAnyE_take (i := 4) (v := ?_) rfl (by kernel_rfl) (by kernel_rfl) (by kernel_rfl) (by kernel_rfl) (fun _ _ _ h => h) (Or.inl ⟨by rfl, ?_⟩) HS0 ?_
        rotate_left
        · (intro wy hSw; go_simp; try with_reducible rfl)
        try simp only [Act.put]
        refine wpAnyE_take (i := 5) (v := ?_) rfl (by kernel_rfl) (by kernel_rfl) (by kernel_rfl) (by kernel_rfl) (fun _ _ _ h => h) (Or.inl ⟨by rfl, ?_⟩) HS0 ?_
        rotate_left
        · (intro wy hSw; go_simp; try with_reducible rfl)
        try simp only [Act.put]
        refine wpAnyE_take (i := 6) (v := ?_) rfl (by kernel_rfl) (by kernel_rfl) (by kernel_rfl) (by kernel_rfl) (fun _ _ _ h => h) (Or.inl ⟨by rfl, ?_⟩) HS0 ?_
        rotate_left
        · (intro wy hSw; go_simp; try with_reducible rfl)
        try simp only [Act.put]
        refine wpAnyE_one (i := 7) (by kernel_rfl) rfl (fun K hK => ?_)
        go_simp
        refine KC1.out.mono ?_
        rintro e w1 ⟨A1, c1, rfl, ho1, hb1⟩
        have HVZ : Hid (lb < V.heap.size) := Lib.hid (Nat.lt_of_lt_of_le HLZ.out HBV.out.size)
        have HS1 : w1.cell? ⟨lb, 5, none⟩ = some (.slice x.WA x.W.length x.wc) := (hb1.cell (p := ⟨lb, 5, none⟩) HVZ.out).trans HS0
        have HO1 := Lib.hid ho1
        have HB1 := Lib.hid (HBV.out.trans (hb1.mono HBV.out.size))
        refine hK _ _ HS1 ?_
        clear hK K HS0 ho1 hb1
        refine wpAnyE_one (i := 8) (by kernel_rfl) rfl (fun K hK => ?_)
        go_simp
        refine hK _ _ HS1 ?_
        clear hK K
        refine wpAnyE_one (i := 9) (by kernel_rfl) rfl (fun K hK => ?_)
        go_simp
        obtain ⟨W2, hW2⟩ : ∃ W2, w1.alloc (.cells #[.int .i64 (N : Int), .slice A1 b.length c1] 151) = W2 := ⟨_, rfl⟩
        have hb2 : Below w1.heap.size w1 W2 := by rw [← hW2]; exact (Below.refl _ _).alloc (Nat.le_refl _) _
        have HB2 := Lib.hid (HB1.out.trans (hb2.mono HB1.out.size))
        have HZ1 : Hid (lb < w1.heap.size) := Lib.hid (Nat.lt_of_lt_of_le HLZ.out HB1.out.size)
        have HS2 : W2.cell? ⟨lb, 5, none⟩ = some (.slice x.WA x.W.length x.wc) := (hb2.cell (p := ⟨lb, 5, none⟩) HZ1.out).trans HS1
        have HRD : Hid (RdS Bv.cells 2 W2 (w1.heap.size + 1) (some ⟨w1.heap.size, 0, none⟩) [⟨N, A1, c1, b⟩]) := Lib.hid (by rw [← hW2]; exact rd_bt_new w1 ⟨N, A1, c1, b⟩)
        have HO2 := Lib.hid (HO1.out.below hb2)
        have HR2 := Lib.hid (HROW.out.below HB2.out)
        have HBZ : Hid (base ≤ W2.heap.size) := Lib.hid (by have := H.out.lbb; have := H.out.lb_tag.lt; have := HB2.out.size; omega)
        rw [hW2]
        refine hK _ _ HS2 ?_
        clear hK K HS1 hb2 hW2
        refine wpAnyE_one (i := 10) (by kernel_rfl) rfl (fun K hK => ?_)
        refine step_append_sd W2 (by rfl) (some 36) (by rfl) (.tmp 30) (.tmp 35) btT (by rfl) base x.WA x.wc x.W (by rfl) HR2.out (w1.heap.size + 1) (some ⟨w1.heap.size, 0, none⟩) 1 1 [⟨N, A1, c1, b⟩] (by rfl) rfl HRD.out (by simp only [List.length_cons, List.length_nil]; omega) (by simp only [List.length_cons, List.length_nil]; unfold maxLen; omega) HBZ.out ?_
        intro A2 c2 L2 w3 hL2 ho2 hg2 hat2
        have HZ2 : Hid (lb < W2.heap.size) := Lib.hid (Nat.lt_of_lt_of_le HLZ.out HB2.out.size)
        have hbx : w3.heap[lb]? = some (lgObj g l x) := (hg2.block lb HZ2.out HNZ.out).trans ((HB2.out.block lb HLZ.out).trans (by rw [HLB.out]; exact H.out.box))
        have HS3 : w3.cell? ⟨lb, 5, none⟩ = some (.slice x.WA x.W.length x.wc) := by
          rw [cell_of_row w3 lb 5 _ _ (0, 0) hbx, ← H.out.wt.bt, List.length_map]; rfl
        have fz5 : w3.frozen? ⟨lb, 5, none⟩ = false := frozen_of_row w3 lb 5 _ _ hbx
        obtain ⟨n2, hn2⟩ : ∃ n2, n2 = L2.length := ⟨_, rfl⟩
        have HBX := Lib.hid hbx
        have HN2 : Hid (n2 = x.W.length + 1) := Lib.hid (by rw [hn2, hL2]; simp)
        have HL2 := Lib.hid hL2
        have HO3 := Lib.hid ho2
        have HG3 := Lib.hid hg2
        have HAT := Lib.hid hat2
        rw [← hn2]
        refine hK _ _ HS3 ?_
        clear hK K HS2 hL2 ho2 hg2 hat2 hn2 hbx
        try simp only [Act.put]
        refine wpAnyE_one (i := 11) (by kernel_rfl) rfl (fun K hK => ?_)
        go_simp
        refine hK _ _ HS3 ?_
        clear hK K
        refine wpAnyE_one (i := 12) (by kernel_rfl) rfl (fun K hK => ?_)
        go_simp
        refine hK _ _ HS3 ?_
        clear hK K
        refine wpAnyE_last (by kernel_rfl) (by kernel_rfl) rfl (fun K hK => ?_)
        go_simp
        refine hK _ _ ?_
        clear hK K HS3 fz5
        obtain ⟨Y, hY⟩ : ∃ Y, Y = w3.setCell ⟨lb, 5, none⟩ (.slice A2 n2 c2) := ⟨_, rfl⟩
        have hyb : Y.heap[lb]? = some (.cells #[.pointer (some ⟨g, 0, none⟩), .int .i64 (l.limit : Int), .int .i64 (l.last : Int), .int .i64 (l.size : Int), .int .i64 (l.next : Int), .slice A2 n2 c2, .bool l.broken] 146) := by
          have h9 := HBX.out
          unfold lgObj at h9
          rw [hY]
          exact (heap_setL h9 (.slice A2 n2 c2)).2.2.2.1
        have y4 : Y.cell? ⟨lb, 4, none⟩ = some (.int .i64 (N : Int)) := by rw [cell_of_row Y lb 4 _ _ (0, 0) hyb, HN.out]; rfl
        have fy4 : Y.frozen? ⟨lb, 4, none⟩ = false := frozen_of_row Y lb 4 _ _ hyb
        have e1 : IntKind.i64.wrap ((N : Int) + 1) = ((N + 1 : Nat) : Int) := by rw [IntKind.wrap_i64]; omega
        have HYB := Lib.hid hyb
        have HYE : Hid (Y.os = w3.os ∧ Y.tape = w3.tape ∧ Y.output = w3.output ∧ w3.heap.size ≤ Y.heap.size ∧ ∀ k, k ≠ lb → Y.heap[k]? = w3.heap[k]?) := Lib.hid (by
          rw [hY]
          exact ⟨rfl, rfl, rfl, by simp, fun k hk => heap_setCell_other _ ⟨lb, 5, none⟩ k _ hk⟩)
        rw [← hY]
        clear hY hyb
        go_wp2_with fail
        have HFIN : Hid (AddP w base g s m x (add l b) (.returned (.tuple #[.int .i64 (N : Int), .int .i64 0])) (Y.setCell ⟨lb, 4, none⟩ (.int .i64 ((N : Int) + 1)))) := Lib.hid (by
          have hls := H.out.below HB2.out
          have hap : Sto.Apart W2 g m A1 := Sto.Apart.new (H.out.below HBV.out).st.r HO2.out
          have hvz : base ≤ V.heap.size := by have := H.out.lbb; have := H.out.lb_tag.lt; have := HBV.out.size; omega
          have hbt : ((⟨N, A1, c1, b⟩ : Bv)).bt = (l.next, b) := by rw [← HN.out]; rfl
          have hlen : (l.waiting ++ [(l.next, b)]).length = n2 := by rw [HN2.out, List.length_append, ← H.out.wt.bt, List.length_map]; rfl
          obtain ⟨y1, y2, y3, y4, y5⟩ := HYE.out
          have hm := LS.more (w' := Y.setCell ⟨lb, 4, none⟩ (.int .i64 ((N : Int) + 1))) (l' := { l with waiting := l.waiting ++ [(l.next, b)], next := l.next + 1 }) hls HG3.out (v := ⟨N, A1, c1, b⟩) (A := A2) (c := c2) (by rw [← HL2.out]; exact HO3.out) HAT.out
            ⟨HO2.out.rd, HO2.out.cap, HO2.out.cap_le, fun k e => ⟨Nat.le_trans hvz (HO2.out.blk_ge k e).1, Sto.ownTag HO2.out e⟩⟩ hap
            ⟨y1, y2, y3, Nat.le_trans y4 (by simp)⟩ (fun k hk hne => by
              rw [← HLB.out] at hne
              exact (heap_setCell_other _ ⟨lb, 4, none⟩ k _ hne).trans (y5 k hne)) (by
              have h9 := (heap_setL HYB.out (.int .i64 ((N : Int) + 1))).2.2.1
              unfold lgObj
              simp only
              rw [hlen, ← HLB.out, ← HN.out]
              exact h9) (by rw [hbt])
            ⟨H.out.ok.limit, H.out.ok.last, H.out.ok.size, ⟨by simp only; omega, by simp only; rw [← HN.out]; omega⟩, by
              simp only
              rw [hlen, HN2.out, ← HN.out]; omega, fun c hc => by
              simp only at hc
              rcases List.mem_append.1 hc with hc | hc
              · exact H.out.ok.one c hc
              · rw [List.mem_singleton] at hc
                rw [hc]
                exact ⟨by simp only; rw [← HN.out]; omega, by simp only; omega⟩⟩
          rw [HE.out]
          exact ⟨by rw [← HN.out], m, _, hm.1, (LAft.of_below HB2.out).trans hm.2⟩)
        go_ret2
        exact HFIN.out
  · have HE := Lib.hid (add_brk (l := l) b HO.out.symm)
    go_wp2_with fail
    go_ret2
    rw [HE.out]
    exact ⟨rfl, m, x, H.out, LAft.refl _ _ _ _⟩
theorem laft_same {x1 : Lm} (h : LS w base g s m l x) (ha : LAft w w' g m x m' x1) {k : Nat} {T : TypeId} (ht : Sto.Tag w k T) (hT : Alien T) (h2 : T ≠ 146) (h3 : T ≠ 151) : w'.heap[k]? = w.heap[k]? := by
  obtain ⟨cs, fr, hk⟩ := ht
  exact (laft_tag h ha hk hT h2 h3).trans hk.symm
end
end Wal
end Go.Proofs.YtekbdedpombgcaaGreatDoor

namespace Go.Proofs.YtekbdedpombgcaaGreatDoor
open Go.RowKit Go.Maps

/-- Bytes in a row of such. -/
structure Yv where
  A : Option Addr
  c : Nat
  b : List UInt8
def Yv.cells (v : Yv) : List Value := [.slice v.A v.b.length v.c]
theorem yvT : RT Tryz.prog 73 34 Yv.cells 1 24 (.slice none 0 0) :=
  ⟨Tryz.underlying73, by kernel_rfl, fun _ => rfl, fun v u hu => by simp [Yv.cells] at hu; subst hu; rfl, by omega, rfl⟩
theorem rd_yv_new (w : World) (v : Yv) : RdS Yv.cells 1 (w.alloc (.cells #[.slice v.A v.b.length v.c] 34)) (w.heap.size + 1) (some ⟨w.heap.size, 0, none⟩) [v] := by
  refine RdS.of (f := Yv.cells) (n := 1) (l := [v]) (fun _ => rfl) w.heap.size 0 (by omega) (fun k hk j u hu => ?_)
  obtain rfl : k = 0 := by simp at hk; omega
  have hj : j = 0 := by
    rcases Nat.lt_or_ge j 1 with h | h
    · omega
    · rw [List.getElem?_eq_none (by simp [Yv.cells]; omega)] at hu; cases hu
  subst hj
  have h1 := heap_alloc_new w (.cells #[.slice v.A v.b.length v.c] 34)
  rw [cell_of_row _ w.heap.size 0 _ _ (0, 0) h1, ← hu]; rfl
/-- Bytes that lie ahead of all, or in a row of bytes. -/
structure Yok (w : World) (B : Nat) (v : Yv) : Prop where
  rd : RdB w w.heap.size v.A v.b
  at_ : ∀ k, blk v.A = some k → k < w.heap.size ∧ (k < B ∨ Sto.Tag w k 5)
section
variable {w w' : World} {base g : Nat} {s : Sto.St} {m m' : Sto.Mem} {l : Wal.Lg} {x x' : Wal.Lm}
theorem Yok.keep {B : Nat} {v : Yv} (h : Yok w B v) (hs : w.heap.size ≤ w'.heap.size) (hk : ∀ k, blk v.A = some k → w'.heap[k]? = w.heap[k]?) : Yok w' B v :=
  ⟨rdB_keepS h.rd hs (fun k e _ => hk k e), fun k e => ⟨Nat.lt_of_lt_of_le (h.at_ k e).1 hs, (h.at_ k e).2.imp id (fun t => t.keep (hk k e))⟩⟩
theorem Yok.below {B : Nat} {v : Yv} (h : Yok w B v) (hb : Below w.heap.size w w') : Yok w' B v := h.keep hb.size (fun k e => hb.block k (h.at_ k e).1)
theorem Yok.not_lmut {v : Yv} (h : Yok w base v) (hp : Sto.Apart w g m v.A) (hs : Wal.LS w base g s m l x) {k : Nat} (hk : blk v.A = some k) : ¬ Wal.LMut g m x k := by
  rintro (h1 | h1 | h1)
  · exact (hp k hk).2 h1
  · rcases (h.at_ k hk).2 with h2 | h2
    · rw [h1] at h2; have := hs.lbb; omega
    · exact h2.ne hs.lb_tag (by decide) h1
  · rcases (h.at_ k hk).2 with h2 | h2
    · have := (hs.wt.row.blk_ge k h1).1; omega
    · exact h2.ne (Sto.ownTagS hs.wt.row h1) (by decide) rfl
theorem Yok.laft {v : Yv} (h : Yok w base v) (hp : Sto.Apart w g m v.A) (hs : Wal.LS w base g s m l x) (ha : Wal.LAft w w' g m x m' x') : Yok w' base v ∧ Sto.Apart w' g m' v.A :=
  ⟨h.keep ha.size (fun k e => ha.block k (h.at_ k e).1 (h.not_lmut hp hs e)), fun k e => ⟨Nat.lt_of_lt_of_le (h.at_ k e).1 ha.size, fun hm => h.not_lmut hp hs e (ha.turn k (h.at_ k e).1 (.inl hm))⟩⟩
theorem Aft0.of_aft (h : Sto.Aft w w' g m m') : Aft0 w w' g m m' := ⟨h.os, h.tape, h.output, h.size, h.block, h.turn⟩
theorem Aft0.of_below (hb : Below w.heap.size w w') : Aft0 w w' g m m := Aft0.of_aft (Sto.Aft.of_below hb)
/-- .. of a log that is new. -/
theorem Aft0.of_laft {w1 : World} {lb : Nat} {W : List Wal.Bv} (hb : Below w.heap.size w w1) (ha : Wal.LAft w1 w' g m ⟨lb, none, 0, W⟩ m' x') (hlb : w.heap.size ≤ lb) : Aft0 w w' g m m' :=
  ⟨ha.os.trans hb.os, ha.tape.trans hb.tape, ha.output.trans hb.output, Nat.le_trans hb.size ha.size, fun k hk hn => (ha.block k (Nat.lt_of_lt_of_le hk hb.size) (by
    rintro (h1 | h1 | h1)
    · exact hn h1
    · simp only at h1; omega
    · cases h1)).trans (hb.block k hk), fun k hk hm => by
    rcases ha.turn k (Nat.lt_of_lt_of_le hk hb.size) (.inl hm) with h1 | h1 | h1
    · exact h1
    · simp only at h1; omega
    · cases h1⟩
theorem Aft0.below (h : Aft0 w w' g m m') (hs : Sto.StAt w base g s m) : Below base w w' :=
  ⟨h.os, h.tape, h.output, h.size, fun k hk => by
    rcases Nat.lt_or_ge k w.heap.size with h1 | h1
    · exact h.block k h1 (fun hm => by have := (hs.r.mut_ge hm).1; omega)
    · have := hs.r.gb; have := hs.r.gt.lt; omega⟩
theorem Yok.aft {v : Yv} (h : Yok w base v) (hp : Sto.Apart w g m v.A) (ha : Aft0 w w' g m m') : Yok w' base v ∧ Sto.Apart w' g m' v.A :=
  ⟨h.keep ha.size (fun k e => ha.block k (h.at_ k e).1 (hp k e).2), fun k hk => ⟨Nat.lt_of_lt_of_le (hp k hk).1 ha.size, fun hm => (hp k hk).2 (ha.turn k (hp k hk).1 hm)⟩⟩
/-- A row of bytes. -/
structure Ys (w : World) (base g : Nat) (m : Sto.Mem) (A : Option Addr) (c : Nat) (Y : List Yv) : Prop where
  row : OwnS Yv.cells 1 w base 34 A c Y
  ok : ∀ v ∈ Y, Yok w base v ∧ Sto.Apart w g m v.A
theorem Ys.nil (w : World) (base g : Nat) (m : Sto.Mem) : Ys w base g m none 0 [] := ⟨OwnS.nil _ _ _, fun _ h => by cases h⟩
theorem Ys.below {A : Option Addr} {c : Nat} {Y : List Yv} (h : Ys w base g m A c Y) (hb : Below w.heap.size w w') : Ys w' base g m A c Y :=
  ⟨h.row.below hb, fun v hv => ⟨(h.ok v hv).1.below hb, fun k e => ⟨Nat.lt_of_lt_of_le ((h.ok v hv).2 k e).1 hb.size, ((h.ok v hv).2 k e).2⟩⟩⟩
theorem Ys.laft {A : Option Addr} {c : Nat} {Y : List Yv} (h : Ys w base g m A c Y) (hs : Wal.LS w base g s m l x) (ha : Wal.LAft w w' g m x m' x') : Ys w' base g m' A c Y :=
  ⟨h.row.keep (fun k e => Wal.laft_same hs ha (Sto.ownTagS h.row e) ⟨by decide, by decide, by decide, by decide, by decide, by decide⟩ (by decide) (by decide)), fun v hv => (h.ok v hv).1.laft (h.ok v hv).2 hs ha⟩
theorem Ys.aft {A : Option Addr} {c : Nat} {Y : List Yv} (h : Ys w base g m A c Y) (hs : Sto.StAt w base g s m) (ha : Aft0 w w' g m m') : Ys w' base g m' A c Y :=
  ⟨h.row.keep (fun k e => by
    have t := Sto.ownTagS h.row e
    exact ha.block k t.lt (fun hm => hs.not_foot t (by decide) (by decide) (by decide) (by decide) (by decide) (fun e => absurd e (by decide)) (.inl hm))), fun v hv => (h.ok v hv).1.aft (h.ok v hv).2 ha⟩
end
end Go.Proofs.YtekbdedpombgcaaGreatDoor

namespace Go.Proofs.YtekbdedpombgcaaGreatDoor
open Go.RowKit Go.Maps

theorem results_q4 {fn : Func} {t u v x : Tmp} (h : fn.results = #[.tmp t, .tmp u, .tmp v, .tmp x]) (tmps : Array Value) (P : Program) (w : World) :
    (results fn tmps).run P w = .ok (.tuple #[tmps.getD t undef, tmps.getD u undef, tmps.getD v undef, tmps.getD x undef]) w := by simp [results, h]
namespace Wal
/-- What Open comes to. -/
def OpensP (w : World) (base g : Nat) (m : Sto.Mem) (r : Int × Sto.St × Option (Lg × List Bt)) (e : Ending) (w' : World) : Prop :=
  (r.2.2 = none ∧ e = .returned (.tuple #[.pointer none, .int .i64 0, .slice none 0 0, .int .i64 r.1]) ∧ ∃ m', Sto.StAt w' base g r.2.1 m' ∧ Aft0 w w' g m m') ∨
  (∃ l bs lb A c Y m', r.2.2 = some (l, bs) ∧ r.1 = 0 ∧ e = .returned (.tuple #[.pointer (some ⟨lb, 0, none⟩), .int .i64 ((bs.head?.map (·.1)).getD 0 : Nat), .slice A Y.length c, .int .i64 0]) ∧ LS w' base g r.2.1 m' l ⟨lb, none, 0, []⟩ ∧ Aft0 w w' g m m' ∧ w.heap.size ≤ lb ∧ Y.map Yv.b = bs.map (·.2) ∧ Ys w' base g m' A c Y)
section
variable {w w' : World} {base g : Nat} {s : Sto.St} {m m' : Sto.Mem} {l : Lg} {x : Lm}
theorem opens_arg {limit : Int} (h : limit < 1 ∨ 65536 < limit) : opens s limit = (1, s, none) := by unfold opens; rw [if_pos h]
theorem opens_off {limit : Int} (h : ¬ (limit < 1 ∨ 65536 < limit)) (h2 : s.off = true) : opens s limit = (8, s, none) := by unfold opens; rw [if_neg h, if_pos h2]
theorem opens_bad {limit : Int} (h : ¬ (limit < 1 ∨ 65536 < limit)) (h2 : s.off = false) {L : Lg} (hL : L = ⟨limit.toNat, (files s).getLastD 0, 0, 1, [], false⟩) (h3 : (mk s L).1 ≠ 0) : opens s limit = ((mk s L).1, (mk s L).2.1, none) := by
  subst hL; unfold opens; rw [if_neg h, if_neg (by rw [h2]; simp)]; simp only; rw [if_pos h3]
theorem opens_yes {limit : Int} (h : ¬ (limit < 1 ∨ 65536 < limit)) (h2 : s.off = false) {L : Lg} (hL : L = ⟨limit.toNat, (files s).getLastD 0, 0, 1, [], false⟩) (h3 : (mk s L).1 = 0) : opens s limit = (0, (mk s L).2.1, some ({ (mk s L).2.2 with next := match (there s).getLast? with | none => 1 | some z => z.1 + 1 }, there s)) := by
  subst hL; unfold opens; rw [if_neg h, if_neg (by rw [h2]; simp)]; simp only; rw [if_neg (fun h => h h3)]; rfl
theorem gather_go (s : Sto.St) : ∀ (l : List Nat) (acc : List Bt), (∀ x ∈ acc, 1 ≤ x.1 ∧ x.1 ≤ 1099511627776) → ∀ x ∈ l.foldl (fun out n => join out (told s n)) acc, 1 ≤ x.1 ∧ x.1 ≤ 1099511627776
  | [], _, h => h
  | n :: l, acc, h => gather_go s l _ (fun x hx => by
    rcases join_mem hx with h1 | h1
    · exact h x h1
    · exact told_bd s n x h1)
theorem there_bd (s : Sto.St) : ∀ x ∈ there s, 1 ≤ x.1 ∧ x.1 ≤ 1099511627776 := gather_go s _ [] (fun _ h => by cases h)
theorem gather_len {w : World} {base g : Nat} {s : Sto.St} {m : Sto.Mem} (h : Sto.StAt w base g s m) : ∀ (l : List Nat) (acc : List Bt), (l.foldl (fun out n => join out (told s n)) acc).length ≤ acc.length + l.length * 16777216
  | [], _ => by simp
  | n :: l, acc => by
    have h1 := gather_len h l (join acc (told s n))
    have h2 := join_len acc (told s n)
    have h3 := told_len h n
    rw [List.foldl_cons, List.length_cons, Nat.succ_mul]
    omega
def yvOf (v : Bv) : Yv := ⟨v.A, v.c, v.b⟩
def nextOf (l : List Bv) : Nat := match l.getLast? with | none => 1 | some v => v.n + 1
theorem nextOf_snoc (l : List Bv) (v : Bv) : nextOf (l ++ [v]) = v.n + 1 := by unfold nextOf; simp
theorem nextOf_bt (l : List Bv) : (match (l.map Bv.bt).getLast? with | none => 1 | some z => z.1 + 1) = nextOf l := by
  unfold nextOf
  rw [List.getLast?_map]
  cases l.getLast? <;> rfl
/-- What lies in a round of Open's loop. -/
structure OpI (w5 : World) (lb g : Nat) (l5 : Lg) (LB : List Bv) (k : Nat) (OA : Option Addr) (oc : Nat) (Y : List Yv) (wr : World) : Prop where
  same : wr.os = w5.os ∧ wr.tape = w5.tape ∧ wr.output = w5.output ∧ w5.heap.size ≤ wr.heap.size
  hk : ∀ q, q < w5.heap.size → q ≠ lb → wr.heap[q]? = w5.heap[q]?
  hb : wr.heap[lb]? = some (lgObj g { l5 with next := nextOf (LB.take k) } ⟨lb, none, 0, []⟩)
  row : OwnS Yv.cells 1 wr w5.heap.size 34 OA oc Y
  eq : Y = (LB.take k).map yvOf
theorem OpI.step {w5 wr w8 : World} {lb g : Nat} {l5 : Lg} {LB : List Bv} {k oc c3 : Nat} {OA A3 : Option Addr} {Y : List Yv} {o1 o2 : Obj} (h : OpI w5 lb g l5 LB k OA oc Y wr) (hlb : lb < w5.heap.size) (hk : k < LB.length) (hg : ((wr.alloc o1).alloc o2).grownBy w8 (blk OA)) (ho : OwnS Yv.cells 1 w8 w5.heap.size 34 A3 c3 (Y ++ [yvOf LB[k]])) :
    (w8.heap[lb]? = some (lgObj g { l5 with next := nextOf (LB.take k) } ⟨lb, none, 0, []⟩)) ∧ OpI w5 lb g l5 LB (k + 1) A3 c3 (Y ++ [yvOf LB[k]]) (w8.setCell ⟨lb, 4, none⟩ (.int .i64 (((LB[k]).n + 1 : Nat) : Int))) := by
  have hb0 : Below wr.heap.size wr ((wr.alloc o1).alloc o2) := ((Below.refl _ _).alloc (Nat.le_refl _) o1).alloc (by simp) o2
  have hlr : lb < wr.heap.size := Nat.lt_of_lt_of_le hlb h.same.2.2.2
  have hne : ∀ q, q < w5.heap.size → some q ≠ blk OA := fun q hq e => by have := (h.row.blk_ge q e.symm).1; omega
  have h8 : ∀ q, q < w5.heap.size → w8.heap[q]? = wr.heap[q]? := fun q hq => (hg.block q (Nat.lt_of_lt_of_le (Nat.lt_of_lt_of_le hq h.same.2.2.2) hb0.size) (hne q hq)).trans (hb0.block q (Nat.lt_of_lt_of_le hq h.same.2.2.2))
  have hbx := (h8 lb hlb).trans h.hb
  refine ⟨hbx, ⟨⟨hg.os.trans h.same.1, hg.tape.trans h.same.2.1, hg.output.trans h.same.2.2.1, by
    have := h.same.2.2.2; have := hg.size; have := hb0.size; simp at *; omega⟩, fun q hq hne2 => ?_, ?_, ?_, ?_⟩⟩
  · exact (heap_setCell_other _ ⟨lb, 4, none⟩ q _ hne2).trans ((h8 q hq).trans (h.hk q hq hne2))
  · rw [List.take_succ_eq_append_getElem hk, nextOf_snoc]
    unfold lgObj at hbx ⊢
    exact (heap_setL hbx _).2.2.1
  · exact ho.keep (fun q e => heap_setCell_other _ ⟨lb, 4, none⟩ q _ (by have := (ho.blk_ge q e).1; show q ≠ lb; omega))
  · rw [h.eq, List.take_succ_eq_append_getElem hk, List.map_append]; rfl
theorem OpI.below {w5 wr X : World} {lb g : Nat} {l5 : Lg} {LB : List Bv} {k oc : Nat} {OA : Option Addr} {Y : List Yv} (h : OpI w5 lb g l5 LB k OA oc Y wr) (hlb : lb < w5.heap.size) (hb : Below wr.heap.size wr X) : OpI w5 lb g l5 LB k OA oc Y X := by
  obtain ⟨h1, h2, h3, h4⟩ := h.same
  exact ⟨⟨hb.os.trans h1, hb.tape.trans h2, hb.output.trans h3, Nat.le_trans h4 hb.size⟩, fun q hq hn => (hb.block q (Nat.lt_of_lt_of_le hq h4)).trans (h.hk q hq hn), (hb.block lb (Nat.lt_of_lt_of_le hlb h4)).trans h.hb, h.row.below hb, h.eq⟩
theorem rd_bt_cells {w : World} {LB : List Bv} {A : Option Addr} {c B : Nat} (h : OwnS Bv.cells 2 w B 151 A c LB) {k : Nat} (hk : k < LB.length) : ∃ b off, A = some ⟨b, off, none⟩ ∧ w.cell? ⟨b, off + k * 2, none⟩ = some (.int .i64 ((LB[k]).n : Int)) ∧ w.cell? ⟨b, off + k * 2 + 1, none⟩ = some (.slice (LB[k]).A (LB[k]).b.length (LB[k]).c) := by
  obtain ⟨b, off, hA, _, hc⟩ := RdS.row (f := Bv.cells) (n := 2) (fun _ => rfl) (by omega) h.rd (by omega)
  have c0 := hc k hk 0 _ rfl
  have c1 := hc k hk 1 _ rfl
  rw [Nat.add_zero] at c0
  exact ⟨b, off, hA, c0, c1⟩
/-- The log ahead of its file. -/
def lg0 (n L : Nat) : Lg := ⟨n, L, 0, 1, [], false⟩
structure OpA (w : World) (g : Nat) (L : Lg) (A : Option Addr) (c : Nat) (fs : List Nat) (wx : World) : Prop where
  box : wx.heap[w.heap.size]? = some (lgObj g L ⟨w.heap.size, none, 0, []⟩)
  fr : OwnS N1 1 wx w.heap.size 143 A c fs
  below : Below w.heap.size w wx
theorem OpA.call {L : Lg} {A : Option Addr} {c : Nat} {fs : List Nat} {wx w1 : World} (h : OpA w g L A c fs wx) (hb : Below wx.heap.size wx w1) : OpA w g L A c fs w1 :=
  ⟨(hb.block _ (Array.getElem?_eq_some_iff.1 h.box).1).trans h.box, h.fr.below hb, h.below.trans (hb.mono h.below.size)⟩
theorem OpA.tag {L : Lg} {A : Option Addr} {c : Nat} {fs : List Nat} {wx : World} (h : OpA w g L A c fs wx) : Sto.Tag wx w.heap.size 146 := ⟨_, _, h.box⟩
theorem OpA.setLast {n L : Nat} {A : Option Addr} {c : Nat} {fs : List Nat} {wx : World} (h : OpA w g (lg0 n 0) A c fs wx) : OpA w g (lg0 n L) A c fs (wx.setCell ⟨w.heap.size, 2, none⟩ (.int .i64 (L : Int))) := by
  have h1 := h.box
  unfold lgObj at h1
  exact ⟨(heap_setL h1 (.int .i64 (L : Int))).1, h.fr.keep (fun k e => heap_setCell_other _ ⟨w.heap.size, 2, none⟩ k _ ((Sto.ownTagS h.fr e).ne h.tag (by decide))), h.below.setCell (Nat.le_refl _) _⟩
theorem OpA.ls {L : Lg} {A : Option Addr} {c : Nat} {fs : List Nat} {wx : World} (h : OpA w g L A c fs wx) (hs : Sto.StAt w base g s m) (hbw : base ≤ w.heap.size) (hL : L.waiting = []) (hok : LgOk L) : LS wx base g s m L ⟨w.heap.size, none, 0, []⟩ :=
  ⟨hs.below h.below, h.box, hbw, ⟨OwnS.nil _ _ _, hL.symm, Bys.nil _ _, fun v hv => by cases hv⟩, hok⟩
set_option maxHeartbeats 1000000 in
set_option maxRecDepth 100000 in
theorem opens_any (h : Sto.StAt w base g s m) (ht : TabU base w) (hbw : base ≤ w.heap.size) (limit : Int) (hl : s.kept.length ≤ 400000) (hf : s.files.length ≤ 100000) :
    Calls Tryz.prog 17 #[.pointer (some ⟨g, 0, none⟩), .int .i64 limit] w (OpensP w base g m (opens s limit)) := by
  have H := Lib.hid h
  have KO := Lib.hid (Sto.off_any h)
  have KF := Lib.hid (fun W (hb : Below w.heap.size w W) => files_any (h.below hb) (by omega))
  have KT := Lib.hid (fun W (hb : Below w.heap.size w W) => there_any (h.below hb) (ht.keep (hb.mono hbw)).tab)
  obtain ⟨o, ho⟩ : ∃ o, o = s.off := ⟨_, rfl⟩
  rw [← ho] at KO
  have HO := Lib.hid ho
  clear h ho
  go_enter Tryz.func17, Tryz.ntmps17
  by_cases h1 : limit < 1
  · have e1 : decide (limit < 1) = true := by simpa using h1
    have HE := Lib.hid (opens_arg (s := s) (limit := limit) (.inl h1))
    go_wp2_with fail
    exact bodyPost_ret (results_q4 rfl _ _ _) rfl (by rw [HE.out]; exact .inl ⟨rfl, rfl, m, H.out, Aft0.of_below (Below.refl _ _)⟩)
  · by_cases h2 : (65536 : Int) < limit
    · have HE := Lib.hid (opens_arg (s := s) (limit := limit) (.inr h2))
      go_wp2_with fail
      exact bodyPost_ret (results_q4 rfl _ _ _) rfl (by rw [HE.out]; exact .inl ⟨rfl, rfl, m, H.out, Aft0.of_below (Below.refl _ _)⟩)
    · go_wp2_with fail
      refine KO.out.mono ?_
      rintro e w1 ⟨rfl, rfl⟩
      have HN : Hid (¬ (limit < 1 ∨ 65536 < limit)) := Lib.hid (by omega)
      rcases o with _ | _
      · obtain ⟨n, rfl⟩ := Int.eq_ofNat_of_zero_le (show 0 ≤ limit by omega)
        go_wp2_with fail
        obtain ⟨V, hV⟩ : ∃ V, w1.alloc (.cells #[.pointer (some ⟨g, 0, none⟩), .int .i64 (n : Int), .int .i64 0, .int .i64 0, .int .i64 1, .slice none 0 0, .bool false] 146) = V := ⟨_, rfl⟩
        have hbV : Below w1.heap.size w1 V := by rw [← hV]; exact (Below.refl _ _).alloc (Nat.le_refl _) _
        have hxV : V.heap[w1.heap.size]? = some (lgObj g (lg0 n 0) ⟨w1.heap.size, none, 0, []⟩) := by rw [← hV]; exact heap_alloc_new w1 _
        have KF1 := Lib.hid (KF.out V hbV)
        have HBV := Lib.hid hbV
        have HXV := Lib.hid hxV
        rw [hV]
        clear hV hbV hxV KF
        refine KF1.out.mono ?_
        rintro e w2 ⟨A2, c2, rfl, ho2, hb2⟩
        have HA2 : Hid (OpA w1 g (lg0 n 0) A2 c2 (files s) w2) := Lib.hid ⟨(hb2.block _ (Array.getElem?_eq_some_iff.1 HXV.out).1).trans HXV.out, ho2.mono HBV.out.size, HBV.out.trans (hb2.mono HBV.out.size)⟩
        obtain ⟨fs, hfs⟩ : ∃ fs, fs = files s := ⟨_, rfl⟩
        have HFS := Lib.hid hfs
        rw [← hfs] at HA2 ⊢
        clear ho2 hb2 hfs KF1
        go_upto_if 37 with fail
        go_cut [] (fun wx => Hid (OpA w1 g (lg0 n (fs.getLastD 0)) A2 c2 fs wx))
        case first =>
          have b0 := HA2.out.box
          unfold lgObj at b0
          have t2 : w2.cell? ⟨w1.heap.size, 2, none⟩ = some (.int .i64 0) := by rw [cell_of_row w2 _ 2 _ _ (0, 0) b0]; rfl
          have f2 : w2.frozen? ⟨w1.heap.size, 2, none⟩ = false := frozen_of_row w2 _ 2 _ _ b0
          clear b0
          rcases Nat.eq_zero_or_pos fs.length with h0 | hpos
          · have e3 : decide (0 < fs.length) = false := decide_eq_false (by omega)
            have HE : Hid (lg0 n (fs.getLastD 0) = lg0 n 0) := Lib.hid (by rw [List.eq_nil_of_length_eq_zero h0]; rfl)
            have h0' : ¬ 0 < fs.length := by omega
            clear h0
            go_wp2_with fail
            go_meet
            exact Lib.hid (by rw [HE.out]; exact HA2.out)
          · have e3 : decide (0 < fs.length) = true := decide_eq_true hpos
            obtain ⟨b3, off3, hA3, _, hc3⟩ := RdS.row (f := N1) (n := 1) (fun _ => rfl) (by omega) HA2.out.fr.rd (by omega)
            have hjl : fs.length - 1 < fs.length := by omega
            have r3 := hc3 (fs.length - 1) hjl 0 _ rfl
            rw [Nat.add_zero, Nat.mul_one] at r3
            obtain ⟨L, hL⟩ : ∃ L, L = fs[fs.length - 1] := ⟨_, rfl⟩
            rw [← hL] at r3
            have HLL : Hid (fs.getLastD 0 = L) := Lib.hid (by rw [List.getLastD_eq_getLast?, List.getLast?_eq_getElem?, List.getElem?_eq_getElem hjl, ← hL]; rfl)
            have hfl : fs.length ≤ 100000 := by
              rw [HFS.out]
              have h1 := filesOf_len (Sto.names s)
              have h2 : (Sto.names s).length ≤ s.files.length := by unfold Sto.names; rw [List.length_map]; exact H.out.r.ok.gnow.len
              have h3 : filesOf (Sto.names s) = files s := rfl
              rw [h3] at h1
              omega
            subst hA3
            clear hc3 hL hjl
            go_wp2_with fail
            go_meet
            exact Lib.hid (by rw [HLL.out]; exact HA2.out.setLast)
        case rest =>
          have HA3 := hcut
          have hfn : ∀ k ∈ fs, k < 1000000 := fun k hk => by
            rw [HFS.out] at hk
            unfold files at hk
            obtain ⟨hk, _⟩ := List.mem_filter.1 hk
            obtain ⟨q, _, rfl⟩ := List.mem_map.1 hk
            exact numbered_bd q
          have hfl : fs.length ≤ 100000 := by
            rw [HFS.out]
            have h1 := filesOf_len (Sto.names s)
            have h2 : (Sto.names s).length ≤ s.files.length := by unfold Sto.names; rw [List.length_map]; exact H.out.r.ok.gnow.len
            have h3 : filesOf (Sto.names s) = files s := rfl
            rw [h3] at h1
            omega
          have KT1 := Lib.hid (KT.out wc HA3.out.below A2 c2 fs HA3.out.fr.rd hfn hfl)
          obtain ⟨L, hL⟩ : ∃ L, L = lg0 n (fs.getLastD 0) := ⟨_, rfl⟩
          have HL := Lib.hid hL
          rw [← hL] at HA3
          have HLok : Hid (LgOk L) := Lib.hid (by
            rw [hL]
            refine ⟨by show n ≤ 65536; omega, ?_, Nat.zero_le _, ⟨Nat.le_refl _, by show 1 ≤ 1099511627777; decide⟩, Nat.zero_lt_one, fun b hb => by cases hb⟩
            show fs.getLastD 0 ≤ 999999
            rw [List.getLastD_eq_getLast?]
            rcases hg : fs.getLast? with _ | q
            · exact Nat.zero_le _
            · have := hfn q (List.mem_of_getLast? hg)
              simp only [Option.getD_some]; omega)
          obtain ⟨F, hF⟩ : ∃ F, F = gather s fs := ⟨_, rfl⟩
          have HF : Hid (F = there s) := Lib.hid (by rw [hF, HFS.out]; rfl)
          rw [← hF] at KT1
          clear hL hfn hfl hF hcut
          go_wp2_with fail
          refine KT1.out.mono ?_
          rintro e w4 ⟨A4, c4, LB, rfl, hLB, hOB, hBB, hb4⟩
          have HA4 := Lib.hid (HA3.out.call hb4)
          have HLB := Lib.hid hLB
          have HOB := Lib.hid hOB
          have HBB := Lib.hid hBB
          have hFl : F.length = LB.length := by rw [← hLB, List.length_map]
          have HLS := Lib.hid (HA4.out.ls H.out hbw (by rw [HL.out]; rfl) HLok.out)
          have KM := Lib.hid (make_any HLS.out (ht.keep (HA4.out.below.mono hbw)) (by omega) (by omega))
          rw [hFl]
          simp only at KM
          clear hLB hOB hBB hb4 hFl KT1
          go_wp2_with fail
          refine KM.out.mono ?_
          rintro e w5 ⟨rfl, m5, hls5, haf5⟩
          have HS5 := Lib.hid hls5
          have HF5 := Lib.hid haf5
          have HA0 : Hid (Aft0 w1 w5 g m m5) := Lib.hid (Aft0.of_laft HA4.out.below haf5 (Nat.le_refl _))
          obtain ⟨c, hc⟩ : ∃ c, c = (mk s L).1 := ⟨_, rfl⟩
          have HC := Lib.hid hc
          rw [← hc]
          clear hls5 haf5 hc KM
          have HL0 : Hid (L = ⟨((n : Int)).toNat, (files s).getLastD 0, 0, 1, [], false⟩) := Lib.hid (by rw [HL.out, HFS.out, Int.toNat_natCast]; rfl)
          by_cases hcz : c = 0
          · have e1 : (c == 0) = true := by rw [hcz]; rfl
            have e2 : (c != 0) = false := by rw [hcz]; rfl
            have HE := Lib.hid (opens_yes HN.out HO.out.symm HL0.out (by rw [← HC.out, hcz]))
            clear hcz
            obtain ⟨l5, hl5⟩ : ∃ l5, l5 = (mk s L).2.2 := ⟨_, rfl⟩
            have HL5 : Hid (l5.waiting = [] ∧ l5.next = 1 ∧ LgOk l5) := Lib.hid (by
              have h1 := mk_lg (s := s) (l := L)
              rw [← hl5] at h1
              refine ⟨h1.2.1.trans (by rw [HL.out]; rfl), h1.2.2.2.1.trans (by rw [HL.out]; rfl), by rw [hl5]; exact HS5.out.ok⟩)
            rw [← hl5] at HS5 HE
            have hnot : ∀ q T, Sto.Tag w4 q T → T = 151 → ¬ LMut g m ⟨w1.heap.size, none, 0, []⟩ q := fun q T t e => by
              rw [e] at t
              rintro (h1 | h1 | h1)
              · exact not_foot_bt HLS.out.st t (.inl h1)
              · exact t.ne HLS.out.lb_tag (by decide) h1
              · cases h1
            have HOB5 : Hid (OwnS Bv.cells 2 w5 w1.heap.size 151 A4 c4 LB) := Lib.hid (by
              have h1 : w1.heap.size ≤ wc.heap.size := HA3.out.below.size
              exact (HOB.out.keep (fun q e => HF5.out.block q (Sto.ownTagS HOB.out e).lt (hnot q _ (Sto.ownTagS HOB.out e) rfl))).mono h1)
            have HYK : Hid (∀ v ∈ LB, Yok w5 base (yvOf v) ∧ Sto.Apart w5 g m5 v.A) := Lib.hid (fun v hv => by
              obtain ⟨b1, b2, b3, b4⟩ := HBB.out.ok v hv
              have hy : Yok w4 base (yvOf v) := ⟨b1, fun q e => ⟨(b4 q e).2.lt, .inr (b4 q e).2⟩⟩
              have hp : Sto.Apart w4 g m v.A := fun q e => ⟨(b4 q e).2.lt, fun hm => by
                have h2 := (H.out.r.mut_ge hm).2
                have h3 := (b4 q e).1
                have h4 := HA3.out.below.size
                omega⟩
              exact hy.laft hp HLS.out HF5.out)
            clear hl5 hnot
            rcases Nat.eq_zero_or_pos LB.length with h0 | hpos
            · have e3 : ((LB.length : Int) == 0) = true := by rw [h0]; rfl
              have HF0 : Hid (there s = []) := Lib.hid (by rw [← HF.out, ← HLB.out, List.eq_nil_of_length_eq_zero h0]; rfl)
              clear h0
              go_wp2_with fail
              exact bodyPost_ret (results_q4 rfl _ _ _) rfl (by
                rw [HE.out, HF0.out]
                refine .inr ⟨_, [], w1.heap.size, none, 0, [], m5, rfl, rfl, rfl, ?_, HA0.out, Nat.le_refl _, rfl, Ys.nil _ _ _ _⟩
                have e4 : ({ l5 with next := 1 } : Lg) = l5 := by rw [← HL5.out.2.1]
                simp only [List.getLast?_nil]
                rw [e4]
                exact HS5.out)
            · have e3 : ((LB.length : Int) == 0) = false := beq_eq_false_iff_ne.2 (by omega)
              have HNB : Hid (∀ v ∈ LB, v.n ≤ 1099511627776) := Lib.hid (fun v hv => (there_bd s v.bt (by rw [← HF.out, ← HLB.out]; exact List.mem_map_of_mem hv)).2)
              have HLZ : Hid (w1.heap.size < w5.heap.size) := Lib.hid HS5.out.lb_tag.lt
              have HLL : Hid (LB.length ≤ 1677721600000) := Lib.hid (by
                have h1 := gather_len H.out (files s) []
                have h2 := filesOf_len (Sto.names s)
                have h3 : (Sto.names s).length ≤ s.files.length := by unfold Sto.names; rw [List.length_map]; exact H.out.r.ok.gnow.len
                have h4 : filesOf (Sto.names s) = files s := rfl
                rw [h4] at h2
                have h5 : (there s).length = LB.length := by rw [← HF.out, ← HLB.out, List.length_map]
                have h6 : (files s).foldl (fun out n => join out (told s n)) [] = there s := rfl
                rw [h6, h5] at h1
                have h7 : (files s).length * 16777216 ≤ 100000 * 16777216 := Nat.mul_le_mul_right _ (by omega)
                simp only [List.length_nil] at h1
                omega)
              obtain ⟨lb, hlb⟩ : ∃ lb, lb = w1.heap.size := ⟨_, rfl⟩
              have HLB2 := Lib.hid hlb
              have HI0 : Hid (OpI w5 w1.heap.size g l5 LB 0 none 0 [] w5) := Lib.hid ⟨⟨rfl, rfl, rfl, Nat.le_refl _⟩, fun _ _ _ => rfl, by
                have h1 := HS5.out.box
                have e4 : ({ l5 with next := nextOf (LB.take 0) } : Lg) = l5 := by
                  have e5 : nextOf (LB.take 0) = l5.next := by rw [HL5.out.2.1]; rfl
                  rw [e5]
                rw [e4]; exact h1, OwnS.nil _ _ _, rfl⟩
              rw [← hlb] at HI0 ⊢
              clear hlb
              have hll := HLL.out
              go_wp2_with fail
              go_loopw [12, 61] (fun o i wr => ∃ (k oc : Nat) (OA : Option Addr) (Y : List Yv), k ≤ LB.length ∧ i = .int .i64 (k : Int) ∧ o = .slice OA Y.length oc ∧ Hid (Y.length = k) ∧ Hid (OpI w5 lb g l5 LB k OA oc Y wr)) (fun _ i _ => LB.length - (intOf i).toNat)
              case atStart => exact ⟨0, 0, none, [], by omega, rfl, rfl, Lib.hid rfl, HI0⟩
              case round =>
                obtain ⟨k, oc, OA, Y, hk, rfl, rfl, HYN, HI⟩ := hrel
                by_cases hlt : k < LB.length
                · have hrow : OwnS Bv.cells 2 wr w1.heap.size 151 A4 c4 LB := HOB5.out.keep (fun q e => by
                    have t := Sto.ownTagS HOB5.out e
                    exact HI.out.hk q t.lt (by rw [HLB2.out]; exact t.ne HS5.out.lb_tag (by decide)))
                  obtain ⟨b, off, hA, c0, c1⟩ := rd_bt_cells hrow hlt
                  have hvn := HNB.out LB[k] (List.getElem_mem hlt)
                  have HV : Hid (∃ v : Bv, v = LB[k]) := Lib.hid ⟨_, rfl⟩
                  obtain ⟨v, hv⟩ := HV.out
                  rw [← hv] at c0 c1 hvn
                  have HV2 := Lib.hid hv
                  obtain ⟨vn, vA, vc, vb⟩ := v
                  simp only at c0 c1 hvn
                  subst hA
                  clear hv hrow
                  have hrd : RdS Yv.cells 1 ((wr.alloc (.cells #[.int .i64 (vn : Int), .slice vA vb.length vc] 151)).alloc (.cells #[.slice vA vb.length vc] 34)) (wr.heap.size + 2) (some ⟨wr.heap.size + 1, 0, none⟩) [⟨vA, vc, vb⟩] := by
                    have h9 := rd_yv_new (wr.alloc (.cells #[.int .i64 (vn : Int), .slice vA vb.length vc] 151)) ⟨vA, vc, vb⟩
                    rw [World.size_alloc] at h9
                    exact h9
                  have HRD := Lib.hid hrd
                  have HLR : Hid (lb < w5.heap.size) := Lib.hid (by rw [HLB2.out]; exact HLZ.out)
                  have hsz := HI.out.same.2.2.2
                  have hyn : Y.length = k := HYN.out
                  have HNE : Hid (∀ q, q < w5.heap.size → some q ≠ blk OA) := Lib.hid (fun q hq e => by have := (HI.out.row.blk_ge q e.symm).1; omega)
                  have HOLT : Hid (∀ q, blk OA = some q → q < wr.heap.size) := Lib.hid (fun q e => (HI.out.row.blk_ge q e).2)
                  have hyb : Y.length ≤ 1677721600000 := by omega
                  clear hrd hyn
                  have HST : Hid (∀ (w8 : World) (A3 : Option Addr) (c3 : Nat) (L8 : List Yv), L8 = Y ++ [⟨vA, vc, vb⟩] → ((wr.alloc (.cells #[.int .i64 (vn : Int), .slice vA vb.length vc] 151)).alloc (.cells #[.slice vA vb.length vc] 34)).grownBy w8 (blk OA) → OwnS Yv.cells 1 w8 w5.heap.size 34 A3 c3 L8 →
                      (w8.cell? ⟨wr.heap.size, 0, none⟩ = some (.int .i64 (vn : Int)) ∧ w8.cell? ⟨lb, 4, none⟩ = some (.int .i64 ((nextOf (LB.take k) : Nat) : Int)) ∧ w8.frozen? ⟨lb, 4, none⟩ = false) ∧ OpI w5 lb g l5 LB (k + 1) A3 c3 L8 (w8.setCell ⟨lb, 4, none⟩ (.int .i64 ((vn + 1 : Nat) : Int)))) := Lib.hid (fun w8 A3 c3 L8 hL hg ho => by
                    subst hL
                    have h9 := HI.out.step HLR.out hlt hg (by rw [← HV2.out]; exact ho)
                    rw [← HV2.out] at h9
                    have hz : w8.heap[wr.heap.size]? = some (.cells #[.int .i64 (vn : Int), .slice vA vb.length vc] 151) := by
                      rw [hg.block _ (by simp; omega) (fun e => by have := HOLT.out _ e.symm; omega), Below.heap_alloc _ _ _ (by simp)]
                      exact heap_alloc_new wr _
                    have h8 := h9.1
                    unfold lgObj at h8
                    exact ⟨⟨by rw [cell_of_row w8 _ 0 _ _ (0, 0) hz]; rfl, by rw [cell_of_row w8 lb 4 _ _ (0, 0) h8]; rfl, frozen_of_row w8 lb 4 _ _ h8⟩, h9.2⟩)
                  have ew : IntKind.i64.wrap ((vn : Int) + 1) = ((vn + 1 : Nat) : Int) := by rw [IntKind.wrap_i64]; omega
                  go_wp2_with (at_builtin; refine wpList_append_s _ rfl _ _ yvT rfl w5.heap.size OA oc Y rfl ((HI.out.row.alloc _).alloc _) (wr.heap.size + 2) (some ⟨wr.heap.size + 1, 0, none⟩) 1 1 [⟨vA, vc, vb⟩] rfl rfl HRD.out (by simp; omega) (by unfold maxLen; simp; omega) (by simp; omega) ?_; intro A8 c8 L8 w8 hl8 ho8 hg8 hat8; obtain ⟨z0, z4, z5⟩ := (HST.out w8 A8 c8 L8 hl8 hg8 ho8).1; have HGO := Lib.hid hg8; have HOO := Lib.hid ho8; have HLO := Lib.hid hl8; clear hg8 ho8 hl8)
                  exact ⟨⟨k + 1, c8, A8, L8, hlt, by simp, by rw [HLO.out], Lib.hid (by rw [HLO.out, List.length_append, HYN.out]; rfl), Lib.hid (HST.out w8 A8 c8 L8 HLO.out HGO.out HOO.out).2⟩, by simp only [intOf]; omega⟩
                · have hke : k = LB.length := by omega
                  have HKE := Lib.hid hke
                  have hrow : OwnS Bv.cells 2 wr w1.heap.size 151 A4 c4 LB := HOB5.out.keep (fun q e => by
                    have t := Sto.ownTagS HOB5.out e
                    exact HI.out.hk q t.lt (by rw [HLB2.out]; exact t.ne HS5.out.lb_tag (by decide)))
                  obtain ⟨b, off, hA, c0, c1⟩ := rd_bt_cells hrow hpos
                  rw [Nat.zero_mul, Nat.add_zero] at c0
                  obtain ⟨z, hz⟩ : ∃ z, z = (LB[0]).n := ⟨_, rfl⟩
                  rw [← hz] at c0
                  have HZ : Hid ((((there s).head?.map (·.1)).getD 0 : Nat) = z) := Lib.hid (by rw [← HF.out, ← HLB.out, head_bt hpos, hz]; rfl)
                  subst hA
                  clear hrow c1 hz hke
                  go_wp2_with fail
                  go_quiet (fail)
                  refine Sto.drewN_of (fun X hbX hXh => ?_)
                  have HI := Lib.hid (HI.out.below (by rw [HLB2.out]; exact HLZ.out) hbX)
                  clear hbX hXh c0
                  go_wp2_with fail
                  refine bodyPost_ret (results_q4 rfl _ _ _) rfl ?_
                  have hlbw := HLB2.out
                  subst hlbw
                  obtain ⟨s1, s2, s3, s4⟩ := HI.out.same
                  have hbx := HI.out.hb
                  rw [HKE.out, List.take_length] at hbx
                  have hnx : nextOf LB ≤ 1099511627777 ∧ 1 ≤ nextOf LB := by
                    unfold nextOf
                    rcases hg : LB.getLast? with _ | q
                    · exact ⟨by decide, Nat.le_refl _⟩
                    · have := HNB.out q (List.mem_of_getLast? hg)
                      simp only; omega
                  have hok5 := HL5.out.2.2
                  have hls := (HS5.out.turn (l' := { l5 with next := nextOf LB }) s1 s2 s3 s4 HI.out.hk hbx rfl ⟨hok5.limit, hok5.last, hok5.size, ⟨hnx.2, hnx.1⟩, by simp only; rw [HL5.out.1]; exact hnx.2, hok5.one⟩).1
                  have ha : Aft0 w1 X g m m5 := ⟨s1.trans HA0.out.os, s2.trans HA0.out.tape, s3.trans HA0.out.output, Nat.le_trans HA0.out.size s4, fun q hq hn => (HI.out.hk q (by have := HLZ.out; omega) (Nat.ne_of_lt hq)).trans (HA0.out.block q hq hn), HA0.out.turn⟩
                  have hb5 : base ≤ w5.heap.size := by have := HLZ.out; omega
                  have hY : Y = LB.map yvOf := by rw [HI.out.eq, HKE.out, List.take_length]
                  rw [HE.out]
                  refine .inr ⟨_, there s, w1.heap.size, OA, oc, Y, m5, rfl, rfl, by rw [HZ.out]; rfl, ?_, ha, Nat.le_refl _, ?_, HI.out.row.mono hb5, fun v hv => ?_⟩
                  · have e9 : (match (there s).getLast? with | none => 1 | some z => z.1 + 1) = nextOf LB := by rw [← HF.out, ← HLB.out]; exact nextOf_bt LB
                    rw [e9]
                    exact hls
                  · rw [hY, ← HF.out, ← HLB.out, List.map_map, List.map_map]; rfl
                  · rw [hY] at hv
                    obtain ⟨u, hu, rfl⟩ := List.mem_map.1 hv
                    obtain ⟨y1, y2⟩ := HYK.out u hu
                    refine ⟨y1.keep s4 (fun q e => HI.out.hk q (y1.at_ q e).1 (fun e2 => ?_)), fun q e => ⟨Nat.lt_of_lt_of_le (y2 q e).1 s4, (y2 q e).2⟩⟩
                    rcases (y1.at_ q e).2 with h3 | h3
                    · omega
                    · exact h3.ne HS5.out.lb_tag (by decide) e2
          · have e1 : (c == 0) = false := by simpa using hcz
            have e2 : (c != 0) = true := by simpa using hcz
            have HE := Lib.hid (opens_bad HN.out HO.out.symm HL0.out (by rw [← HC.out]; exact hcz))
            clear hcz
            go_wp2_with fail
            exact bodyPost_ret (results_q4 rfl _ _ _) rfl (by rw [HE.out, ← HC.out]; exact .inl ⟨rfl, rfl, m5, HS5.out.st, HA0.out⟩)
      · have HE := Lib.hid (opens_off HN.out HO.out.symm)
        go_wp2_with fail
        exact bodyPost_ret (results_q4 rfl _ _ _) rfl (by rw [HE.out]; exact .inl ⟨rfl, rfl, m, H.out, Aft0.of_below (Below.refl _ _)⟩)
end
end Wal
end Go.Proofs.YtekbdedpombgcaaGreatDoor
