/- Parts of the proof, one behind the other: Contracts of the log: the steps of Retire.; Rows of bytes in memory, beside a store and a log.; Contracts of the log: Skip, Next, Waiting, Add.; Contracts of the log: Open. -/
import Derived.Test.YtaiokogbhfliiaaGreatDoorMrg38
import Derived.Test.YtaiokogbhfliiaaGreatDoorMrg36
import Derived.Test.YtaiokogbhfliiaaGreatDoorMrg34
import Derived.Test.YtaiokogbhfliiaaGreatDoorMrg32
import Derived.Deep.DeepCutAuto
namespace Go.Proofs.YtaiokogbhfliiaaGreatDoor
open Go.RowKit Go.Maps

namespace Wal
section
variable {w w' : World} {base g : Nat} {s : Sto.St} {m m' : Sto.Mem} {l : Lg} {x : Lm}
set_option maxHeartbeats 1000000 in
set_option maxRecDepth 100000 in
theorem retire1_any (h : LS w base g s m l x) (ht : TabU base w) (hl : s.kept.length ≤ 1000000) (n : Nat) (hn : n < 1000000) (y v : Nat) (hy : w.heap[y]? = some (.cells #[.pointer (some ⟨x.lb, 0, none⟩)] 31)) (hv : w.heap[v]? = some (.cells #[.int .i64 (n : Int)] 84)) :
    Calls Tryz.prog 76 #[.pointer (some ⟨y, 0, none⟩), .pointer (some ⟨v, 0, none⟩)] w (Sto.OpP w base g m (Sto.remove s (name n))) := by
  have H := Lib.hid h
  obtain ⟨N, hN⟩ : ∃ N, N = name n := ⟨_, rfl⟩
  have HNl : N.length ≤ maxLen := by rw [hN, name_len]; unfold maxLen; omega
  have KN := Lib.hid (fun p : BelowW w => p.calls (name_any n hn p.X (ht.tab.below p.hb) N hN))
  rw [← hN]
  have q0 : w.cell? ⟨y, 0, none⟩ = some (.pointer (some ⟨x.lb, 0, none⟩)) := by rw [cell_of_row w y 0 _ _ (0, 0) hy]; rfl
  have q1 : w.cell? ⟨v, 0, none⟩ = some (.int .i64 (n : Int)) := by rw [cell_of_row w v 0 _ _ (0, 0) hv]; rfl
  obtain ⟨c0, _, _, _, _, _, _⟩ := h.cells
  have KC := Lib.hid (fun w1 (hb1 : Below w.heap.size w w1) => Sto.remove_any N HNl w1 base g s m (h.st.below hb1) hl)
  have d0 : ∀ p : BelowW w, p.X.cell? ⟨y, 0, none⟩ = some (.pointer (some ⟨x.lb, 0, none⟩)) := fun p => (p.hb.cell (p := ⟨y, 0, none⟩) (Array.getElem?_eq_some_iff.1 hy).1).trans q0
  have d3 : ∀ p : BelowW w, p.X.cell? ⟨v, 0, none⟩ = some (.int .i64 (n : Int)) := fun p => (p.hb.cell (p := ⟨v, 0, none⟩) (Array.getElem?_eq_some_iff.1 hv).1).trans q1
  have d1 : ∀ p : BelowW w, p.X.cell? ⟨x.lb, 0, none⟩ = some (.pointer (some ⟨g, 0, none⟩)) := fun p => (p.hb.cell (p := ⟨x.lb, 0, none⟩) h.lb_tag.lt).trans c0
  clear h ht hy hv hN q0 q1 c0
  go_enter Tryz.func76, Tryz.ntmps76
  go_wp2_with fail
  refine wp_region_below_tail 6 (by kernel_rfl) (by kernel_rfl) ?_
  repeat (refine wpQuiet_step (fun K hK => ?_); go_simp; first | (refine hK _ ?_; clear hK K) | (apply Exists.intro; refine ⟨fun _ => ?_, hK _ ?_⟩; (exact KN.out _); clear hK K))
  refine wpQuiet_nil ?_
  rintro _ ⟨p, rfl⟩
  obtain ⟨w1, hb1⟩ := p
  have KC1 := Lib.hid (KC.out w1 hb1)
  have HB1 := Lib.hid hb1
  simp only [List.drop_succ_cons, List.drop_zero]
  clear hb1 d0 d1 d3 KN KC
  go_wp2_with fail
  refine KC1.out.mono ?_
  rintro e w2 ⟨rfl, m2, hst, haf⟩
  have HF : Hid (Sto.OpP w base g m (Sto.remove s N) (.returned (.int .i64 (Sto.remove s N).1)) w2) := Lib.hid ⟨rfl, m2, hst, (Sto.Aft.of_below HB1.out).trans haf⟩
  obtain ⟨c, hc⟩ : ∃ c, c = (Sto.remove s N).1 := ⟨_, rfl⟩
  rw [← hc] at HF ⊢
  clear hst haf hc
  go_wp2_with fail
  go_ret
  exact HF.out
/-- Can a file go? -/
def keepP (s : Sto.St) (l : Lg) (n : Int) (f : Nat) : Bool := f != l.last && (match (told s f).getLast? with | none => true | some z => decide ((z.1 : Int) ≤ n))
theorem olds_eq (s : Sto.St) (l : Lg) (n : Int) : olds s l n = (files s).filter (keepP s l n) := rfl
/-- A step: the box of a number. -/
def rtF (y : Nat) (p : Nat × Nat) : Fc := ⟨76, [], [.pointer (some ⟨y, 0, none⟩), .pointer (some ⟨p.2, 0, none⟩)]⟩
theorem removes_snoc : ∀ (a : List Nat) (s s1 : Sto.St) (f : Nat), removes s a = (0, s1) → removes s (a ++ [f]) = Sto.remove s1 (name f)
  | [], s, s1, f, h => by
    injection h with _ h
    subst h
    show (let a := Sto.remove s (name f); if a.1 ≠ 0 then a else (0, a.2)) = _
    simp only
    split
    · rfl
    · rename_i h; exact Prod.ext (Decidable.not_not.1 h).symm rfl
  | b :: a, s, s1, f, h => by
    rw [removes] at h
    split at h
    · rename_i h0; rw [h] at h0; exact absurd rfl h0
    · rename_i h0
      rw [List.cons_append, removes]
      rw [if_neg h0, removes_snoc a _ s1 f h]
theorem removes_stop : ∀ (a : List Nat) (s s1 : Sto.St) (f : Nat) (r : List Nat), removes s a = (0, s1) → (Sto.remove s1 (name f)).1 ≠ 0 → removes s (a ++ f :: r) = Sto.remove s1 (name f)
  | [], s, s1, f, r, h, hz => by
    injection h with _ h
    subst h
    rw [List.nil_append, removes]
    rw [if_pos hz]
  | b :: a, s, s1, f, r, h, hz => by
    rw [removes] at h
    split at h
    · rename_i h0; rw [h] at h0; exact absurd rfl h0
    · rename_i h0
      rw [List.cons_append, removes]
      rw [if_neg h0, removes_stop a _ s1 f r h hz]
theorem retire_brk (n : Int) (h : l.broken = true) : retire s l n = (9, s, l) := by unfold retire; rw [if_pos h]
theorem retire_nil (n : Int) (h : l.broken = false) (h2 : olds s l n = []) : retire s l n = (0, s, l) := by unfold retire; rw [if_neg (by rw [h]; simp), if_pos h2]
theorem retire_stop (n : Int) (h : l.broken = false) (h2 : olds s l n ≠ []) (h3 : (removes s (olds s l n)).1 ≠ 0) : retire s l n = ((removes s (olds s l n)).1, (removes s (olds s l n)).2, { l with broken := true }) := by
  unfold retire; rw [if_neg (by rw [h]; simp), if_neg h2]; simp only; rw [if_pos h3]
theorem retire_sync (n : Int) (h : l.broken = false) (h2 : olds s l n ≠ []) {sa : Sto.St} (h3 : removes s (olds s l n) = (0, sa)) : retire s l n = ((Sto.syncDir sa).1, (Sto.syncDir sa).2, { l with broken := (Sto.syncDir sa).1 != 0 }) := by
  unfold retire; rw [if_neg (by rw [h]; simp), if_neg h2]; simp only; rw [h3]; simp only; rw [if_neg (fun h => h rfl)]
theorem laft_same {x1 : Lm} (h : LS w base g s m l x) (ha : LAft w w' g m x m' x1) {k : Nat} {T : TypeId} (ht : Sto.Tag w k T) (hT : Alien T) (h2 : T ≠ 87) (h3 : T ≠ 92) : w'.heap[k]? = w.heap[k]? := by
  obtain ⟨cs, fr, hk⟩ := ht
  exact (laft_tag h ha hk hT h2 h3).trans hk.symm
/-- The steps of Retire, as far as they are done. -/
structure RtW (w : World) (base g : Nat) (s : Sto.St) (m : Sto.Mem) (l : Lg) (x : Lm) (y : Nat) (RA : Option Addr) (rc : Nat) (vs : List (Nat × Nat)) (i : Nat) (W : World) : Prop where
  yb : W.heap[y]? = some (.cells #[.pointer (some ⟨x.lb, 0, none⟩)] 31)
  row : OwnS F1 1 W base 51 RA rc (vs.map (rtF y) ++ [⟨28, [.pointer (some ⟨g, 0, none⟩)], []⟩])
  bx : ∀ p ∈ vs, W.heap[p.2]? = some (.cells #[.int .i64 (p.1 : Int)] 84)
  tab : TabU base W
  st : ∃ m1 s1, LS W base g s1 m1 l x ∧ LAft w W g m x m1 x ∧ s1.kept.length ≤ s.kept.length + i ∧ (i ≤ vs.length → removes s ((vs.map (·.1)).take i) = (0, s1)) ∧ (i = vs.length + 1 → ∃ sa, removes s (vs.map (·.1)) = (0, sa) ∧ Sto.syncDir sa = (0, s1))
theorem RtW.step {y rc i : Nat} {RA : Option Addr} {vs : List (Nat × Nat)} {W W2 : World} {m1 m2 : Sto.Mem} {s1 s2 : Sto.St} (h : RtW w base g s m l x y RA rc vs i W) (h1 : LS W base g s1 m1 l x) (h2 : LAft w W g m x m1 x) (k1 : Sto.StAt W2 base g s2 m2) (k2 : Sto.Aft W W2 g m1 m2)
    (hk : s2.kept.length ≤ s.kept.length + (i + 1)) (ha : i + 1 ≤ vs.length → removes s ((vs.map (·.1)).take (i + 1)) = (0, s2)) (hb : i + 1 = vs.length + 1 → ∃ sa, removes s (vs.map (·.1)) = (0, sa) ∧ Sto.syncDir sa = (0, s2)) : RtW w base g s m l x y RA rc vs (i + 1) W2 := by
  have q1 : Alien 51 := ⟨by decide, by decide, by decide, by decide, by decide, by decide⟩
  have q2 : Alien 31 := ⟨by decide, by decide, by decide, by decide, by decide, by decide⟩
  have q3 : Alien 84 := ⟨by decide, by decide, by decide, by decide, by decide, by decide⟩
  have la := LAft.of_aft (x := x) k2
  exact ⟨laft_tag h1 la h.yb q2 (by decide) (by decide), h.row.keep (fun k e => laft_same h1 la (Sto.ownTagS h.row e) q1 (by decide) (by decide)), fun p hp => laft_tag h1 la (h.bx p hp) q3 (by decide) (by decide), TabU.laft h.tab h1 la, m2, s2, h1.store k1 k2, h2.trans la, hk, ha, hb⟩
set_option maxHeartbeats 1000000 in
set_option maxRecDepth 100000 in
theorem retire_steps (hbr : l.broken = false) (n : Int) (hl : s.kept.length ≤ 400000) {y rc : Nat} {RA : Option Addr} {vs : List (Nat × Nat)} (hvl : vs.length ≤ 100000) (hvs : vs.map (·.1) = olds s l n) (hv0 : vs ≠ []) (hvn : ∀ p ∈ vs, p.1 < 1000000) {W : World} (hI : RtW w base g s m l x y RA rc vs 0 W) :
    Calls Tryz.prog 88 #[.slice RA (vs.map (rtF y) ++ [(⟨28, [.pointer (some ⟨g, 0, none⟩)], []⟩ : Fc)]).length rc] W fun e W' => ∃ c : Int, e = .returned (.int .i64 c) ∧ ∃ m1 s1, LS W' base g s1 m1 l x ∧ LAft w W' g m x m1 x ∧ retire s l n = (c, s1, { l with broken := c != 0 }) := by
  have holds : olds s l n ≠ [] := by rw [← hvs]; simpa using hv0
  obtain ⟨Vs, hVs⟩ : ∃ Vs : List Fc, Vs = vs.map (rtF y) ++ [⟨28, [.pointer (some ⟨g, 0, none⟩)], []⟩] := ⟨_, rfl⟩
  have hlen : Vs.length = vs.length + 1 := by rw [hVs]; simp
  rw [← hVs]
  have hen : ∀ v ∈ Vs, ∀ args w, (callFunc v.f args).run Tryz.prog w = .ok (.enter v.f args) w := fun u hu => by
    rw [hVs] at hu
    rcases List.mem_append.1 hu with hu | hu
    · obtain ⟨p, _, rfl⟩ := List.mem_map.1 hu
      exact fun _ _ => rfl
    · rw [List.mem_singleton] at hu
      rw [hu]
      exact fun _ _ => rfl
  have hst : ∀ i (hi : i < Vs.length) W1, RtW w base g s m l x y RA rc vs i W1 → Calls Tryz.prog Vs[i].f Vs[i].args W1 (fun e W' => ∃ x1 : Int, e = .returned (.int .i64 x1) ∧ (x1 = 0 → RtW w base g s m l x y RA rc vs (i + 1) W') ∧ (x1 ≠ 0 → ∃ m1 s1, LS W' base g s1 m1 l x ∧ LAft w W' g m x m1 x ∧ retire s l n = (x1, s1, { l with broken := true }))) := fun i hi W1 h => by
    have hi' : i < vs.length + 1 := by omega
    obtain ⟨m1, s1, hls, haf, hkl, hr, _⟩ := h.st
    have hr1 := hr (by omega)
    by_cases hiv : i < vs.length
    · have e : Vs[i] = rtF y vs[i] := by
        simp only [hVs]
        rw [List.getElem_append_left (by simpa using hiv), List.getElem_map]
      rw [e]
      have hm : vs[i] ∈ vs := List.getElem_mem _
      refine (retire1_any hls h.tab (by omega) vs[i].1 (hvn _ hm) y vs[i].2 h.yb (h.bx _ hm)).mono ?_
      rintro e2 W2 ⟨he, m2, hst2, haf2⟩
      have hmi : i < (vs.map (·.1)).length := by simpa using hiv
      have hsn := removes_snoc _ _ _ vs[i].1 hr1
      have htk : (vs.map (·.1)).take (i + 1) = (vs.map (·.1)).take i ++ [vs[i].1] := by
        rw [List.take_succ_eq_append_getElem hmi, List.getElem_map]
      refine ⟨_, he, fun hz => h.step hls haf hst2 haf2 (by have := (Sto.remove_sz (s := s1) (name vs[i].1)).2; omega) (fun _ => ?_) (fun hh => by omega), fun hz => ⟨m2, _, hls.store hst2 haf2, haf.trans (LAft.of_aft haf2), ?_⟩⟩
      · rw [htk, hsn]; exact Prod.ext hz rfl
      · have hst : removes s (olds s l n) = Sto.remove s1 (name vs[i].1) := by
          rw [← hvs]
          have hsp : vs.map (·.1) = (vs.map (·.1)).take i ++ vs[i].1 :: (vs.map (·.1)).drop (i + 1) := by
            rw [← List.getElem_map (f := fun p : Nat × Nat => p.1) (h := hmi), ← List.drop_eq_getElem_cons hmi, List.take_append_drop]
          rw [hsp]
          exact removes_stop _ _ _ _ _ hr1 hz
        rw [retire_stop n hbr holds (by rw [hst]; exact hz), hst]
    · have hie : i = vs.length := by omega
      subst hie
      have e : Vs[vs.length] = ⟨28, [.pointer (some ⟨g, 0, none⟩)], []⟩ := by
        simp only [hVs]
        rw [List.getElem_append_right (by simp)]; simp
      rw [e]
      have hall : removes s (vs.map (·.1)) = (0, s1) := by
        rw [List.take_of_length_le (by simp)] at hr1; exact hr1
      refine (Sto.syncDir_any hls.st).mono ?_
      rintro e2 W2 ⟨he, m2, hst2, haf2⟩
      have hrs := retire_sync n hbr holds (by rw [← hvs]; exact hall)
      refine ⟨_, he, fun hz => h.step hls haf hst2 haf2 (by have := (Sto.syncDir_sz (s := s1)).2; omega) (fun hh => by omega) (fun _ => ⟨s1, hall, Prod.ext hz rfl⟩), fun hz => ⟨m2, _, hls.store hst2 haf2, haf.trans (LAft.of_aft haf2), ?_⟩⟩
      rw [hrs]
      have e3 : ((Sto.syncDir s1).1 != 0) = true := by simpa using hz
      rw [e3]
  refine (all_any RA rc Vs W (RtW w base g s m l x y RA rc vs) (fun c W' => ∃ m1 s1, LS W' base g s1 m1 l x ∧ LAft w W' g m x m1 x ∧ retire s l n = (c, s1, { l with broken := true })) hen (by omega) hI (fun i W1 _ h => by have h9 := h.row.rd; rw [← hVs] at h9; exact h9) hst).mono ?_
  rintro e W' ⟨c, he, h0, h1⟩
  rcases Decidable.em (c = 0) with hc | hc
  · obtain ⟨m1, s1, k1, k2, _, _, k5⟩ := (h0 hc).st
    obtain ⟨sa, k6, k7⟩ := k5 hlen
    refine ⟨c, he, m1, s1, k1, k2, ?_⟩
    rw [retire_sync n hbr holds (by rw [← hvs]; exact k6), k7, hc]
  · obtain ⟨m1, s1, k1, k2, k3⟩ := h1 hc
    have e5 : (c != 0) = true := by simpa using hc
    exact ⟨c, he, m1, s1, k1, k2, by rw [e5]; exact k3⟩
/-- What lies in a round of Retire's loop. -/
structure RtI (w : World) (lb : Nat) (Q : Nat → Bool) (fs : List Nat) (A1 : Option Addr) (c1 k : Nat) (OA : Option Addr) (oc : Nat) (Ls : List Fc) (wr : World) : Prop where
  y : wr.heap[w.heap.size]? = some (.cells #[.pointer (some ⟨lb, 0, none⟩)] 31)
  fr : OwnS N1 1 wr w.heap.size 84 A1 c1 fs
  row : OwnS F1 1 wr w.heap.size 51 OA oc Ls
  bx : ∃ vs : List (Nat × Nat), Ls = vs.map (rtF w.heap.size) ∧ (∀ p ∈ vs, wr.heap[p.2]? = some (.cells #[.int .i64 (p.1 : Int)] 84)) ∧ vs.map (·.1) = (fs.take k).filter Q
  below : Below w.heap.size w wr
section
variable {lb k oc c1 f : Nat} {Q : Nat → Bool} {fs : List Nat} {A1 OA : Option Addr} {Ls : List Fc} {wr w1 w8 : World}
theorem RtI.call (h : RtI w lb Q fs A1 c1 k OA oc Ls wr) (hb : Below wr.heap.size wr w1) : RtI w lb Q fs A1 c1 k OA oc Ls w1 := by
  obtain ⟨vs, h1, h2, h3⟩ := h.bx
  exact ⟨(hb.block _ (Array.getElem?_eq_some_iff.1 h.y).1).trans h.y, h.fr.below hb, h.row.below hb, ⟨vs, h1, fun p hp => (hb.block _ (Array.getElem?_eq_some_iff.1 (h2 p hp)).1).trans (h2 p hp), h3⟩, h.below.trans (hb.mono h.below.size)⟩
theorem RtI.skip (h : RtI w lb Q fs A1 c1 k OA oc Ls wr) (hk : k < fs.length) (hf : f = fs[k]) (hq : Q f = false) : RtI w lb Q fs A1 c1 (k + 1) OA oc Ls wr := by
  obtain ⟨vs, h1, h2, h3⟩ := h.bx
  exact ⟨h.y, h.fr, h.row, ⟨vs, h1, h2, by rw [List.take_succ_eq_append_getElem hk, List.filter_append, ← h3, ← hf]; simp [hq]⟩, h.below⟩
theorem rd_fc_new (w : World) (v : Fc) : RdS F1 1 (w.alloc (.cells #[.func (.func v.f) v.pre.toArray v.cb.toArray] 51)) (w.heap.size + 1) (some ⟨w.heap.size, 0, none⟩) [v] := by
  have h := rd_fcs (w := w.alloc (.cells #[.func (.func v.f) v.pre.toArray v.cb.toArray] 51)) (b := w.heap.size) (vs := [v]) (heap_alloc_new w _)
  rw [World.size_alloc] at h
  exact h
theorem RtI.done {o : Obj} (h : RtI w lb Q fs A1 c1 k OA oc Ls wr) (hg : (wr.alloc o).grownBy w8 (blk OA)) : w8.heap[w.heap.size]? = some (.cells #[.pointer (some ⟨lb, 0, none⟩)] 31) ∧ (∀ (v f : Nat), wr.heap[v]? = some (.cells #[.int .i64 (f : Int)] 84) → w8.heap[v]? = some (.cells #[.int .i64 (f : Int)] 84)) ∧ Below w.heap.size w w8 := by
  have hb : Below wr.heap.size wr (wr.alloc o) := (Below.refl _ _).alloc (Nat.le_refl _) o
  have ha := h.call hb
  have hk2 : ∀ (x : Nat) (T : TypeId), Sto.Tag (wr.alloc o) x T → T ≠ 51 → w8.heap[x]? = (wr.alloc o).heap[x]? := fun x T ht hn => hg.block x ht.lt (fun e => ht.ne (Sto.ownTagS ha.row e.symm) hn rfl)
  refine ⟨(hk2 _ _ ⟨_, _, ha.y⟩ (by decide)).trans ha.y, fun v f hv => ?_, ha.below.grown hg ha.below.size (fun x e => (ha.row.blk_ge x e).1)⟩
  have hv2 := (hb.block _ (Array.getElem?_eq_some_iff.1 hv).1).trans hv
  exact (hk2 _ _ ⟨_, _, hv2⟩ (by decide)).trans hv2
theorem RtI.more {A3 : Option Addr} {c3 v : Nat} {o : Obj} (h : RtI w lb Q fs A1 c1 k OA oc Ls wr) (hk : k < fs.length) (hf : f = fs[k]) (hq : Q f = true) (hv : wr.heap[v]? = some (.cells #[.int .i64 (f : Int)] 84))
    (ho : OwnS F1 1 w8 w.heap.size 51 A3 c3 (Ls ++ [rtF w.heap.size (f, v)])) (hg : (wr.alloc o).grownBy w8 (blk OA)) : RtI w lb Q fs A1 c1 (k + 1) A3 c3 (Ls ++ [rtF w.heap.size (f, v)]) w8 := by
  have ha := h.call ((Below.refl _ _).alloc (Nat.le_refl _) o)
  have hv2 : (wr.alloc o).heap[v]? = some (.cells #[.int .i64 (f : Int)] 84) := (((Below.refl _ _).alloc (Nat.le_refl _) o : Below wr.heap.size wr (wr.alloc o)).block _ (Array.getElem?_eq_some_iff.1 hv).1).trans hv
  have hk2 : ∀ (x : Nat) (T : TypeId), Sto.Tag (wr.alloc o) x T → T ≠ 51 → w8.heap[x]? = (wr.alloc o).heap[x]? := fun x T ht hn => hg.block x ht.lt (fun e => ht.ne (Sto.ownTagS ha.row e.symm) hn rfl)
  obtain ⟨vs, h1, h2, h3⟩ := ha.bx
  refine ⟨(hk2 _ _ ⟨_, _, ha.y⟩ (by decide)).trans ha.y, ha.fr.keep (fun x e => hk2 x _ (Sto.ownTagS ha.fr e) (by decide)), ho, ⟨vs ++ [(f, v)], by rw [h1]; simp, fun p hp => ?_, ?_⟩, ha.below.grown hg ha.below.size (fun x e => (ha.row.blk_ge x e).1)⟩
  · rcases List.mem_append.1 hp with hp | hp
    · exact (hk2 _ _ ⟨_, _, h2 p hp⟩ (by decide)).trans (h2 p hp)
    · rw [List.mem_singleton] at hp
      rw [hp]
      exact (hk2 _ _ ⟨_, _, hv2⟩ (by decide)).trans hv2
  · rw [List.map_append, h3, List.take_succ_eq_append_getElem hk, List.filter_append, ← hf]; simp [hq]
end
set_option maxHeartbeats 1000000 in
set_option maxRecDepth 100000 in
theorem retire_any (h : LS w base g s m l x) (ht : TabU base w) (hl : s.kept.length ≤ 400000) (hf : s.files.length ≤ 100000) (n : Int) :
    Calls Tryz.prog 32 #[.pointer (some ⟨x.lb, 0, none⟩), .int .i64 n] w (LopP w base g m x (retire s l n).1 (retire s l n).2.1 (retire s l n).2.2 x) := by
  have H := Lib.hid h
  obtain ⟨c0, _, c2, _, _, _, _⟩ := h.cells
  obtain ⟨lb, hlb⟩ : ∃ lb, lb = x.lb := ⟨_, rfl⟩
  rw [← hlb] at c0 c2 ⊢
  have hlz : lb < w.heap.size := by rw [hlb]; exact h.lb_tag.lt
  have HLB := Lib.hid hlb
  have KT := Lib.hid (fun W (hbw : Below w.heap.size w W) (f : Nat) (hf : f < 1000000) => told_any (h.st.below hbw) (TabU.below ht h hbw).tab f hf (told s f) rfl)
  have KF := Lib.hid (fun W (hbw : Below w.heap.size w W) => files_any (h.st.below hbw) (by omega))
  obtain ⟨T, hT⟩ : ∃ T, T = l.last := ⟨_, rfl⟩
  rw [← hT] at c2
  have HT := Lib.hid hT
  clear h hlb hT
  go_enter Tryz.func32, Tryz.ntmps32
  go_wp2_with fail
  obtain ⟨V, hV⟩ : ∃ V, w.alloc (.cells #[.pointer (some ⟨lb, 0, none⟩)] 31) = V := ⟨_, rfl⟩
  have hbV : Below w.heap.size w V := by rw [← hV]; exact (Below.refl _ _).alloc (Nat.le_refl _) _
  have HBV := Lib.hid hbV
  have HYV : Hid (V.heap[w.heap.size]? = some (.cells #[.pointer (some ⟨lb, 0, none⟩)] 31)) := Lib.hid (by rw [← hV]; exact heap_alloc_new w _)
  have KF1 := Lib.hid (KF.out V hbV)
  have HVS : Hid (V.heap.size = w.heap.size + 1) := Lib.hid (by rw [← hV]; simp)
  rw [hV]
  clear hV hbV KF c0 c2
  refine KF1.out.mono ?_
  rintro e w1 ⟨A1, c1, rfl, ho1, hb1⟩
  have HO1 := Lib.hid ho1
  have HB1 := Lib.hid (HBV.out.trans (hb1.mono HBV.out.size))
  have HY1 : Hid (w1.heap[w.heap.size]? = some (.cells #[.pointer (some ⟨lb, 0, none⟩)] 31)) := Lib.hid ((hb1.block _ (Array.getElem?_eq_some_iff.1 HYV.out).1).trans HYV.out)
  obtain ⟨fs, hfs⟩ : ∃ fs, fs = files s := ⟨_, rfl⟩
  have HFS := Lib.hid hfs
  rw [← hfs] at HO1 ⊢
  clear ho1 hb1 hfs KF1
  go_wp2_with fail
  have HFL : Hid (fs.length ≤ 100000) := Lib.hid (by
    rw [HFS.out]
    have h1 := filesOf_len (Sto.names s)
    have h2 : (Sto.names s).length ≤ s.files.length := by unfold Sto.names; rw [List.length_map]; exact H.out.st.r.ok.gnow.len
    have h3 : filesOf (Sto.names s) = files s := rfl
    rw [h3] at h1
    omega)
  have hfl := HFL.out
  go_loopw [5, 15] (fun o i wr => ∃ (k oc : Nat) (OA : Option Addr) (Ls : List Fc), k ≤ fs.length ∧ i = .int .i64 (k : Int) ∧ o = .slice OA Ls.length oc ∧ Ls.length ≤ k ∧ Hid (RtI w lb (keepP s l n) fs A1 c1 k OA oc Ls wr)) (fun _ i _ => fs.length - (intOf i).toNat)
  case atStart => exact ⟨0, 0, none, [], by omega, rfl, rfl, Nat.le_refl _, Lib.hid ⟨HY1.out, HO1.out.mono HBV.out.size, OwnS.nil _ _ _, ⟨[], rfl, (fun _ h => by cases h), rfl⟩, HB1.out⟩⟩
  case round =>
    obtain ⟨k, oc, OA, Ls, hk, rfl, rfl, hvk, HI⟩ := hrel
    by_cases hlt : k < fs.length
    · obtain ⟨b, off, hA, hb, hc⟩ := RdS.row (f := N1) (n := 1) (fun _ => rfl) (by omega) HI.out.fr.rd (by omega)
      have r0 := hc k hlt 0 _ rfl
      rw [Nat.add_zero, Nat.mul_one] at r0
      obtain ⟨f, hf⟩ : ∃ f, f = fs[k] := ⟨_, rfl⟩
      rw [← hf] at r0
      have HF := Lib.hid hf
      have HI0 := HI
      subst hA
      clear hc hf
      have hfb : f < 1000000 := by
        have hm : f ∈ files s := by rw [← HFS.out, HF.out]; exact List.getElem_mem _
        unfold files at hm
        obtain ⟨hm, _⟩ := List.mem_filter.1 hm
        obtain ⟨q, _, rfl⟩ := List.mem_map.1 hm
        exact numbered_bd q
      go_wp2_with fail
      obtain ⟨V2, hV2⟩ : ∃ V2, wr.alloc (.cells #[.int .i64 (f : Int)] 84) = V2 := ⟨_, rfl⟩
      have hbV2 : Below wr.heap.size wr V2 := by rw [← hV2]; exact (Below.refl _ _).alloc (Nat.le_refl _) _
      have HI2 := Lib.hid (HI.out.call hbV2)
      have HX2 : Hid (V2.heap[wr.heap.size]? = some (.cells #[.int .i64 (f : Int)] 84)) := Lib.hid (by rw [← hV2]; exact heap_alloc_new wr _)
      have d0 : ∀ p : BelowW V2, p.X.cell? ⟨w.heap.size, 0, none⟩ = some (.pointer (some ⟨lb, 0, none⟩)) := fun p => by
        have h1 := (p.hb.block _ (Array.getElem?_eq_some_iff.1 HI2.out.y).1).trans HI2.out.y
        rw [cell_of_row p.X _ 0 _ _ (0, 0) h1]; rfl
      have d3 : ∀ p : BelowW V2, p.X.cell? ⟨wr.heap.size, 0, none⟩ = some (.int .i64 (f : Int)) := fun p => by
        have h1 := (p.hb.block _ (Array.getElem?_eq_some_iff.1 HX2.out).1).trans HX2.out
        rw [cell_of_row p.X _ 0 _ _ (0, 0) h1]; rfl
      have HBW2 := Lib.hid HI2.out.below
      have d1 : ∀ p : BelowW V2, p.X.cell? ⟨lb, 0, none⟩ = some (.pointer (some ⟨g, 0, none⟩)) := fun p => by
        have h1 := HBW2.out.trans (p.hb.mono HBW2.out.size)
        have h2 := (H.out.below h1).cells.1
        rw [← HLB.out] at h2
        exact h2
      have HWZ : Hid (wr.heap.size < V2.heap.size) := Lib.hid (Array.getElem?_eq_some_iff.1 HX2.out).1
      rw [hV2]
      clear hV2 hbV2 r0
      refine wp_region_below_tail 5 (by kernel_rfl) (by kernel_rfl) ?_
      repeat (refine wpQuiet_step (fun K hK => ?_); go_simp; refine hK _ ?_; clear hK K)
      refine wpQuiet_nil ?_
      rintro _ ⟨p, rfl⟩
      obtain ⟨w2, hb2⟩ := p
      have HI3 := Lib.hid (HI2.out.call hb2)
      have HX3 : Hid (w2.heap[wr.heap.size]? = some (.cells #[.int .i64 (f : Int)] 84)) := Lib.hid ((hb2.block _ HWZ.out).trans HX2.out)
      have KT1 := Lib.hid (KT.out w2 HI3.out.below f hfb)
      simp only [List.drop_succ_cons, List.drop_zero]
      clear hb2 d0 d1 d3
      go_wp2_with fail
      refine KT1.out.mono ?_
      rintro e w3 ⟨A3, c3, L, rfl, hL, hOL, hBL, hb3⟩
      have HI4 := Lib.hid (HI3.out.call hb3)
      have HX4 : Hid (w3.heap[wr.heap.size]? = some (.cells #[.int .i64 (f : Int)] 84)) := Lib.hid ((hb3.block _ (Array.getElem?_eq_some_iff.1 HX3.out).1).trans HX3.out)
      have HOL := Lib.hid hOL
      have HL := Lib.hid hL
      have hLl : (told s f).length = L.length := by rw [← hL, List.length_map]
      rw [hLl]
      have hLb : L.length ≤ 16777216 := by rw [← hLl]; exact told_len H.out.st f
      clear hL hOL hBL hb3 hLl KT1
      go_wp2_with fail
      have p0 : w3.cell? ⟨w.heap.size, 0, none⟩ = some (.pointer (some ⟨lb, 0, none⟩)) := by
        rw [cell_of_row w3 _ 0 _ _ (0, 0) HI4.out.y]; rfl
      have p3 : w3.cell? ⟨wr.heap.size, 0, none⟩ = some (.int .i64 (f : Int)) := by
        rw [cell_of_row w3 _ 0 _ _ (0, 0) HX4.out]; rfl
      have p2 : w3.cell? ⟨lb, 2, none⟩ = some (.int .i64 (T : Int)) := by
        have h2 := (H.out.below HI4.out.below).cells.2.2.1
        rw [← HLB.out, ← HT.out] at h2
        exact h2
      by_cases hfT : f = T
      · have e1 : ((f : Int) == (T : Int)) = true := by rw [hfT]; simp
        have e2 : ((f : Int) != (T : Int)) = false := by rw [hfT]; simp
        have HQ : Hid (keepP s l n f = false) := Lib.hid (by unfold keepP; rw [hfT, HT.out]; simp)
        clear hfT
        go_quiet (fail)
        refine Sto.drewN_of (fun X hbX hXh => ?_)
        have HI5 := Lib.hid (HI4.out.call hbX)
        clear hbX hXh
        go_wp2_with fail
        exact ⟨⟨k + 1, oc, OA, Ls, hlt, by simp, rfl, by omega, Lib.hid (HI5.out.skip hlt HF.out HQ.out)⟩, by simp only [intOf]; omega⟩
      · have e1 : ((f : Int) == (T : Int)) = false := by simp; omega
        have e2 : ((f : Int) != (T : Int)) = true := by simp; omega
        have e0 : (f != l.last) = true := by rw [← HT.out]; simp; omega
        have HE0 := Lib.hid e0
        clear hfT e0
        rcases Nat.eq_zero_or_pos L.length with h0 | hpos
        · have e3 : ((L.length : Int) == 0) = true := by rw [h0]; rfl
          have HQ : Hid (keepP s l n f = true) := Lib.hid (by unfold keepP; rw [HE0.out, ← HL.out, List.eq_nil_of_length_eq_zero h0]; rfl)
          clear h0
          go_quiet (fail)
          refine Sto.drewN_of (fun X hbX hXh => ?_)
          have HI5 := Lib.hid (HI4.out.call hbX)
          have HX5 : Hid (X.heap[wr.heap.size]? = some (.cells #[.int .i64 (f : Int)] 84)) := Lib.hid ((hbX.block _ (Array.getElem?_eq_some_iff.1 HX4.out).1).trans HX4.out)
          have hws := HI5.out.below.size
          clear hbX hXh
          go_wp2_with (at_builtin; refine wpList_append_s _ rfl _ _ fcT rfl w.heap.size OA oc Ls rfl (HI5.out.row.alloc _) (X.heap.size + 1) (some ⟨X.heap.size, 0, none⟩) 1 1 [rtF w.heap.size (f, wr.heap.size)] rfl rfl (rd_fc_new X _) (by simp; have := HFL.out; omega) (by unfold maxLen; simp; have := HFL.out; omega) (by simp; omega) ?_; intro A5 c5 L5 w8 hl5 ho5 hg5 hat5)
          have hl5 : L5 = Ls ++ [rtF w.heap.size (f, wr.heap.size)] := hl5
          subst hl5
          exact ⟨⟨k + 1, c5, A5, Ls ++ [rtF w.heap.size (f, wr.heap.size)], hlt, by simp, by simp, by simp; omega, Lib.hid (HI5.out.more hlt HF.out HQ.out HX5.out ho5 hg5)⟩, by simp only [intOf]; omega⟩
        · have e3 : ((L.length : Int) == 0) = false := beq_eq_false_iff_ne.2 (by omega)
          obtain ⟨j, hj⟩ : ∃ j, L.length = j + 1 := ⟨L.length - 1, by omega⟩
          obtain ⟨b3, off3, hA3, _, hc3⟩ := RdS.row (f := Bv.cells) (n := 2) (fun _ => rfl) (by omega) HOL.out.rd (by omega)
          have r3 := hc3 j (by omega) 0 _ rfl
          rw [Nat.add_zero] at r3
          have hjl : j < L.length := by omega
          obtain ⟨z, hz⟩ : ∃ z, z = (L[j]).n := ⟨_, rfl⟩
          rw [← hz] at r3
          have HLST : Hid ((told s f).getLast? = some (z, (L[j]).b)) := Lib.hid (by rw [← HL.out, last_bt j hjl (by omega), hz]; rfl)
          have ez : IntKind.i64.wrap ((L.length : Int) - 1) = (j : Int) := by rw [IntKind.wrap_i64]; omega
          have i1 : (0 : Int) ≤ (j : Int) := by omega
          have i2 : (j : Int) < (L.length : Int) := by omega
          subst hA3
          clear hc3 hpos hj hz
          by_cases hzn : (z : Int) ≤ n
          · have HQ : Hid (keepP s l n f = true) := Lib.hid (by unfold keepP; rw [HE0.out, HLST.out]; simpa using hzn)
            have e4 : decide ((z : Int) ≤ n) = true := by simpa using hzn
            go_quiet (fail)
            refine Sto.drewN_of (fun X hbX hXh => ?_)
            have HI5 := Lib.hid (HI4.out.call hbX)
            have HX5 : Hid (X.heap[wr.heap.size]? = some (.cells #[.int .i64 (f : Int)] 84)) := Lib.hid ((hbX.block _ (Array.getElem?_eq_some_iff.1 HX4.out).1).trans HX4.out)
            have hws := HI5.out.below.size
            clear hbX hXh
            go_wp2_with (at_builtin; refine wpList_append_s _ rfl _ _ fcT rfl w.heap.size OA oc Ls rfl (HI5.out.row.alloc _) (X.heap.size + 1) (some ⟨X.heap.size, 0, none⟩) 1 1 [rtF w.heap.size (f, wr.heap.size)] rfl rfl (rd_fc_new X _) (by simp; have := HFL.out; omega) (by unfold maxLen; simp; have := HFL.out; omega) (by simp; omega) ?_; intro A5 c5 L5 w8 hl5 ho5 hg5 hat5)
            have hl5 : L5 = Ls ++ [rtF w.heap.size (f, wr.heap.size)] := hl5
            subst hl5
            exact ⟨⟨k + 1, c5, A5, Ls ++ [rtF w.heap.size (f, wr.heap.size)], hlt, by simp, by simp, by simp; omega, Lib.hid (HI5.out.more hlt HF.out HQ.out HX5.out ho5 hg5)⟩, by simp only [intOf]; omega⟩
          · have HQ : Hid (keepP s l n f = false) := Lib.hid (by unfold keepP; rw [HE0.out, HLST.out]; simpa using hzn)
            have e4 : decide ((z : Int) ≤ n) = false := by simpa using hzn
            go_quiet (fail)
            refine Sto.drewN_of (fun X hbX hXh => ?_)
            have HI5 := Lib.hid (HI4.out.call hbX)
            clear hbX hXh
            go_wp2_with fail
            exact ⟨⟨k + 1, oc, OA, Ls, hlt, by simp, rfl, by omega, Lib.hid (HI5.out.skip hlt HF.out HQ.out)⟩, by simp only [intOf]; omega⟩
    · have hke : k = fs.length := by omega
      obtain ⟨vs, hLs, hbx, hflt⟩ := HI.out.bx
      have hvs : vs.map (·.1) = olds s l n := by rw [hflt, hke, List.take_length, HFS.out, olds_eq]
      have HVS := Lib.hid hvs
      have HLS := Lib.hid hLs
      have HBX := Lib.hid hbx
      have hvk2 : Ls.length = vs.length := by rw [hLs, List.length_map]
      have HLV := Lib.hid hvk2
      have HWR := Lib.hid (H.out.below HI.out.below)
      have HTR := Lib.hid (TabU.below ht H.out HI.out.below)
      clear hLs hbx hflt hvs hvk2 hke
      by_cases hz : (0 : Int) < (Ls.length : Int)
      · have y0 : wr.cell? ⟨w.heap.size, 0, none⟩ = some (.pointer (some ⟨lb, 0, none⟩)) := by
          rw [cell_of_row wr _ 0 _ _ (0, 0) HI.out.y]; rfl
        have c0 : wr.cell? ⟨lb, 0, none⟩ = some (.pointer (some ⟨g, 0, none⟩)) := by
          have h2 := HWR.out.cells.1
          rw [← HLB.out] at h2
          exact h2
        have hws := HI.out.below.size
        go_wp2_with (at_builtin; refine wpList_append_s _ rfl _ _ fcT rfl w.heap.size OA oc Ls rfl (HI.out.row.alloc _) (wr.heap.size + 1) (some ⟨wr.heap.size, 0, none⟩) 1 1 [⟨28, [.pointer (some ⟨g, 0, none⟩)], []⟩] rfl rfl (rd_fc_new wr _) (by simp; omega) (by unfold maxLen; simp; omega) (by simp; omega) ?_; intro A5 c5 L5 w8 hl5 ho5 hg5 hat5; have y8 := box_cell (HI.out.done hg5).1)
        have hv0 : vs ≠ [] := fun e => by have := HLV.out; rw [e, List.length_nil] at this; omega
        have hvl : vs.length ≤ 100000 := by rw [← HLV.out]; omega
        obtain ⟨q1, q2, q3⟩ := HI.out.done hg5
        have HW8 := Lib.hid (H.out.below q3)
        have HAB : Hid (LAft w w8 g m x m x) := Lib.hid (LAft.of_below q3)
        have hbw : base ≤ w.heap.size := Nat.le_trans H.out.lbb (Nat.le_of_lt H.out.lb_tag.lt)
        have hrow : L5 = vs.map (rtF w.heap.size) ++ [⟨28, [.pointer (some ⟨g, 0, none⟩)], []⟩] := by rw [← HLS.out]; exact hl5
        have hvn : ∀ p ∈ vs, p.1 < 1000000 := fun p hp => by
          have hm : p.1 ∈ olds s l n := by rw [← HVS.out]; exact List.mem_map.2 ⟨p, hp, rfl⟩
          rw [olds_eq] at hm
          have hm := (List.mem_filter.1 hm).1
          unfold files at hm
          obtain ⟨hm, _⟩ := List.mem_filter.1 hm
          obtain ⟨q, _, e⟩ := List.mem_map.1 hm
          rw [← e]
          exact numbered_bd q
        have KD := Lib.hid (does_any HW8.out A5 (Ls.length + 1) c5 (fun c s1 l1 x1 => retire s l n = (c, s1, { l1 with broken := c != 0 }) ∧ x1 = x) (fun hbr => by
          have h9 := retire_steps (w := w8) (base := base) (g := g) (s := s) (m := m) (l := l) (x := x) hbr n hl (y := w.heap.size) (rc := c5) (RA := A5) (vs := vs) hvl HVS.out hv0 hvn (W := w8)
            ⟨by rw [← HLB.out]; exact q1, by rw [← hrow]; exact ho5.mono hbw, fun p hp => q2 _ _ (HBX.out p hp), TabU.below ht H.out q3, m, s, HW8.out, LAft.refl _ _ _ _, Nat.le_refl _, fun _ => rfl, fun h => by omega⟩
          have e9 : (vs.map (rtF w.heap.size) ++ [(⟨28, [.pointer (some ⟨g, 0, none⟩)], []⟩ : Fc)]).length = Ls.length + 1 := by rw [← HLS.out]; simp
          rw [e9] at h9
          exact h9.mono (fun e W' ⟨c, he, m1, s1, k1, k2, k3⟩ => ⟨c, s1, m1, l, x, he, k1, k2, k3, rfl⟩)))
        rw [← HLB.out] at KD
        clear q1 q2 q3 hrow hv0 hl5 ho5 hg5 hat5 y0 c0
        go_wp2_with fail
        refine KD.out.mono ?_
        intro e w9 hD
        have HD : Hid (LopP w base g m x (retire s l n).1 (retire s l n).2.1 (retire s l n).2.2 x e w9) := Lib.hid (by
          rcases hD with ⟨hb1, he, m', h1, h2⟩ | ⟨hb1, c, s1, l1, x1, ⟨hR, rfl⟩, he, m', h1, h2⟩
          · rw [retire_brk n hb1]; exact ⟨he, m', h1, HAB.out.trans h2⟩
          · rw [hR]
            exact ⟨he, m', h1, HAB.out.trans h2⟩)
        obtain ⟨c, hc⟩ : ∃ c : Int, e = .returned (.int .i64 c) := by
          rcases hD with ⟨_, he, _⟩ | ⟨_, c, _, _, _, _, he, _⟩
          · exact ⟨_, he⟩
          · exact ⟨_, he⟩
        subst hc
        clear hD
        go_wp2_with fail
        go_ret
        exact HD.out
      · have hv0 : vs = [] := List.eq_nil_of_length_eq_zero (by rw [← HLV.out]; omega)
        have hl0 : Ls = [] := List.eq_nil_of_length_eq_zero (by omega)
        subst hv0 hl0
        have HOL : Hid (olds s l n = []) := Lib.hid (by rw [← HVS.out]; rfl)
        have y0 : wr.cell? ⟨w.heap.size, 0, none⟩ = some (.pointer (some ⟨lb, 0, none⟩)) := by
          rw [cell_of_row wr _ 0 _ _ (0, 0) HI.out.y]; rfl
        have KD := Lib.hid (does_any HWR.out OA 0 oc (fun c s1 l1 x1 => c = 0 ∧ s1 = s ∧ l1 = l ∧ x1 = x) (fun _ => (all_any OA oc [] wr (fun _ W => W = wr) (fun _ _ => False) (fun _ h => by cases h) (by simp) rfl (fun i W _ h => RdS.nil) (fun i hi => by simp at hi)).mono (fun e W' ⟨c, he, h0, h1⟩ => by
          have hc : c = 0 := by
            rcases Decidable.em (c = 0) with h | h
            · exact h
            · exact (h1 h).elim
          obtain rfl := h0 hc
          exact ⟨c, s, m, l, x, he, HWR.out, LAft.refl _ _ _ _, hc, rfl, rfl, rfl⟩)))
        rw [← HLB.out] at KD
        go_wp2_with fail
        refine KD.out.mono ?_
        intro e w9 hD
        have HD : Hid (LopP w base g m x (retire s l n).1 (retire s l n).2.1 (retire s l n).2.2 x e w9) := Lib.hid (by
          have hab : LAft w wr g m x m x := LAft.of_below HI.out.below
          rcases hD with ⟨hb1, he, m', h1, h2⟩ | ⟨hb1, c, s1, l1, x1, ⟨rfl, rfl, rfl, rfl⟩, he, m', h1, h2⟩
          · rw [retire_brk n hb1]; exact ⟨he, m', h1, hab.trans h2⟩
          · rw [retire_nil n hb1 HOL.out]
            have e3 : ({ l1 with broken := (0 : Int) != 0 } : Lg) = l1 := by
              have : ((0 : Int) != 0) = l1.broken := by rw [hb1]; rfl
              rw [this]
            rw [e3] at h1
            exact ⟨he, m', h1, hab.trans h2⟩)
        obtain ⟨c, hc⟩ : ∃ c : Int, e = .returned (.int .i64 c) := by
          rcases hD with ⟨_, he, _⟩ | ⟨_, c, _, _, _, _, he, _⟩
          · exact ⟨_, he⟩
          · exact ⟨_, he⟩
        subst hc
        clear hD
        go_wp2_with fail
        go_ret
        exact HD.out
end
end Wal
end Go.Proofs.YtaiokogbhfliiaaGreatDoor

namespace Go.Proofs.YtaiokogbhfliiaaGreatDoor
open Go.RowKit Go.Maps

/-- Bytes in a row of such. -/
structure Yv where
  A : Option Addr
  c : Nat
  b : List UInt8
def Yv.cells (v : Yv) : List Value := [.slice v.A v.b.length v.c]
theorem yvT : RT Tryz.prog 32 23 Yv.cells 1 24 (.slice none 0 0) :=
  ⟨Tryz.underlying32, by kernel_rfl, fun _ => rfl, fun v u hu => by simp [Yv.cells] at hu; subst hu; rfl, by omega, rfl⟩
theorem rd_yv_new (w : World) (v : Yv) : RdS Yv.cells 1 (w.alloc (.cells #[.slice v.A v.b.length v.c] 23)) (w.heap.size + 1) (some ⟨w.heap.size, 0, none⟩) [v] := by
  refine RdS.of (f := Yv.cells) (n := 1) (l := [v]) (fun _ => rfl) w.heap.size 0 (by omega) (fun k hk j u hu => ?_)
  obtain rfl : k = 0 := by simp at hk; omega
  have hj : j = 0 := by
    rcases Nat.lt_or_ge j 1 with h | h
    · omega
    · rw [List.getElem?_eq_none (by simp [Yv.cells]; omega)] at hu; cases hu
  subst hj
  have h1 := heap_alloc_new w (.cells #[.slice v.A v.b.length v.c] 23)
  rw [cell_of_row _ w.heap.size 0 _ _ (0, 0) h1, ← hu]; rfl
/-- Bytes that lie ahead of all, or in a row of bytes. -/
structure Yok (w : World) (B : Nat) (v : Yv) : Prop where
  rd : RdB w w.heap.size v.A v.b
  at_ : ∀ k, blk v.A = some k → k < w.heap.size ∧ (k < B ∨ Sto.Tag w k 5)
section
variable {w w' : World} {base g : Nat} {s : Sto.St} {m m' : Sto.Mem} {l : Wal.Lg} {x x' : Wal.Lm}
theorem Yok.keep {B : Nat} {v : Yv} (h : Yok w B v) (hs : w.heap.size ≤ w'.heap.size) (hk : ∀ k, blk v.A = some k → w'.heap[k]? = w.heap[k]?) : Yok w' B v :=
  ⟨rdB_keepS h.rd hs (fun k e _ => hk k e), fun k e => ⟨Nat.lt_of_lt_of_le (h.at_ k e).1 hs, (h.at_ k e).2.imp id (fun t => t.keep (hk k e))⟩⟩
theorem Yok.below {B : Nat} {v : Yv} (h : Yok w B v) (hb : Below w.heap.size w w') : Yok w' B v := h.keep hb.size (fun k e => hb.block k (h.at_ k e).1)
theorem Yok.not_lmut {v : Yv} (h : Yok w base v) (hp : Sto.Apart w g m v.A) (hs : Wal.LS w base g s m l x) {k : Nat} (hk : blk v.A = some k) : ¬ Wal.LMut g m x k := by
  rintro (h1 | h1 | h1)
  · exact (hp k hk).2 h1
  · rcases (h.at_ k hk).2 with h2 | h2
    · rw [h1] at h2; have := hs.lbb; omega
    · exact h2.ne hs.lb_tag (by decide) h1
  · rcases (h.at_ k hk).2 with h2 | h2
    · have := (hs.wt.row.blk_ge k h1).1; omega
    · exact h2.ne (Sto.ownTagS hs.wt.row h1) (by decide) rfl
theorem Yok.laft {v : Yv} (h : Yok w base v) (hp : Sto.Apart w g m v.A) (hs : Wal.LS w base g s m l x) (ha : Wal.LAft w w' g m x m' x') : Yok w' base v ∧ Sto.Apart w' g m' v.A :=
  ⟨h.keep ha.size (fun k e => ha.block k (h.at_ k e).1 (h.not_lmut hp hs e)), fun k e => ⟨Nat.lt_of_lt_of_le (h.at_ k e).1 ha.size, fun hm => h.not_lmut hp hs e (ha.turn k (h.at_ k e).1 (.inl hm))⟩⟩
theorem Aft0.of_aft (h : Sto.Aft w w' g m m') : Aft0 w w' g m m' := ⟨h.os, h.tape, h.output, h.size, h.block, h.turn⟩
theorem Aft0.of_below (hb : Below w.heap.size w w') : Aft0 w w' g m m := Aft0.of_aft (Sto.Aft.of_below hb)
/-- .. of a log that is new. -/
theorem Aft0.of_laft {w1 : World} {lb : Nat} {W : List Wal.Bv} (hb : Below w.heap.size w w1) (ha : Wal.LAft w1 w' g m ⟨lb, none, 0, W⟩ m' x') (hlb : w.heap.size ≤ lb) : Aft0 w w' g m m' :=
  ⟨ha.os.trans hb.os, ha.tape.trans hb.tape, ha.output.trans hb.output, Nat.le_trans hb.size ha.size, fun k hk hn => (ha.block k (Nat.lt_of_lt_of_le hk hb.size) (by
    rintro (h1 | h1 | h1)
    · exact hn h1
    · simp only at h1; omega
    · cases h1)).trans (hb.block k hk), fun k hk hm => by
    rcases ha.turn k (Nat.lt_of_lt_of_le hk hb.size) (.inl hm) with h1 | h1 | h1
    · exact h1
    · simp only at h1; omega
    · cases h1⟩
theorem Aft0.below (h : Aft0 w w' g m m') (hs : Sto.StAt w base g s m) : Below base w w' :=
  ⟨h.os, h.tape, h.output, h.size, fun k hk => by
    rcases Nat.lt_or_ge k w.heap.size with h1 | h1
    · exact h.block k h1 (fun hm => by have := (hs.r.mut_ge hm).1; omega)
    · have := hs.r.gb; have := hs.r.gt.lt; omega⟩
theorem Yok.aft {v : Yv} (h : Yok w base v) (hp : Sto.Apart w g m v.A) (ha : Aft0 w w' g m m') : Yok w' base v ∧ Sto.Apart w' g m' v.A :=
  ⟨h.keep ha.size (fun k e => ha.block k (h.at_ k e).1 (hp k e).2), fun k hk => ⟨Nat.lt_of_lt_of_le (hp k hk).1 ha.size, fun hm => (hp k hk).2 (ha.turn k (hp k hk).1 hm)⟩⟩
/-- A row of bytes. -/
structure Ys (w : World) (base g : Nat) (m : Sto.Mem) (A : Option Addr) (c : Nat) (Y : List Yv) : Prop where
  row : OwnS Yv.cells 1 w base 23 A c Y
  ok : ∀ v ∈ Y, Yok w base v ∧ Sto.Apart w g m v.A
theorem Ys.nil (w : World) (base g : Nat) (m : Sto.Mem) : Ys w base g m none 0 [] := ⟨OwnS.nil _ _ _, fun _ h => by cases h⟩
theorem Ys.below {A : Option Addr} {c : Nat} {Y : List Yv} (h : Ys w base g m A c Y) (hb : Below w.heap.size w w') : Ys w' base g m A c Y :=
  ⟨h.row.below hb, fun v hv => ⟨(h.ok v hv).1.below hb, fun k e => ⟨Nat.lt_of_lt_of_le ((h.ok v hv).2 k e).1 hb.size, ((h.ok v hv).2 k e).2⟩⟩⟩
theorem Ys.laft {A : Option Addr} {c : Nat} {Y : List Yv} (h : Ys w base g m A c Y) (hs : Wal.LS w base g s m l x) (ha : Wal.LAft w w' g m x m' x') : Ys w' base g m' A c Y :=
  ⟨h.row.keep (fun k e => Wal.laft_same hs ha (Sto.ownTagS h.row e) ⟨by decide, by decide, by decide, by decide, by decide, by decide⟩ (by decide) (by decide)), fun v hv => (h.ok v hv).1.laft (h.ok v hv).2 hs ha⟩
theorem Ys.aft {A : Option Addr} {c : Nat} {Y : List Yv} (h : Ys w base g m A c Y) (hs : Sto.StAt w base g s m) (ha : Aft0 w w' g m m') : Ys w' base g m' A c Y :=
  ⟨h.row.keep (fun k e => by
    have t := Sto.ownTagS h.row e
    exact ha.block k t.lt (fun hm => hs.not_foot t (by decide) (by decide) (by decide) (by decide) (by decide) (fun e => absurd e (by decide)) (.inl hm))), fun v hv => (h.ok v hv).1.aft (h.ok v hv).2 ha⟩
end
end Go.Proofs.YtaiokogbhfliiaaGreatDoor

namespace Go.Proofs.YtaiokogbhfliiaaGreatDoor
open Go.RowKit Go.Maps

namespace Wal
section
variable {w w' : World} {base g : Nat} {s : Sto.St} {m m' : Sto.Mem} {l : Lg} {x : Lm}
set_option maxHeartbeats 1000000 in
set_option maxRecDepth 100000 in
theorem next_any (h : LS w base g s m l x) : Calls Tryz.prog 19 #[.pointer (some ⟨x.lb, 0, none⟩)] w fun e w' => e = .returned (.int .i64 (next l : Int)) ∧ w' = w := by
  obtain ⟨_, _, _, _, c4, _, c6⟩ := h.cells
  obtain ⟨o, ho⟩ : ∃ o, o = l.broken := ⟨_, rfl⟩
  rw [← ho] at c6
  have HO := Lib.hid ho
  obtain ⟨b, hb⟩ : ∃ b, b = x.lb := ⟨_, rfl⟩
  rw [← hb] at c4 c6 ⊢
  clear h ho hb
  go_enter Tryz.func19, Tryz.ntmps19
  rcases o with _ | _
  · have HE : Hid (next l = l.next) := Lib.hid (by unfold next; rw [← HO.out]; rfl)
    go_wp2_with fail
    go_ret
    exact ⟨by rw [HE.out]; rfl, rfl⟩
  · have HE : Hid (next l = 0) := Lib.hid (by unfold next; rw [← HO.out]; rfl)
    go_wp2_with fail
    go_ret
    exact ⟨by rw [HE.out]; rfl, rfl⟩
set_option maxHeartbeats 1000000 in
set_option maxRecDepth 100000 in
theorem waits_any (h : LS w base g s m l x) : Calls Tryz.prog 21 #[.pointer (some ⟨x.lb, 0, none⟩)] w fun e w' => e = .returned (.int .i64 (waits l : Int)) ∧ w' = w := by
  obtain ⟨_, _, _, _, _, c5, c6⟩ := h.cells
  obtain ⟨o, ho⟩ : ∃ o, o = l.broken := ⟨_, rfl⟩
  rw [← ho] at c6
  have HO := Lib.hid ho
  obtain ⟨b, hb⟩ : ∃ b, b = x.lb := ⟨_, rfl⟩
  rw [← hb] at c5 c6 ⊢
  clear h ho hb
  go_enter Tryz.func21, Tryz.ntmps21
  rcases o with _ | _
  · have HE : Hid (waits l = l.waiting.length) := Lib.hid (by unfold waits; rw [← HO.out]; rfl)
    go_wp2_with fail
    go_ret
    exact ⟨by rw [HE.out]; rfl, rfl⟩
  · have HE : Hid (waits l = 0) := Lib.hid (by unfold waits; rw [← HO.out]; rfl)
    go_wp2_with fail
    go_ret
    exact ⟨by rw [HE.out]; rfl, rfl⟩
theorem LS.setNext (h : LS w base g s m l x) (n : Nat) (h1 : l.next ≤ n) (h2 : n ≤ 1099511627777) : LS (w.setCell ⟨x.lb, 4, none⟩ (.int .i64 (n : Int))) base g s m { l with next := n } x ∧ LAft w (w.setCell ⟨x.lb, 4, none⟩ (.int .i64 (n : Int))) g m x m x := by
  refine h.turn rfl rfl rfl (by simp) (fun k _ hk => heap_setCell_other _ ⟨x.lb, 4, none⟩ k _ hk) ?_ rfl ⟨h.ok.limit, h.ok.last, h.ok.size, ⟨Nat.le_trans h.ok.next.1 h1, h2⟩, Nat.lt_of_lt_of_le h.ok.wait h1, h.ok.one⟩
  have h1 := h.box
  unfold lgObj at h1
  exact (heap_setL h1 (.int .i64 (n : Int))).2.2.1
theorem skip_brk (n : Int) (h : l.broken = true) : skip l n = (9, l) := by unfold skip; rw [if_pos h]
theorem skip_bad (n : Int) (h : l.broken = false) (h1 : n < 1 ∨ 1099511627776 < n) : skip l n = (1, l) := by unfold skip; rw [if_neg (by rw [h]; simp), if_pos h1]
theorem skip_wait (n : Int) (h : l.broken = false) (h1 : ¬ (n < 1 ∨ 1099511627776 < n)) (h2 : l.waiting ≠ []) : skip l n = (10, l) := by unfold skip; rw [if_neg (by rw [h]; simp), if_neg h1, if_pos h2]
theorem skip_ok (n : Int) (h : l.broken = false) (h1 : ¬ (n < 1 ∨ 1099511627776 < n)) (h2 : l.waiting = []) : skip l n = (0, { l with next := max l.next n.toNat }) := by unfold skip; rw [if_neg (by rw [h]; simp), if_neg h1, if_neg (by rw [h2]; simp)]
set_option maxHeartbeats 1000000 in
set_option maxRecDepth 100000 in
theorem skip_any (h : LS w base g s m l x) (n : Int) : Calls Tryz.prog 33 #[.pointer (some ⟨x.lb, 0, none⟩), .int .i64 n] w (LopP w base g m x (skip l n).1 s (skip l n).2 x) := by
  have H := Lib.hid h
  obtain ⟨_, _, _, _, c4, c5, c6⟩ := h.cells
  have f4 := h.frozen 4
  obtain ⟨o, ho⟩ : ∃ o, o = l.broken := ⟨_, rfl⟩
  rw [← ho] at c6
  have HO := Lib.hid ho
  obtain ⟨b, hb⟩ : ∃ b, b = x.lb := ⟨_, rfl⟩
  rw [← hb] at c4 c5 c6 f4 ⊢
  have HB := Lib.hid hb
  obtain ⟨z, hz⟩ : ∃ z, z = l.waiting.length := ⟨_, rfl⟩
  rw [← hz] at c5
  have HZ := Lib.hid hz
  obtain ⟨N, hN⟩ : ∃ N, N = l.next := ⟨_, rfl⟩
  rw [← hN] at c4
  have HN := Lib.hid hN
  have hNb := h.ok.next
  rw [← hN] at hNb
  clear h ho hb hz hN
  go_enter Tryz.func33, Tryz.ntmps33
  rcases o with _ | _
  · by_cases h1 : n < 1
    · have HE := Lib.hid (skip_bad (l := l) n HO.out.symm (.inl h1))
      go_wp2_with fail
      go_ret
      rw [HE.out]
      exact ⟨rfl, m, H.out, LAft.refl _ _ _ _⟩
    · by_cases h2 : (1099511627776 : Int) < n
      · have HE := Lib.hid (skip_bad (l := l) n HO.out.symm (.inr h2))
        go_wp2_with fail
        go_ret
        rw [HE.out]
        exact ⟨rfl, m, H.out, LAft.refl _ _ _ _⟩
      · by_cases h3 : 0 < (z : Int)
        · have HE := Lib.hid (skip_wait (l := l) n HO.out.symm (by omega) (fun e => by have := HZ.out; rw [e] at this; simp at this; omega))
          go_wp2_with fail
          go_ret
          rw [HE.out]
          exact ⟨rfl, m, H.out, LAft.refl _ _ _ _⟩
        · have HE := Lib.hid (skip_ok (l := l) n HO.out.symm (by omega) (List.eq_nil_of_length_eq_zero (by rw [← HZ.out]; omega)))
          obtain ⟨k, rfl⟩ := Int.eq_ofNat_of_zero_le (show 0 ≤ n by omega)
          obtain ⟨u, hu⟩ : ∃ u, u = max N k := ⟨_, rfl⟩
          have hmx : max (N : Int) (k : Int) = (u : Int) := by omega
          have HU : Hid (u = max l.next k) := Lib.hid (by rw [hu, HN.out])
          have HF : Hid (LopP w base g m x (skip l (k : Int)).1 s (skip l (k : Int)).2 x (.returned (.int .i64 0)) (w.setCell ⟨b, 4, none⟩ (.int .i64 (u : Int)))) := Lib.hid (by
            rw [HE.out, Int.toNat_natCast, ← HU.out, HB.out]
            have h9 := LS.setNext H.out u (by rw [HU.out]; omega) (by omega)
            exact ⟨rfl, m, h9.1, h9.2⟩)
          clear hu
          go_wp2_with fail
          go_ret
          exact HF.out
  · have HE := Lib.hid (skip_brk (l := l) n HO.out.symm)
    go_wp2_with fail
    go_ret
    rw [HE.out]
    exact ⟨rfl, m, H.out, LAft.refl _ _ _ _⟩
theorem add_brk (b : List UInt8) (h : l.broken = true) : add l b = (9, 0, l) := by unfold add; rw [if_pos h]
theorem add_big (b : List UInt8) (h : l.broken = false) (h1 : 60000 < b.length) : add l b = (1, 0, l) := by unfold add; rw [if_neg (by rw [h]; simp), if_pos h1]
theorem add_over (b : List UInt8) (h : l.broken = false) (h1 : ¬ 60000 < b.length) (h2 : 1099511627776 < l.next) : add l b = (2, 0, l) := by unfold add; rw [if_neg (by rw [h]; simp), if_neg h1, if_pos h2]
theorem add_ok (b : List UInt8) (h : l.broken = false) (h1 : ¬ 60000 < b.length) (h2 : ¬ 1099511627776 < l.next) : add l b = (0, l.next, { l with waiting := l.waiting ++ [(l.next, b)], next := l.next + 1 }) := by unfold add; rw [if_neg (by rw [h]; simp), if_neg h1, if_neg h2]
/-- What Add comes to. -/
def AddP (w : World) (base g : Nat) (s : Sto.St) (m : Sto.Mem) (x : Lm) (r : Int × Nat × Lg) (e : Ending) (w' : World) : Prop := e = .returned (.tuple #[.int .i64 (r.2.1 : Int), .int .i64 r.1]) ∧ ∃ m' x', LS w' base g s m' r.2.2 x' ∧ LAft w w' g m x m' x'
set_option maxHeartbeats 1000000 in
set_option maxRecDepth 100000 in
theorem add_any (h : LS w base g s m l x) (bA : Option Addr) (bc : Nat) (b : List UInt8) (hb : RdB w w.heap.size bA b) (hl : b.length ≤ 140737488355328) : Calls Tryz.prog 29 #[.pointer (some ⟨x.lb, 0, none⟩), .slice bA b.length bc] w (AddP w base g s m x (add l b)) := by
  have H := Lib.hid h
  obtain ⟨_, _, _, _, c4, c5, c6⟩ := h.cells
  have KC := Lib.hid (fun W (hbw : Below w.heap.size w W) => clone_any bA bc b W ((hb.below hbw (Nat.le_refl _)).more hbw.size) hl)
  obtain ⟨o, ho⟩ : ∃ o, o = l.broken := ⟨_, rfl⟩
  rw [← ho] at c6
  have HO := Lib.hid ho
  obtain ⟨lb, hlb⟩ : ∃ lb, lb = x.lb := ⟨_, rfl⟩
  rw [← hlb] at c4 c5 c6 ⊢
  have HLB := Lib.hid hlb
  have hwl : l.waiting.length = x.W.length := by rw [← h.wt.bt, List.length_map]
  rw [hwl] at c5
  obtain ⟨N, hN⟩ : ∃ N, N = l.next := ⟨_, rfl⟩
  rw [← hN] at c4
  have HN := Lib.hid hN
  have hNb := h.ok.next
  have hzN := h.ok.wait
  have HLZ : Hid (lb < w.heap.size) := Lib.hid (by rw [hlb]; exact h.lb_tag.lt)
  rw [← hN] at hNb
  rw [← hN, hwl] at hzN
  have HROW := Lib.hid h.wt.row
  clear h ho hlb hwl hN hb
  go_enter Tryz.func29, Tryz.ntmps29
  rcases o with _ | _
  · by_cases h1 : (60000 : Int) < (b.length : Int)
    · have HE := Lib.hid (add_big (l := l) b HO.out.symm (by omega))
      go_wp2_with fail
      go_ret2
      rw [HE.out]
      exact ⟨rfl, m, x, H.out, LAft.refl _ _ _ _⟩
    · by_cases h2 : (1099511627776 : Int) < (N : Int)
      · have HE := Lib.hid (add_over (l := l) b HO.out.symm (by omega) (by rw [← HN.out]; omega))
        go_wp2_with fail
        go_ret2
        rw [HE.out]
        exact ⟨rfl, m, x, H.out, LAft.refl _ _ _ _⟩
      · have HE := Lib.hid (add_ok (l := l) b HO.out.symm (by omega) (by rw [← HN.out]; omega))
        go_wp2_with fail
        obtain ⟨V, hV⟩ : ∃ V, w.drew = V := ⟨_, rfl⟩
        have hbV : Below w.heap.size w V := by rw [← hV]; exact (Below.refl _ _).drew
        have HBV := Lib.hid hbV
        have HS0 : V.cell? ⟨lb, 5, none⟩ = some (.slice x.WA x.W.length x.wc) := (hbV.cell (p := ⟨lb, 5, none⟩) HLZ.out).trans c5
        have KC1 := Lib.hid (KC.out V hbV)
        have HNZ : Hid (some lb ≠ blk x.WA) := Lib.hid (fun e => by
          have t := Sto.ownTagS HROW.out e.symm
          rw [HLB.out] at t
          exact t.ne H.out.lb_tag (by decide) rfl)
        refine wp_region_E 13 (fun w' => w'.cell? ⟨lb, 5, none⟩ = some (.slice x.WA x.W.length x.wc)) (by kernel_rfl) ?_
        rw [hV]
        clear hV hbV c4 c5 c6 KC
        refine wpAnyE_take (i := 0) (v := ?_) rfl (by kernel_rfl) (by kernel_rfl) (by kernel_rfl) (by kernel_rfl) (fun _ _ _ h => h) (Or.inl ⟨by rfl, ?_⟩) HS0 ?_
        rotate_left
        · (intro wy hSw; go_simp; try with_reducible rfl)
        try simp only [Act.put, List.setIfInBounds_toArray]
        refine wpAnyE_take (i := 1) (v := ?_) rfl (by kernel_rfl) (by kernel_rfl) (by kernel_rfl) (by kernel_rfl) (fun _ _ _ h => h) (Or.inl ⟨by rfl, ?_⟩) HS0 ?_
        rotate_left
        · (intro wy hSw; go_simp; try with_reducible rfl)
        try simp only [Act.put]
        refine wpAnyE_take (i := 2) (v := ?_) rfl (by kernel_rfl) (by kernel_rfl) (by kernel_rfl) (by kernel_rfl) (fun _ _ _ h => h) (Or.inl ⟨by rfl, ?_⟩) HS0 ?_
        rotate_left
        · (intro wy hSw; go_simp; try with_reducible rfl)
        try simp only [Act.put]
        refine wpAnyE_take (i := 3) (v := ?_) rfl (by kernel_rfl) (by kernel_rfl) (by kernel_rfl) (by kernel_rfl) (fun _ _ _ h => h) (Or.inl ⟨by rfl, ?_⟩) HS0 ?_
        rotate_left
        · (intro wy hSw; go_simp; try with_reducible rfl)
        try simp only [Act.put]
        refine wpAnyE_take (i := 4) (v := ?_) rfl (by kernel_rfl) (by kernel_rfl) (by kernel_rfl) (by kernel_rfl) (fun _ _ _ h => h) (Or.inl ⟨by rfl, ?_⟩) HS0 ?_
        rotate_left
        · (intro wy hSw; go_simp; try with_reducible rfl)
        try simp only [Act.put]
        refine wpAnyE_take (i := 5) (v := ?_) rfl (by kernel_rfl) (by kernel_rfl) (by kernel_rfl) (by kernel_rfl) (fun _ _ _ h => h) (Or.inl ⟨by rfl, ?_⟩) HS0 ?_
        rotate_left
        · (intro wy hSw; go_simp; try with_reducible rfl)
        try simp only [Act.put]
        refine wpAnyE_take (i := 6) (v := ?_) rfl (by kernel_rfl) (by kernel_rfl) (by kernel_rfl) (by kernel_rfl) (fun _ _ _ h => h) (Or.inl ⟨by rfl, ?_⟩) HS0 ?_
        rotate_left
        · (intro wy hSw; go_simp; try with_reducible rfl)
        try simp only [Act.put]
        refine wpAnyE_one (i := 7) (by kernel_rfl) rfl (fun K hK => ?_)
        go_simp
        refine KC1.out.mono ?_
        rintro e w1 ⟨A1, c1, rfl, ho1, hb1⟩
        have HVZ : Hid (lb < V.heap.size) := Lib.hid (Nat.lt_of_lt_of_le HLZ.out HBV.out.size)
        have HS1 : w1.cell? ⟨lb, 5, none⟩ = some (.slice x.WA x.W.length x.wc) := (hb1.cell (p := ⟨lb, 5, none⟩) HVZ.out).trans HS0
        have HO1 := Lib.hid ho1
        have HB1 := Lib.hid (HBV.out.trans (hb1.mono HBV.out.size))
        refine hK _ _ HS1 ?_
        clear hK K HS0 ho1 hb1
        refine wpAnyE_one (i := 8) (by kernel_rfl) rfl (fun K hK => ?_)
        go_simp
        refine hK _ _ HS1 ?_
        clear hK K
        refine wpAnyE_one (i := 9) (by kernel_rfl) rfl (fun K hK => ?_)
        go_simp
        obtain ⟨W2, hW2⟩ : ∃ W2, w1.alloc (.cells #[.int .i64 (N : Int), .slice A1 b.length c1] 92) = W2 := ⟨_, rfl⟩
        have hb2 : Below w1.heap.size w1 W2 := by rw [← hW2]; exact (Below.refl _ _).alloc (Nat.le_refl _) _
        have HB2 := Lib.hid (HB1.out.trans (hb2.mono HB1.out.size))
        have HZ1 : Hid (lb < w1.heap.size) := Lib.hid (Nat.lt_of_lt_of_le HLZ.out HB1.out.size)
        have HS2 : W2.cell? ⟨lb, 5, none⟩ = some (.slice x.WA x.W.length x.wc) := (hb2.cell (p := ⟨lb, 5, none⟩) HZ1.out).trans HS1
        have HRD : Hid (RdS Bv.cells 2 W2 (w1.heap.size + 1) (some ⟨w1.heap.size, 0, none⟩) [⟨N, A1, c1, b⟩]) := Lib.hid (by rw [← hW2]; exact rd_bt_new w1 ⟨N, A1, c1, b⟩)
        have HO2 := Lib.hid (HO1.out.below hb2)
        have HR2 := Lib.hid (HROW.out.below HB2.out)
        have HBZ : Hid (base ≤ W2.heap.size) := Lib.hid (by have := H.out.lbb; have := H.out.lb_tag.lt; have := HB2.out.size; omega)
        rw [hW2]
        refine hK _ _ HS2 ?_
        clear hK K HS1 hb2 hW2
        refine wpAnyE_one (i := 10) (by kernel_rfl) rfl (fun K hK => ?_)
        refine step_append_sd W2 (by rfl) (some 36) (by rfl) (.tmp 30) (.tmp 35) btT (by rfl) base x.WA x.wc x.W (by rfl) HR2.out (w1.heap.size + 1) (some ⟨w1.heap.size, 0, none⟩) 1 1 [⟨N, A1, c1, b⟩] (by rfl) rfl HRD.out (by simp only [List.length_cons, List.length_nil]; omega) (by simp only [List.length_cons, List.length_nil]; unfold maxLen; omega) HBZ.out ?_
        intro A2 c2 L2 w3 hL2 ho2 hg2 hat2
        have HZ2 : Hid (lb < W2.heap.size) := Lib.hid (Nat.lt_of_lt_of_le HLZ.out HB2.out.size)
        have hbx : w3.heap[lb]? = some (lgObj g l x) := (hg2.block lb HZ2.out HNZ.out).trans ((HB2.out.block lb HLZ.out).trans (by rw [HLB.out]; exact H.out.box))
        have HS3 : w3.cell? ⟨lb, 5, none⟩ = some (.slice x.WA x.W.length x.wc) := by
          rw [cell_of_row w3 lb 5 _ _ (0, 0) hbx, ← H.out.wt.bt, List.length_map]; rfl
        have fz5 : w3.frozen? ⟨lb, 5, none⟩ = false := frozen_of_row w3 lb 5 _ _ hbx
        obtain ⟨n2, hn2⟩ : ∃ n2, n2 = L2.length := ⟨_, rfl⟩
        have HBX := Lib.hid hbx
        have HN2 : Hid (n2 = x.W.length + 1) := Lib.hid (by rw [hn2, hL2]; simp)
        have HL2 := Lib.hid hL2
        have HO3 := Lib.hid ho2
        have HG3 := Lib.hid hg2
        have HAT := Lib.hid hat2
        rw [← hn2]
        refine hK _ _ HS3 ?_
        clear hK K HS2 hL2 ho2 hg2 hat2 hn2 hbx
        try simp only [Act.put]
        refine wpAnyE_one (i := 11) (by kernel_rfl) rfl (fun K hK => ?_)
        go_simp
        refine hK _ _ HS3 ?_
        clear hK K
        refine wpAnyE_one (i := 12) (by kernel_rfl) rfl (fun K hK => ?_)
        go_simp
        refine hK _ _ HS3 ?_
        clear hK K
        refine wpAnyE_last (by kernel_rfl) (by kernel_rfl) rfl (fun K hK => ?_)
        go_simp
        refine hK _ _ ?_
        clear hK K HS3 fz5
        obtain ⟨Y, hY⟩ : ∃ Y, Y = w3.setCell ⟨lb, 5, none⟩ (.slice A2 n2 c2) := ⟨_, rfl⟩
        have hyb : Y.heap[lb]? = some (.cells #[.pointer (some ⟨g, 0, none⟩), .int .i64 (l.limit : Int), .int .i64 (l.last : Int), .int .i64 (l.size : Int), .int .i64 (l.next : Int), .slice A2 n2 c2, .bool l.broken] 87) := by
          have h9 := HBX.out
          unfold lgObj at h9
          rw [hY]
          exact (heap_setL h9 (.slice A2 n2 c2)).2.2.2.1
        have y4 : Y.cell? ⟨lb, 4, none⟩ = some (.int .i64 (N : Int)) := by rw [cell_of_row Y lb 4 _ _ (0, 0) hyb, HN.out]; rfl
        have fy4 : Y.frozen? ⟨lb, 4, none⟩ = false := frozen_of_row Y lb 4 _ _ hyb
        have e1 : IntKind.i64.wrap ((N : Int) + 1) = ((N + 1 : Nat) : Int) := by rw [IntKind.wrap_i64]; omega
        have HYB := Lib.hid hyb
        have HYE : Hid (Y.os = w3.os ∧ Y.tape = w3.tape ∧ Y.output = w3.output ∧ w3.heap.size ≤ Y.heap.size ∧ ∀ k, k ≠ lb → Y.heap[k]? = w3.heap[k]?) := Lib.hid (by
          rw [hY]
          exact ⟨rfl, rfl, rfl, by simp, fun k hk => heap_setCell_other _ ⟨lb, 5, none⟩ k _ hk⟩)
        rw [← hY]
        clear hY hyb
        go_wp2_with fail
        have HFIN : Hid (AddP w base g s m x (add l b) (.returned (.tuple #[.int .i64 (N : Int), .int .i64 0])) (Y.setCell ⟨lb, 4, none⟩ (.int .i64 ((N : Int) + 1)))) := Lib.hid (by
          have hls := H.out.below HB2.out
          have hap : Sto.Apart W2 g m A1 := Sto.Apart.new (H.out.below HBV.out).st.r HO2.out
          have hvz : base ≤ V.heap.size := by have := H.out.lbb; have := H.out.lb_tag.lt; have := HBV.out.size; omega
          have hbt : ((⟨N, A1, c1, b⟩ : Bv)).bt = (l.next, b) := by rw [← HN.out]; rfl
          have hlen : (l.waiting ++ [(l.next, b)]).length = n2 := by rw [HN2.out, List.length_append, ← H.out.wt.bt, List.length_map]; rfl
          obtain ⟨y1, y2, y3, y4, y5⟩ := HYE.out
          have hm := LS.more (w' := Y.setCell ⟨lb, 4, none⟩ (.int .i64 ((N : Int) + 1))) (l' := { l with waiting := l.waiting ++ [(l.next, b)], next := l.next + 1 }) hls HG3.out (v := ⟨N, A1, c1, b⟩) (A := A2) (c := c2) (by rw [← HL2.out]; exact HO3.out) HAT.out
            ⟨HO2.out.rd, HO2.out.cap, HO2.out.cap_le, fun k e => ⟨Nat.le_trans hvz (HO2.out.blk_ge k e).1, Sto.ownTag HO2.out e⟩⟩ hap
            ⟨y1, y2, y3, Nat.le_trans y4 (by simp)⟩ (fun k hk hne => by
              rw [← HLB.out] at hne
              exact (heap_setCell_other _ ⟨lb, 4, none⟩ k _ hne).trans (y5 k hne)) (by
              have h9 := (heap_setL HYB.out (.int .i64 ((N : Int) + 1))).2.2.1
              unfold lgObj
              simp only
              rw [hlen, ← HLB.out, ← HN.out]
              exact h9) (by rw [hbt])
            ⟨H.out.ok.limit, H.out.ok.last, H.out.ok.size, ⟨by simp only; omega, by simp only; rw [← HN.out]; omega⟩, by
              simp only
              rw [hlen, HN2.out, ← HN.out]; omega, fun c hc => by
              simp only at hc
              rcases List.mem_append.1 hc with hc | hc
              · exact H.out.ok.one c hc
              · rw [List.mem_singleton] at hc
                rw [hc]
                exact ⟨by simp only; rw [← HN.out]; omega, by simp only; omega⟩⟩
          rw [HE.out]
          exact ⟨by rw [← HN.out], m, _, hm.1, (LAft.of_below HB2.out).trans hm.2⟩)
        go_ret2
        exact HFIN.out
  · have HE := Lib.hid (add_brk (l := l) b HO.out.symm)
    go_wp2_with fail
    go_ret2
    rw [HE.out]
    exact ⟨rfl, m, x, H.out, LAft.refl _ _ _ _⟩
end
end Wal
end Go.Proofs.YtaiokogbhfliiaaGreatDoor

namespace Go.Proofs.YtaiokogbhfliiaaGreatDoor
open Go.RowKit Go.Maps

theorem results_q4 {fn : Func} {t u v x : Tmp} (h : fn.results = #[.tmp t, .tmp u, .tmp v, .tmp x]) (tmps : Array Value) (P : Program) (w : World) :
    (results fn tmps).run P w = .ok (.tuple #[tmps.getD t undef, tmps.getD u undef, tmps.getD v undef, tmps.getD x undef]) w := by simp [results, h]
namespace Wal
/-- What Open comes to. -/
def OpensP (w : World) (base g : Nat) (m : Sto.Mem) (r : Int × Sto.St × Option (Lg × List Bt)) (e : Ending) (w' : World) : Prop :=
  (r.2.2 = none ∧ e = .returned (.tuple #[.pointer none, .int .i64 0, .slice none 0 0, .int .i64 r.1]) ∧ ∃ m', Sto.StAt w' base g r.2.1 m' ∧ Aft0 w w' g m m') ∨
  (∃ l bs lb A c Y m', r.2.2 = some (l, bs) ∧ r.1 = 0 ∧ e = .returned (.tuple #[.pointer (some ⟨lb, 0, none⟩), .int .i64 ((bs.head?.map (·.1)).getD 0 : Nat), .slice A Y.length c, .int .i64 0]) ∧ LS w' base g r.2.1 m' l ⟨lb, none, 0, []⟩ ∧ Aft0 w w' g m m' ∧ w.heap.size ≤ lb ∧ Y.map Yv.b = bs.map (·.2) ∧ Ys w' base g m' A c Y)
section
variable {w w' : World} {base g : Nat} {s : Sto.St} {m m' : Sto.Mem} {l : Lg} {x : Lm}
theorem opens_arg {limit : Int} (h : limit < 1 ∨ 65536 < limit) : opens s limit = (1, s, none) := by unfold opens; rw [if_pos h]
theorem opens_off {limit : Int} (h : ¬ (limit < 1 ∨ 65536 < limit)) (h2 : s.off = true) : opens s limit = (8, s, none) := by unfold opens; rw [if_neg h, if_pos h2]
theorem opens_bad {limit : Int} (h : ¬ (limit < 1 ∨ 65536 < limit)) (h2 : s.off = false) {L : Lg} (hL : L = ⟨limit.toNat, (files s).getLastD 0, 0, 1, [], false⟩) (h3 : (mk s L).1 ≠ 0) : opens s limit = ((mk s L).1, (mk s L).2.1, none) := by
  subst hL; unfold opens; rw [if_neg h, if_neg (by rw [h2]; simp)]; simp only; rw [if_pos h3]
theorem opens_yes {limit : Int} (h : ¬ (limit < 1 ∨ 65536 < limit)) (h2 : s.off = false) {L : Lg} (hL : L = ⟨limit.toNat, (files s).getLastD 0, 0, 1, [], false⟩) (h3 : (mk s L).1 = 0) : opens s limit = (0, (mk s L).2.1, some ({ (mk s L).2.2 with next := match (there s).getLast? with | none => 1 | some z => z.1 + 1 }, there s)) := by
  subst hL; unfold opens; rw [if_neg h, if_neg (by rw [h2]; simp)]; simp only; rw [if_neg (fun h => h h3)]; rfl
theorem gather_go (s : Sto.St) : ∀ (l : List Nat) (acc : List Bt), (∀ x ∈ acc, 1 ≤ x.1 ∧ x.1 ≤ 1099511627776) → ∀ x ∈ l.foldl (fun out n => join out (told s n)) acc, 1 ≤ x.1 ∧ x.1 ≤ 1099511627776
  | [], _, h => h
  | n :: l, acc, h => gather_go s l _ (fun x hx => by
    rcases join_mem hx with h1 | h1
    · exact h x h1
    · exact told_bd s n x h1)
theorem there_bd (s : Sto.St) : ∀ x ∈ there s, 1 ≤ x.1 ∧ x.1 ≤ 1099511627776 := gather_go s _ [] (fun _ h => by cases h)
theorem gather_len {w : World} {base g : Nat} {s : Sto.St} {m : Sto.Mem} (h : Sto.StAt w base g s m) : ∀ (l : List Nat) (acc : List Bt), (l.foldl (fun out n => join out (told s n)) acc).length ≤ acc.length + l.length * 16777216
  | [], _ => by simp
  | n :: l, acc => by
    have h1 := gather_len h l (join acc (told s n))
    have h2 := join_len acc (told s n)
    have h3 := told_len h n
    rw [List.foldl_cons, List.length_cons, Nat.succ_mul]
    omega
def yvOf (v : Bv) : Yv := ⟨v.A, v.c, v.b⟩
def nextOf (l : List Bv) : Nat := match l.getLast? with | none => 1 | some v => v.n + 1
theorem nextOf_snoc (l : List Bv) (v : Bv) : nextOf (l ++ [v]) = v.n + 1 := by unfold nextOf; simp
theorem nextOf_bt (l : List Bv) : (match (l.map Bv.bt).getLast? with | none => 1 | some z => z.1 + 1) = nextOf l := by
  unfold nextOf
  rw [List.getLast?_map]
  cases l.getLast? <;> rfl
/-- What lies in a round of Open's loop. -/
structure OpI (w5 : World) (lb g : Nat) (l5 : Lg) (LB : List Bv) (k : Nat) (OA : Option Addr) (oc : Nat) (Y : List Yv) (wr : World) : Prop where
  same : wr.os = w5.os ∧ wr.tape = w5.tape ∧ wr.output = w5.output ∧ w5.heap.size ≤ wr.heap.size
  hk : ∀ q, q < w5.heap.size → q ≠ lb → wr.heap[q]? = w5.heap[q]?
  hb : wr.heap[lb]? = some (lgObj g { l5 with next := nextOf (LB.take k) } ⟨lb, none, 0, []⟩)
  row : OwnS Yv.cells 1 wr w5.heap.size 23 OA oc Y
  eq : Y = (LB.take k).map yvOf
theorem OpI.step {w5 wr w8 : World} {lb g : Nat} {l5 : Lg} {LB : List Bv} {k oc c3 : Nat} {OA A3 : Option Addr} {Y : List Yv} {o1 o2 : Obj} (h : OpI w5 lb g l5 LB k OA oc Y wr) (hlb : lb < w5.heap.size) (hk : k < LB.length) (hg : ((wr.alloc o1).alloc o2).grownBy w8 (blk OA)) (ho : OwnS Yv.cells 1 w8 w5.heap.size 23 A3 c3 (Y ++ [yvOf LB[k]])) :
    (w8.heap[lb]? = some (lgObj g { l5 with next := nextOf (LB.take k) } ⟨lb, none, 0, []⟩)) ∧ OpI w5 lb g l5 LB (k + 1) A3 c3 (Y ++ [yvOf LB[k]]) (w8.setCell ⟨lb, 4, none⟩ (.int .i64 (((LB[k]).n + 1 : Nat) : Int))) := by
  have hb0 : Below wr.heap.size wr ((wr.alloc o1).alloc o2) := ((Below.refl _ _).alloc (Nat.le_refl _) o1).alloc (by simp) o2
  have hlr : lb < wr.heap.size := Nat.lt_of_lt_of_le hlb h.same.2.2.2
  have hne : ∀ q, q < w5.heap.size → some q ≠ blk OA := fun q hq e => by have := (h.row.blk_ge q e.symm).1; omega
  have h8 : ∀ q, q < w5.heap.size → w8.heap[q]? = wr.heap[q]? := fun q hq => (hg.block q (Nat.lt_of_lt_of_le (Nat.lt_of_lt_of_le hq h.same.2.2.2) hb0.size) (hne q hq)).trans (hb0.block q (Nat.lt_of_lt_of_le hq h.same.2.2.2))
  have hbx := (h8 lb hlb).trans h.hb
  refine ⟨hbx, ⟨⟨hg.os.trans h.same.1, hg.tape.trans h.same.2.1, hg.output.trans h.same.2.2.1, by
    have := h.same.2.2.2; have := hg.size; have := hb0.size; simp at *; omega⟩, fun q hq hne2 => ?_, ?_, ?_, ?_⟩⟩
  · exact (heap_setCell_other _ ⟨lb, 4, none⟩ q _ hne2).trans ((h8 q hq).trans (h.hk q hq hne2))
  · rw [List.take_succ_eq_append_getElem hk, nextOf_snoc]
    unfold lgObj at hbx ⊢
    exact (heap_setL hbx _).2.2.1
  · exact ho.keep (fun q e => heap_setCell_other _ ⟨lb, 4, none⟩ q _ (by have := (ho.blk_ge q e).1; show q ≠ lb; omega))
  · rw [h.eq, List.take_succ_eq_append_getElem hk, List.map_append]; rfl
theorem OpI.below {w5 wr X : World} {lb g : Nat} {l5 : Lg} {LB : List Bv} {k oc : Nat} {OA : Option Addr} {Y : List Yv} (h : OpI w5 lb g l5 LB k OA oc Y wr) (hlb : lb < w5.heap.size) (hb : Below wr.heap.size wr X) : OpI w5 lb g l5 LB k OA oc Y X := by
  obtain ⟨h1, h2, h3, h4⟩ := h.same
  exact ⟨⟨hb.os.trans h1, hb.tape.trans h2, hb.output.trans h3, Nat.le_trans h4 hb.size⟩, fun q hq hn => (hb.block q (Nat.lt_of_lt_of_le hq h4)).trans (h.hk q hq hn), (hb.block lb (Nat.lt_of_lt_of_le hlb h4)).trans h.hb, h.row.below hb, h.eq⟩
theorem rd_bt_cells {w : World} {LB : List Bv} {A : Option Addr} {c B : Nat} (h : OwnS Bv.cells 2 w B 92 A c LB) {k : Nat} (hk : k < LB.length) : ∃ b off, A = some ⟨b, off, none⟩ ∧ w.cell? ⟨b, off + k * 2, none⟩ = some (.int .i64 ((LB[k]).n : Int)) ∧ w.cell? ⟨b, off + k * 2 + 1, none⟩ = some (.slice (LB[k]).A (LB[k]).b.length (LB[k]).c) := by
  obtain ⟨b, off, hA, _, hc⟩ := RdS.row (f := Bv.cells) (n := 2) (fun _ => rfl) (by omega) h.rd (by omega)
  have c0 := hc k hk 0 _ rfl
  have c1 := hc k hk 1 _ rfl
  rw [Nat.add_zero] at c0
  exact ⟨b, off, hA, c0, c1⟩
/-- The log ahead of its file. -/
def lg0 (n L : Nat) : Lg := ⟨n, L, 0, 1, [], false⟩
structure OpA (w : World) (g : Nat) (L : Lg) (A : Option Addr) (c : Nat) (fs : List Nat) (wx : World) : Prop where
  box : wx.heap[w.heap.size]? = some (lgObj g L ⟨w.heap.size, none, 0, []⟩)
  fr : OwnS N1 1 wx w.heap.size 84 A c fs
  below : Below w.heap.size w wx
theorem OpA.call {L : Lg} {A : Option Addr} {c : Nat} {fs : List Nat} {wx w1 : World} (h : OpA w g L A c fs wx) (hb : Below wx.heap.size wx w1) : OpA w g L A c fs w1 :=
  ⟨(hb.block _ (Array.getElem?_eq_some_iff.1 h.box).1).trans h.box, h.fr.below hb, h.below.trans (hb.mono h.below.size)⟩
theorem OpA.tag {L : Lg} {A : Option Addr} {c : Nat} {fs : List Nat} {wx : World} (h : OpA w g L A c fs wx) : Sto.Tag wx w.heap.size 87 := ⟨_, _, h.box⟩
theorem OpA.setLast {n L : Nat} {A : Option Addr} {c : Nat} {fs : List Nat} {wx : World} (h : OpA w g (lg0 n 0) A c fs wx) : OpA w g (lg0 n L) A c fs (wx.setCell ⟨w.heap.size, 2, none⟩ (.int .i64 (L : Int))) := by
  have h1 := h.box
  unfold lgObj at h1
  exact ⟨(heap_setL h1 (.int .i64 (L : Int))).1, h.fr.keep (fun k e => heap_setCell_other _ ⟨w.heap.size, 2, none⟩ k _ ((Sto.ownTagS h.fr e).ne h.tag (by decide))), h.below.setCell (Nat.le_refl _) _⟩
theorem OpA.ls {L : Lg} {A : Option Addr} {c : Nat} {fs : List Nat} {wx : World} (h : OpA w g L A c fs wx) (hs : Sto.StAt w base g s m) (hbw : base ≤ w.heap.size) (hL : L.waiting = []) (hok : LgOk L) : LS wx base g s m L ⟨w.heap.size, none, 0, []⟩ :=
  ⟨hs.below h.below, h.box, hbw, ⟨OwnS.nil _ _ _, hL.symm, Bys.nil _ _, fun v hv => by cases hv⟩, hok⟩
set_option maxHeartbeats 1000000 in
set_option maxRecDepth 100000 in
theorem opens_any (h : Sto.StAt w base g s m) (ht : TabU base w) (hbw : base ≤ w.heap.size) (limit : Int) (hl : s.kept.length ≤ 400000) (hf : s.files.length ≤ 100000) :
    Calls Tryz.prog 15 #[.pointer (some ⟨g, 0, none⟩), .int .i64 limit] w (OpensP w base g m (opens s limit)) := by
  have H := Lib.hid h
  have KO := Lib.hid (Sto.off_any h)
  have KF := Lib.hid (fun W (hb : Below w.heap.size w W) => files_any (h.below hb) (by omega))
  have KT := Lib.hid (fun W (hb : Below w.heap.size w W) => there_any (h.below hb) (ht.keep (hb.mono hbw)).tab)
  obtain ⟨o, ho⟩ : ∃ o, o = s.off := ⟨_, rfl⟩
  rw [← ho] at KO
  have HO := Lib.hid ho
  clear h ho
  go_enter Tryz.func15, Tryz.ntmps15
  by_cases h1 : limit < 1
  · have e1 : decide (limit < 1) = true := by simpa using h1
    have HE := Lib.hid (opens_arg (s := s) (limit := limit) (.inl h1))
    go_wp2_with fail
    exact bodyPost_ret (results_q4 rfl _ _ _) rfl (by rw [HE.out]; exact .inl ⟨rfl, rfl, m, H.out, Aft0.of_below (Below.refl _ _)⟩)
  · by_cases h2 : (65536 : Int) < limit
    · have HE := Lib.hid (opens_arg (s := s) (limit := limit) (.inr h2))
      go_wp2_with fail
      exact bodyPost_ret (results_q4 rfl _ _ _) rfl (by rw [HE.out]; exact .inl ⟨rfl, rfl, m, H.out, Aft0.of_below (Below.refl _ _)⟩)
    · go_wp2_with fail
      refine KO.out.mono ?_
      rintro e w1 ⟨rfl, rfl⟩
      have HN : Hid (¬ (limit < 1 ∨ 65536 < limit)) := Lib.hid (by omega)
      rcases o with _ | _
      · obtain ⟨n, rfl⟩ := Int.eq_ofNat_of_zero_le (show 0 ≤ limit by omega)
        go_wp2_with fail
        obtain ⟨V, hV⟩ : ∃ V, w1.alloc (.cells #[.pointer (some ⟨g, 0, none⟩), .int .i64 (n : Int), .int .i64 0, .int .i64 0, .int .i64 1, .slice none 0 0, .bool false] 87) = V := ⟨_, rfl⟩
        have hbV : Below w1.heap.size w1 V := by rw [← hV]; exact (Below.refl _ _).alloc (Nat.le_refl _) _
        have hxV : V.heap[w1.heap.size]? = some (lgObj g (lg0 n 0) ⟨w1.heap.size, none, 0, []⟩) := by rw [← hV]; exact heap_alloc_new w1 _
        have KF1 := Lib.hid (KF.out V hbV)
        have HBV := Lib.hid hbV
        have HXV := Lib.hid hxV
        rw [hV]
        clear hV hbV hxV KF
        refine KF1.out.mono ?_
        rintro e w2 ⟨A2, c2, rfl, ho2, hb2⟩
        have HA2 : Hid (OpA w1 g (lg0 n 0) A2 c2 (files s) w2) := Lib.hid ⟨(hb2.block _ (Array.getElem?_eq_some_iff.1 HXV.out).1).trans HXV.out, ho2.mono HBV.out.size, HBV.out.trans (hb2.mono HBV.out.size)⟩
        obtain ⟨fs, hfs⟩ : ∃ fs, fs = files s := ⟨_, rfl⟩
        have HFS := Lib.hid hfs
        rw [← hfs] at HA2 ⊢
        clear ho2 hb2 hfs KF1
        go_upto_if 37 with fail
        go_cut [] (fun wx => Hid (OpA w1 g (lg0 n (fs.getLastD 0)) A2 c2 fs wx))
        case first =>
          have b0 := HA2.out.box
          unfold lgObj at b0
          have t2 : w2.cell? ⟨w1.heap.size, 2, none⟩ = some (.int .i64 0) := by rw [cell_of_row w2 _ 2 _ _ (0, 0) b0]; rfl
          have f2 : w2.frozen? ⟨w1.heap.size, 2, none⟩ = false := frozen_of_row w2 _ 2 _ _ b0
          clear b0
          rcases Nat.eq_zero_or_pos fs.length with h0 | hpos
          · have e3 : decide (0 < fs.length) = false := decide_eq_false (by omega)
            have HE : Hid (lg0 n (fs.getLastD 0) = lg0 n 0) := Lib.hid (by rw [List.eq_nil_of_length_eq_zero h0]; rfl)
            have h0' : ¬ 0 < fs.length := by omega
            clear h0
            go_wp2_with fail
            go_meet
            exact Lib.hid (by rw [HE.out]; exact HA2.out)
          · have e3 : decide (0 < fs.length) = true := decide_eq_true hpos
            obtain ⟨b3, off3, hA3, _, hc3⟩ := RdS.row (f := N1) (n := 1) (fun _ => rfl) (by omega) HA2.out.fr.rd (by omega)
            have hjl : fs.length - 1 < fs.length := by omega
            have r3 := hc3 (fs.length - 1) hjl 0 _ rfl
            rw [Nat.add_zero, Nat.mul_one] at r3
            obtain ⟨L, hL⟩ : ∃ L, L = fs[fs.length - 1] := ⟨_, rfl⟩
            rw [← hL] at r3
            have HLL : Hid (fs.getLastD 0 = L) := Lib.hid (by rw [List.getLastD_eq_getLast?, List.getLast?_eq_getElem?, List.getElem?_eq_getElem hjl, ← hL]; rfl)
            have hfl : fs.length ≤ 100000 := by
              rw [HFS.out]
              have h1 := filesOf_len (Sto.names s)
              have h2 : (Sto.names s).length ≤ s.files.length := by unfold Sto.names; rw [List.length_map]; exact H.out.r.ok.gnow.len
              have h3 : filesOf (Sto.names s) = files s := rfl
              rw [h3] at h1
              omega
            subst hA3
            clear hc3 hL hjl
            go_wp2_with fail
            go_meet
            exact Lib.hid (by rw [HLL.out]; exact HA2.out.setLast)
        case rest =>
          have HA3 := hcut
          have hfn : ∀ k ∈ fs, k < 1000000 := fun k hk => by
            rw [HFS.out] at hk
            unfold files at hk
            obtain ⟨hk, _⟩ := List.mem_filter.1 hk
            obtain ⟨q, _, rfl⟩ := List.mem_map.1 hk
            exact numbered_bd q
          have hfl : fs.length ≤ 100000 := by
            rw [HFS.out]
            have h1 := filesOf_len (Sto.names s)
            have h2 : (Sto.names s).length ≤ s.files.length := by unfold Sto.names; rw [List.length_map]; exact H.out.r.ok.gnow.len
            have h3 : filesOf (Sto.names s) = files s := rfl
            rw [h3] at h1
            omega
          have KT1 := Lib.hid (KT.out wc HA3.out.below A2 c2 fs HA3.out.fr.rd hfn hfl)
          obtain ⟨L, hL⟩ : ∃ L, L = lg0 n (fs.getLastD 0) := ⟨_, rfl⟩
          have HL := Lib.hid hL
          rw [← hL] at HA3
          have HLok : Hid (LgOk L) := Lib.hid (by
            rw [hL]
            refine ⟨by show n ≤ 65536; omega, ?_, Nat.zero_le _, ⟨Nat.le_refl _, by show 1 ≤ 1099511627777; decide⟩, Nat.zero_lt_one, fun b hb => by cases hb⟩
            show fs.getLastD 0 ≤ 999999
            rw [List.getLastD_eq_getLast?]
            rcases hg : fs.getLast? with _ | q
            · exact Nat.zero_le _
            · have := hfn q (List.mem_of_getLast? hg)
              simp only [Option.getD_some]; omega)
          obtain ⟨F, hF⟩ : ∃ F, F = gather s fs := ⟨_, rfl⟩
          have HF : Hid (F = there s) := Lib.hid (by rw [hF, HFS.out]; rfl)
          rw [← hF] at KT1
          clear hL hfn hfl hF hcut
          go_wp2_with fail
          refine KT1.out.mono ?_
          rintro e w4 ⟨A4, c4, LB, rfl, hLB, hOB, hBB, hb4⟩
          have HA4 := Lib.hid (HA3.out.call hb4)
          have HLB := Lib.hid hLB
          have HOB := Lib.hid hOB
          have HBB := Lib.hid hBB
          have hFl : F.length = LB.length := by rw [← hLB, List.length_map]
          have HLS := Lib.hid (HA4.out.ls H.out hbw (by rw [HL.out]; rfl) HLok.out)
          have KM := Lib.hid (make_any HLS.out (ht.keep (HA4.out.below.mono hbw)) (by omega) (by omega))
          rw [hFl]
          simp only at KM
          clear hLB hOB hBB hb4 hFl KT1
          go_wp2_with fail
          refine KM.out.mono ?_
          rintro e w5 ⟨rfl, m5, hls5, haf5⟩
          have HS5 := Lib.hid hls5
          have HF5 := Lib.hid haf5
          have HA0 : Hid (Aft0 w1 w5 g m m5) := Lib.hid (Aft0.of_laft HA4.out.below haf5 (Nat.le_refl _))
          obtain ⟨c, hc⟩ : ∃ c, c = (mk s L).1 := ⟨_, rfl⟩
          have HC := Lib.hid hc
          rw [← hc]
          clear hls5 haf5 hc KM
          have HL0 : Hid (L = ⟨((n : Int)).toNat, (files s).getLastD 0, 0, 1, [], false⟩) := Lib.hid (by rw [HL.out, HFS.out, Int.toNat_natCast]; rfl)
          by_cases hcz : c = 0
          · have e1 : (c == 0) = true := by rw [hcz]; rfl
            have e2 : (c != 0) = false := by rw [hcz]; rfl
            have HE := Lib.hid (opens_yes HN.out HO.out.symm HL0.out (by rw [← HC.out, hcz]))
            clear hcz
            obtain ⟨l5, hl5⟩ : ∃ l5, l5 = (mk s L).2.2 := ⟨_, rfl⟩
            have HL5 : Hid (l5.waiting = [] ∧ l5.next = 1 ∧ LgOk l5) := Lib.hid (by
              have h1 := mk_lg (s := s) (l := L)
              rw [← hl5] at h1
              refine ⟨h1.2.1.trans (by rw [HL.out]; rfl), h1.2.2.2.1.trans (by rw [HL.out]; rfl), by rw [hl5]; exact HS5.out.ok⟩)
            rw [← hl5] at HS5 HE
            have hnot : ∀ q T, Sto.Tag w4 q T → T = 92 → ¬ LMut g m ⟨w1.heap.size, none, 0, []⟩ q := fun q T t e => by
              rw [e] at t
              rintro (h1 | h1 | h1)
              · exact not_foot_bt HLS.out.st t (.inl h1)
              · exact t.ne HLS.out.lb_tag (by decide) h1
              · cases h1
            have HOB5 : Hid (OwnS Bv.cells 2 w5 w1.heap.size 92 A4 c4 LB) := Lib.hid (by
              have h1 : w1.heap.size ≤ wc.heap.size := HA3.out.below.size
              exact (HOB.out.keep (fun q e => HF5.out.block q (Sto.ownTagS HOB.out e).lt (hnot q _ (Sto.ownTagS HOB.out e) rfl))).mono h1)
            have HYK : Hid (∀ v ∈ LB, Yok w5 base (yvOf v) ∧ Sto.Apart w5 g m5 v.A) := Lib.hid (fun v hv => by
              obtain ⟨b1, b2, b3, b4⟩ := HBB.out.ok v hv
              have hy : Yok w4 base (yvOf v) := ⟨b1, fun q e => ⟨(b4 q e).2.lt, .inr (b4 q e).2⟩⟩
              have hp : Sto.Apart w4 g m v.A := fun q e => ⟨(b4 q e).2.lt, fun hm => by
                have h2 := (H.out.r.mut_ge hm).2
                have h3 := (b4 q e).1
                have h4 := HA3.out.below.size
                omega⟩
              exact hy.laft hp HLS.out HF5.out)
            clear hl5 hnot
            rcases Nat.eq_zero_or_pos LB.length with h0 | hpos
            · have e3 : ((LB.length : Int) == 0) = true := by rw [h0]; rfl
              have HF0 : Hid (there s = []) := Lib.hid (by rw [← HF.out, ← HLB.out, List.eq_nil_of_length_eq_zero h0]; rfl)
              clear h0
              go_wp2_with fail
              exact bodyPost_ret (results_q4 rfl _ _ _) rfl (by
                rw [HE.out, HF0.out]
                refine .inr ⟨_, [], w1.heap.size, none, 0, [], m5, rfl, rfl, rfl, ?_, HA0.out, Nat.le_refl _, rfl, Ys.nil _ _ _ _⟩
                have e4 : ({ l5 with next := 1 } : Lg) = l5 := by rw [← HL5.out.2.1]
                simp only [List.getLast?_nil]
                rw [e4]
                exact HS5.out)
            · have e3 : ((LB.length : Int) == 0) = false := beq_eq_false_iff_ne.2 (by omega)
              have HNB : Hid (∀ v ∈ LB, v.n ≤ 1099511627776) := Lib.hid (fun v hv => (there_bd s v.bt (by rw [← HF.out, ← HLB.out]; exact List.mem_map_of_mem hv)).2)
              have HLZ : Hid (w1.heap.size < w5.heap.size) := Lib.hid HS5.out.lb_tag.lt
              have HLL : Hid (LB.length ≤ 1677721600000) := Lib.hid (by
                have h1 := gather_len H.out (files s) []
                have h2 := filesOf_len (Sto.names s)
                have h3 : (Sto.names s).length ≤ s.files.length := by unfold Sto.names; rw [List.length_map]; exact H.out.r.ok.gnow.len
                have h4 : filesOf (Sto.names s) = files s := rfl
                rw [h4] at h2
                have h5 : (there s).length = LB.length := by rw [← HF.out, ← HLB.out, List.length_map]
                have h6 : (files s).foldl (fun out n => join out (told s n)) [] = there s := rfl
                rw [h6, h5] at h1
                have h7 : (files s).length * 16777216 ≤ 100000 * 16777216 := Nat.mul_le_mul_right _ (by omega)
                simp only [List.length_nil] at h1
                omega)
              obtain ⟨lb, hlb⟩ : ∃ lb, lb = w1.heap.size := ⟨_, rfl⟩
              have HLB2 := Lib.hid hlb
              have HI0 : Hid (OpI w5 w1.heap.size g l5 LB 0 none 0 [] w5) := Lib.hid ⟨⟨rfl, rfl, rfl, Nat.le_refl _⟩, fun _ _ _ => rfl, by
                have h1 := HS5.out.box
                have e4 : ({ l5 with next := nextOf (LB.take 0) } : Lg) = l5 := by
                  have e5 : nextOf (LB.take 0) = l5.next := by rw [HL5.out.2.1]; rfl
                  rw [e5]
                rw [e4]; exact h1, OwnS.nil _ _ _, rfl⟩
              rw [← hlb] at HI0 ⊢
              clear hlb
              have hll := HLL.out
              go_wp2_with fail
              go_loopw [12, 61] (fun o i wr => ∃ (k oc : Nat) (OA : Option Addr) (Y : List Yv), k ≤ LB.length ∧ i = .int .i64 (k : Int) ∧ o = .slice OA Y.length oc ∧ Hid (Y.length = k) ∧ Hid (OpI w5 lb g l5 LB k OA oc Y wr)) (fun _ i _ => LB.length - (intOf i).toNat)
              case atStart => exact ⟨0, 0, none, [], by omega, rfl, rfl, Lib.hid rfl, HI0⟩
              case round =>
                obtain ⟨k, oc, OA, Y, hk, rfl, rfl, HYN, HI⟩ := hrel
                by_cases hlt : k < LB.length
                · have hrow : OwnS Bv.cells 2 wr w1.heap.size 92 A4 c4 LB := HOB5.out.keep (fun q e => by
                    have t := Sto.ownTagS HOB5.out e
                    exact HI.out.hk q t.lt (by rw [HLB2.out]; exact t.ne HS5.out.lb_tag (by decide)))
                  obtain ⟨b, off, hA, c0, c1⟩ := rd_bt_cells hrow hlt
                  have hvn := HNB.out LB[k] (List.getElem_mem hlt)
                  have HV : Hid (∃ v : Bv, v = LB[k]) := Lib.hid ⟨_, rfl⟩
                  obtain ⟨v, hv⟩ := HV.out
                  rw [← hv] at c0 c1 hvn
                  have HV2 := Lib.hid hv
                  obtain ⟨vn, vA, vc, vb⟩ := v
                  simp only at c0 c1 hvn
                  subst hA
                  clear hv hrow
                  have hrd : RdS Yv.cells 1 ((wr.alloc (.cells #[.int .i64 (vn : Int), .slice vA vb.length vc] 92)).alloc (.cells #[.slice vA vb.length vc] 23)) (wr.heap.size + 2) (some ⟨wr.heap.size + 1, 0, none⟩) [⟨vA, vc, vb⟩] := by
                    have h9 := rd_yv_new (wr.alloc (.cells #[.int .i64 (vn : Int), .slice vA vb.length vc] 92)) ⟨vA, vc, vb⟩
                    rw [World.size_alloc] at h9
                    exact h9
                  have HRD := Lib.hid hrd
                  have HLR : Hid (lb < w5.heap.size) := Lib.hid (by rw [HLB2.out]; exact HLZ.out)
                  have hsz := HI.out.same.2.2.2
                  have hyn : Y.length = k := HYN.out
                  have HNE : Hid (∀ q, q < w5.heap.size → some q ≠ blk OA) := Lib.hid (fun q hq e => by have := (HI.out.row.blk_ge q e.symm).1; omega)
                  have HOLT : Hid (∀ q, blk OA = some q → q < wr.heap.size) := Lib.hid (fun q e => (HI.out.row.blk_ge q e).2)
                  have hyb : Y.length ≤ 1677721600000 := by omega
                  clear hrd hyn
                  have HST : Hid (∀ (w8 : World) (A3 : Option Addr) (c3 : Nat) (L8 : List Yv), L8 = Y ++ [⟨vA, vc, vb⟩] → ((wr.alloc (.cells #[.int .i64 (vn : Int), .slice vA vb.length vc] 92)).alloc (.cells #[.slice vA vb.length vc] 23)).grownBy w8 (blk OA) → OwnS Yv.cells 1 w8 w5.heap.size 23 A3 c3 L8 →
                      (w8.cell? ⟨wr.heap.size, 0, none⟩ = some (.int .i64 (vn : Int)) ∧ w8.cell? ⟨lb, 4, none⟩ = some (.int .i64 ((nextOf (LB.take k) : Nat) : Int)) ∧ w8.frozen? ⟨lb, 4, none⟩ = false) ∧ OpI w5 lb g l5 LB (k + 1) A3 c3 L8 (w8.setCell ⟨lb, 4, none⟩ (.int .i64 ((vn + 1 : Nat) : Int)))) := Lib.hid (fun w8 A3 c3 L8 hL hg ho => by
                    subst hL
                    have h9 := HI.out.step HLR.out hlt hg (by rw [← HV2.out]; exact ho)
                    rw [← HV2.out] at h9
                    have hz : w8.heap[wr.heap.size]? = some (.cells #[.int .i64 (vn : Int), .slice vA vb.length vc] 92) := by
                      rw [hg.block _ (by simp; omega) (fun e => by have := HOLT.out _ e.symm; omega), Below.heap_alloc _ _ _ (by simp)]
                      exact heap_alloc_new wr _
                    have h8 := h9.1
                    unfold lgObj at h8
                    exact ⟨⟨by rw [cell_of_row w8 _ 0 _ _ (0, 0) hz]; rfl, by rw [cell_of_row w8 lb 4 _ _ (0, 0) h8]; rfl, frozen_of_row w8 lb 4 _ _ h8⟩, h9.2⟩)
                  have ew : IntKind.i64.wrap ((vn : Int) + 1) = ((vn + 1 : Nat) : Int) := by rw [IntKind.wrap_i64]; omega
                  go_wp2_with (at_builtin; refine wpList_append_s _ rfl _ _ yvT rfl w5.heap.size OA oc Y rfl ((HI.out.row.alloc _).alloc _) (wr.heap.size + 2) (some ⟨wr.heap.size + 1, 0, none⟩) 1 1 [⟨vA, vc, vb⟩] rfl rfl HRD.out (by simp; omega) (by unfold maxLen; simp; omega) (by simp; omega) ?_; intro A8 c8 L8 w8 hl8 ho8 hg8 hat8; obtain ⟨z0, z4, z5⟩ := (HST.out w8 A8 c8 L8 hl8 hg8 ho8).1; have HGO := Lib.hid hg8; have HOO := Lib.hid ho8; have HLO := Lib.hid hl8; clear hg8 ho8 hl8)
                  exact ⟨⟨k + 1, c8, A8, L8, hlt, by simp, by rw [HLO.out], Lib.hid (by rw [HLO.out, List.length_append, HYN.out]; rfl), Lib.hid (HST.out w8 A8 c8 L8 HLO.out HGO.out HOO.out).2⟩, by simp only [intOf]; omega⟩
                · have hke : k = LB.length := by omega
                  have HKE := Lib.hid hke
                  have hrow : OwnS Bv.cells 2 wr w1.heap.size 92 A4 c4 LB := HOB5.out.keep (fun q e => by
                    have t := Sto.ownTagS HOB5.out e
                    exact HI.out.hk q t.lt (by rw [HLB2.out]; exact t.ne HS5.out.lb_tag (by decide)))
                  obtain ⟨b, off, hA, c0, c1⟩ := rd_bt_cells hrow hpos
                  rw [Nat.zero_mul, Nat.add_zero] at c0
                  obtain ⟨z, hz⟩ : ∃ z, z = (LB[0]).n := ⟨_, rfl⟩
                  rw [← hz] at c0
                  have HZ : Hid ((((there s).head?.map (·.1)).getD 0 : Nat) = z) := Lib.hid (by rw [← HF.out, ← HLB.out, head_bt hpos, hz]; rfl)
                  subst hA
                  clear hrow c1 hz hke
                  go_wp2_with fail
                  go_quiet (fail)
                  refine Sto.drewN_of (fun X hbX hXh => ?_)
                  have HI := Lib.hid (HI.out.below (by rw [HLB2.out]; exact HLZ.out) hbX)
                  clear hbX hXh c0
                  go_wp2_with fail
                  refine bodyPost_ret (results_q4 rfl _ _ _) rfl ?_
                  have hlbw := HLB2.out
                  subst hlbw
                  obtain ⟨s1, s2, s3, s4⟩ := HI.out.same
                  have hbx := HI.out.hb
                  rw [HKE.out, List.take_length] at hbx
                  have hnx : nextOf LB ≤ 1099511627777 ∧ 1 ≤ nextOf LB := by
                    unfold nextOf
                    rcases hg : LB.getLast? with _ | q
                    · exact ⟨by decide, Nat.le_refl _⟩
                    · have := HNB.out q (List.mem_of_getLast? hg)
                      simp only; omega
                  have hok5 := HL5.out.2.2
                  have hls := (HS5.out.turn (l' := { l5 with next := nextOf LB }) s1 s2 s3 s4 HI.out.hk hbx rfl ⟨hok5.limit, hok5.last, hok5.size, ⟨hnx.2, hnx.1⟩, by simp only; rw [HL5.out.1]; exact hnx.2, hok5.one⟩).1
                  have ha : Aft0 w1 X g m m5 := ⟨s1.trans HA0.out.os, s2.trans HA0.out.tape, s3.trans HA0.out.output, Nat.le_trans HA0.out.size s4, fun q hq hn => (HI.out.hk q (by have := HLZ.out; omega) (Nat.ne_of_lt hq)).trans (HA0.out.block q hq hn), HA0.out.turn⟩
                  have hb5 : base ≤ w5.heap.size := by have := HLZ.out; omega
                  have hY : Y = LB.map yvOf := by rw [HI.out.eq, HKE.out, List.take_length]
                  rw [HE.out]
                  refine .inr ⟨_, there s, w1.heap.size, OA, oc, Y, m5, rfl, rfl, by rw [HZ.out]; rfl, ?_, ha, Nat.le_refl _, ?_, HI.out.row.mono hb5, fun v hv => ?_⟩
                  · have e9 : (match (there s).getLast? with | none => 1 | some z => z.1 + 1) = nextOf LB := by rw [← HF.out, ← HLB.out]; exact nextOf_bt LB
                    rw [e9]
                    exact hls
                  · rw [hY, ← HF.out, ← HLB.out, List.map_map, List.map_map]; rfl
                  · rw [hY] at hv
                    obtain ⟨u, hu, rfl⟩ := List.mem_map.1 hv
                    obtain ⟨y1, y2⟩ := HYK.out u hu
                    refine ⟨y1.keep s4 (fun q e => HI.out.hk q (y1.at_ q e).1 (fun e2 => ?_)), fun q e => ⟨Nat.lt_of_lt_of_le (y2 q e).1 s4, (y2 q e).2⟩⟩
                    rcases (y1.at_ q e).2 with h3 | h3
                    · omega
                    · exact h3.ne HS5.out.lb_tag (by decide) e2
          · have e1 : (c == 0) = false := by simpa using hcz
            have e2 : (c != 0) = true := by simpa using hcz
            have HE := Lib.hid (opens_bad HN.out HO.out.symm HL0.out (by rw [← HC.out]; exact hcz))
            clear hcz
            go_wp2_with fail
            exact bodyPost_ret (results_q4 rfl _ _ _) rfl (by rw [HE.out, ← HC.out]; exact .inl ⟨rfl, rfl, m5, HS5.out.st, HA0.out⟩)
      · have HE := Lib.hid (opens_off HN.out HO.out.symm)
        go_wp2_with fail
        exact bodyPost_ret (results_q4 rfl _ _ _) rfl (by rw [HE.out]; exact .inl ⟨rfl, rfl, m, H.out, Aft0.of_below (Below.refl _ _)⟩)
end
end Wal
end Go.Proofs.YtaiokogbhfliiaaGreatDoor
