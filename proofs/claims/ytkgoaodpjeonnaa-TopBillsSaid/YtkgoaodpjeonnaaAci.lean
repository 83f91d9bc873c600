/- does, at the steps of File and of Advance. -/
import Derived.Test.YtkgoaodpjeonnaaAcg
import Derived.Test.YtkgoaodpjeonnaaAch
namespace Go.Proofs.Ytkgoaodpjeonnaa
open Go.RowKit

theorem enters_file : ∀ args w, (callFunc 17 args).run Try.prog w = .ok (.enter 17 args) w := enters_of Try.func17 (by kernel_rfl) rfl
theorem enters_adv : ∀ args w, (callFunc 23 args).run Try.prog w = .ok (.enter 23 args) w := enters_of Try.func23 (by kernel_rfl) rfl
theorem cop_nil (ga : Nat) (day bp cr : Int) (w : World) (ha : AB w ga day bp cr none 0 0) (W : World) (hb : Below w.heap.size w W) :
    Calls Try.prog 34 #[.pointer (some ⟨ga, 0, none⟩)] W (CopH W (fun X gb => AB X gb day bp cr none 0 0)) :=
  (copied_nil ga day bp cr W (ha.on hb)).mono fun _ _ ⟨gb, he, hg, hab, hb'⟩ => ⟨gb, he, hg, hab.lt, hab, hb'⟩
/-- What a copy with one period is. -/
def OneH (B : Nat) (day bp cr : Int) (p : Per) (X : World) (gb : Nat) : Prop := ∃ gq c, AB X gb day bp cr (some ⟨gq, 0, none⟩) 1 c ∧ PB X gq p ∧ B ≤ gq ∧ gq ≠ gb
theorem cop_one (ga gp : Nat) (day bp cr : Int) (c : Nat) (p : Per) (w : World) (ha : AB w ga day bp cr (some ⟨gp, 0, none⟩) 1 c) (hp : PB w gp p) (W : World) (hb : Below w.heap.size w W) :
    Calls Try.prog 34 #[.pointer (some ⟨ga, 0, none⟩)] W (CopH W (OneH W.heap.size day bp cr p)) :=
  (copied_one ga gp day bp cr c p W (ha.on hb) (hp.on hb)).mono fun _ _ ⟨gb, A, c', he, hg, hab, ⟨gq, hA, hne, hgq, hpb⟩, hb'⟩ => by
    subst hA
    exact ⟨gb, he, hg, hab.lt, ⟨gq, c', hab, hpb, hgq, hne⟩, hb'⟩
theorem does_file_ok (ga gr gl : Nat) (day bp per due filed inc wh tax prin pen exc v : Int) (w : World) (h : FileIn w ga gr gl day bp per due filed inc wh tax prin pen exc) (hv : v = intV day bp due prin) (hv1 : v ≤ 4611686018427387904) :
    Calls Try.prog 16 #[.pointer (some ⟨ga, 0, none⟩), .func (.func 17) #[] #[.pointer (some ⟨gr, 0, none⟩), .pointer (some ⟨gl, 0, none⟩)]] w (DoesOk ga pen v prin 0 exc 0 day bp exc ⟨per, due, filed, inc, wh, pen, v, prin, due, 0, v⟩ w) := by
  obtain ⟨ab, rb, zb, b0, b1, d0, d1, s0, p0, p1, x0, x1⟩ := h
  have hr := heap_lt rb
  have hl := heap_lt zb
  refine does_ok _ _ enters_file ga day bp 0 none 0 0 (fun X gb => AB X gb day bp 0 none 0 0) _ _ _ _ _ _ _ _ _ _ w ab (fun W hb _ => cop_nil ga day bp 0 w ab W hb) (fun W gb hg hb _ hH => ?_)
  exact file_step_ok gb gr gl day bp per due filed inc wh tax prin pen exc v (w.heap.size + 2) W ⟨hH, (hb.block _ hr).trans rb, (hb.block _ hl).trans zb, b0, b1, d0, d1, s0, p0, p1, x0, x1⟩ hg (by omega) (by omega) hv hv1
theorem does_file_over (ga gr gl : Nat) (day bp per due filed inc wh tax prin pen exc : Int) (w : World) (h : FileIn w ga gr gl day bp per due filed inc wh tax prin pen exc) (hv1 : 4611686018427387904 < intV day bp due prin) :
    Calls Try.prog 16 #[.pointer (some ⟨ga, 0, none⟩), .func (.func 17) #[] #[.pointer (some ⟨gr, 0, none⟩), .pointer (some ⟨gl, 0, none⟩)]] w (DoesOver w) := by
  obtain ⟨ab, rb, zb, b0, b1, d0, d1, s0, p0, p1, x0, x1⟩ := h
  have hr := heap_lt rb
  have hl := heap_lt zb
  refine does_over _ _ enters_file ga (fun X gb => AB X gb day bp 0 none 0 0) w (fun W hb _ => cop_nil ga day bp 0 w ab W hb) (fun W gb hg hb _ hH => ?_)
  exact file_step_over gb gr gl day bp per due filed inc wh tax prin pen exc (w.heap.size + 2) W ⟨hH, (hb.block _ hr).trans rb, (hb.block _ hl).trans zb, b0, b1, d0, d1, s0, p0, p1, x0, x1⟩ hg (by omega) (by omega) hv1
/-- What Advance is given. -/
structure AdvAt (w : World) (ga gp gd : Nat) (day bp cr : Int) (c : Nat) (p : Per) (days : Int) : Prop where
  ab : AB w ga day bp cr (some ⟨gp, 0, none⟩) 1 c
  pb : PB w gp p
  nb : NB w gd days
  b0 : 0 ≤ bp
  b1 : bp ≤ 100000
  d0 : 0 ≤ day
  y0 : 0 ≤ days
  d1 : day + days ≤ 3652058
  s0 : 0 ≤ p.since
  p0 : 0 ≤ p.o2
  p1 : p.o2 ≤ 4611686018427387904
  dn : p.done = 0
  a0 : 0 ≤ p.acc
  a1 : p.acc ≤ 4611686018427387904
  o1 : p.o1 = p.acc
theorem adv_in {w : World} {ga gp gd : Nat} {day bp cr : Int} {c : Nat} {p : Per} {days : Int} (h : AdvAt w ga gp gd day bp cr c p days) {W : World} {gb : Nat} (hg : w.heap.size + 2 ≤ gb) (hb : Below w.heap.size w W) (hH : OneH (w.heap.size + 2) day bp cr p W gb) : ∃ gq c', AdvIn W (w.heap.size + 2) gb gq gd day bp cr c' p days := by
  obtain ⟨gq, c', hab, hpb, hq, hne⟩ := hH
  exact ⟨gq, c', hab, hpb, (hb.block _ (heap_lt h.nb)).trans h.nb, hg, hq, hne, h.b0, h.b1, h.d0, h.y0, h.d1, h.s0, h.p0, h.p1, h.dn, h.a0, h.a1, h.o1⟩
theorem one_mono {B B' : Nat} {day bp cr : Int} {p : Per} {X : World} {gb : Nat} (h : OneH B day bp cr p X gb) (hB : B' ≤ B) : OneH B' day bp cr p X gb := by
  obtain ⟨gq, c, h1, h2, h3, h4⟩ := h
  exact ⟨gq, c, h1, h2, by omega, h4⟩
theorem cop_one2 (ga gp : Nat) (day bp cr : Int) (c : Nat) (p : Per) (w : World) (ha : AB w ga day bp cr (some ⟨gp, 0, none⟩) 1 c) (hp : PB w gp p) (W : World) (hb : Below w.heap.size w W) (hz : w.heap.size + 2 ≤ W.heap.size) :
    Calls Try.prog 34 #[.pointer (some ⟨ga, 0, none⟩)] W (CopH W (OneH (w.heap.size + 2) day bp cr p)) :=
  (cop_one ga gp day bp cr c p w ha hp W hb).mono fun _ _ ⟨gb, he, hg, hl, h1, hb'⟩ => ⟨gb, he, hg, hl, one_mono h1 hz, hb'⟩
theorem does_adv_ok (ga gp gd : Nat) (day bp cr : Int) (c : Nat) (p : Per) (days v : Int) (w : World) (h : AdvAt w ga gp gd day bp cr c p days) (hv : v = intV (day + days) bp p.since p.o2) (hv1 : v ≤ 4611686018427387904) :
    Calls Try.prog 16 #[.pointer (some ⟨ga, 0, none⟩), .func (.func 23) #[] #[.pointer (some ⟨gd, 0, none⟩)]] w (DoesOk ga 0 (v - p.acc) 0 0 0 0 (day + days) bp cr { p with o1 := v, acc := v } w) := by
  refine does_ok _ _ enters_adv ga day bp cr (some ⟨gp, 0, none⟩) 1 c (OneH (w.heap.size + 2) day bp cr p) _ _ _ _ _ _ _ _ _ _ w h.ab (fun W hb hz => cop_one2 ga gp day bp cr c p w h.ab h.pb W hb hz) (fun W gb hg hb _ hH => ?_)
  obtain ⟨gq, c', hin⟩ := adv_in h hg hb hH
  exact adv_step_ok gb gq gd day bp cr c' p days v (w.heap.size + 2) W hin hv hv1
theorem does_adv_over (ga gp gd : Nat) (day bp cr : Int) (c : Nat) (p : Per) (days : Int) (w : World) (h : AdvAt w ga gp gd day bp cr c p days) (hv1 : 4611686018427387904 < intV (day + days) bp p.since p.o2) :
    Calls Try.prog 16 #[.pointer (some ⟨ga, 0, none⟩), .func (.func 23) #[] #[.pointer (some ⟨gd, 0, none⟩)]] w (DoesOver w) := by
  refine does_over _ _ enters_adv ga (OneH (w.heap.size + 2) day bp cr p) w (fun W hb hz => cop_one2 ga gp day bp cr c p w h.ab h.pb W hb hz) (fun W gb hg hb _ hH => ?_)
  obtain ⟨gq, c', hin⟩ := adv_in h hg hb hH
  exact adv_step_over gb gq gd day bp cr c' p days (w.heap.size + 2) W hin hv1
end Go.Proofs.Ytkgoaodpjeonnaa
