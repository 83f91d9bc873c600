/- Plain: what Retire comes to, where nothing fails. -/
import Derived.Test.YtaiokogbhfliiaaGreatDoorMrg38
import Derived.Test.YtaiokogbhfliiaaGreatDoorMrg39
namespace Go.Proofs.YtaiokogbhfliiaaGreatDoor
open Go.WideShapes

namespace Wal
theorem name_inj {a b : Nat} (ha : a < 1000000) (hb : b < 1000000) (h : name a = name b) : a = b := by
  have := congrArg numbered h
  rwa [numbered_name a ha, numbered_name b hb] at this
section
variable {s : Sto.St} {k N : Nat} {fs : List Fi} {f : Fi} {l : Lg}
theorem Dirs.without {d : Sto.Dir} (h : Dirs d fs) (n : Nat) (hn : n < 1000000) : Dirs (Sto.del d (name n)) (fs.filter fun f => f.n != n) := by
  have e : Sto.del d (name n) = (fs.filter fun f => f.n != n).map Fi.ent := by
    unfold Sto.del
    rw [h.eq, List.filter_map]
    congr 1
    refine List.filter_congr (fun f hf => ?_)
    have hb := (h.bd f hf).2
    show (!(name f.n == name n)) = (f.n != n)
    by_cases e : f.n = n
    · rw [e]; simp
    · have : name f.n ≠ name n := fun e2 => e (name_inj (by omega) hn e2)
      rw [beq_eq_false_iff_ne.2 this, bne, beq_eq_false_iff_ne.2 e]
  exact ⟨e, h.inc.filter _, fun f hf => h.bd f (List.mem_filter.1 hf).1⟩
theorem remove_plain {s : Sto.St} (hd : Dirs s.now fs) (ho : s.off = false) (hp : s.plan = []) (hf : f ∈ fs) : Sto.remove s (name f.n) = (0, Sto.change s (.del (name f.n))) := by
  unfold Sto.remove
  rw [Sto.meet_plain s _ (name_all (by have := (hd.bd f hf).2; omega)) ho hp]
  simp only
  rw [if_neg (fun h => h rfl), hd.find hf]
theorem removes_plain : ∀ (l : List Nat) (s : Sto.St) (fs : List Fi), Sto.Ok s → Dirs s.now fs → s.off = false → s.plan = [] → l.Nodup → (∀ n ∈ l, ∃ f ∈ fs, f.n = n) →
    ∃ s', removes s l = (0, s') ∧ Sto.Ok s' ∧ Dirs s'.now (fs.filter fun f => !l.contains f.n) ∧ s'.off = false ∧ s'.plan = [] ∧ s'.files = s.files ∧ s'.room = s.room
  | [], s, fs, hok, hd, ho, hp, _, _ => ⟨s, rfl, hok, by
    have : (fs.filter fun f => !([] : List Nat).contains f.n) = fs := List.filter_eq_self.2 (fun f _ => by simp)
    rw [this]; exact hd, ho, hp, rfl, rfl⟩
  | n :: l, s, fs, hok, hd, ho, hp, hn, hm => by
    obtain ⟨f, hf, rfl⟩ := hm n (by simp)
    obtain ⟨hn1, hn2⟩ := List.nodup_cons.1 hn
    have hr := remove_plain hd ho hp hf
    have hb := (hd.bd f hf).2
    have hok1 := hok.remove (name f.n)
    rw [hr] at hok1
    have hd1 : Dirs (Sto.change s (.del (name f.n))).now (fs.filter fun x => x.n != f.n) := hd.without f.n (by omega)
    obtain ⟨s', h1, h2, h3, h4, h5, h6, h7⟩ := removes_plain l _ _ hok1 hd1 ho hp hn2 (fun n hnm => by
      obtain ⟨x, hx, e⟩ := hm n (by simp [hnm])
      refine ⟨x, List.mem_filter.2 ⟨hx, ?_⟩, e⟩
      rw [e]
      have : n ≠ f.n := fun e2 => hn1 (e2 ▸ hnm)
      simp [this])
    refine ⟨s', ?_, h2, ?_, h4, h5, h6, h7⟩
    · rw [removes]
      simp only [hr]
      rw [if_neg (fun h => h rfl)]
      exact h1
    · rw [List.filter_filter] at h3
      have e : (fs.filter fun x => !(f.n :: l).contains x.n) = fs.filter fun a => (!l.contains a.n) && (a.n != f.n) := List.filter_congr (fun x _ => by
        rw [List.contains_cons]
        cases h9 : (x.n == f.n) <;> cases l.contains x.n <;> simp [bne, h9])
      rw [e]; exact h3
theorem keep_go {s : Sto.St} {all : List Fi} (hd : Dirs s.now all) (ho : s.off = false) (l : Lg) (n : Int) : ∀ (fs : List Fi) (k : Nat), (∀ f ∈ fs, f ∈ all) → Lies s k fs → (∀ f ∈ fs, f.n ≤ l.last) → (fs.Pairwise fun a b => a.n < b.n) → 1 ≤ k →
    ∃ k', k ≤ k' ∧ (k' = k ∨ (k' : Int) ≤ n + 1) ∧ k' ≤ k + (flat fs).length ∧ Lies s k' (fs.filter fun f => !keepP s l n f.n) ∧ flat (fs.filter fun f => !keepP s l n f.n) = (flat fs).drop (k' - k)
  | [], k, _, _, _, _, _ => ⟨k, Nat.le_refl _, .inl rfl, by omega, trivial, by simp [flat]⟩
  | f :: fs, k, hm, hl, hlast, hinc, hk => by
    obtain ⟨h1, h2⟩ := hl
    obtain ⟨hi1, hi2⟩ := List.pairwise_cons.1 hinc
    have ht : told s f.n = numb k f.g := by
      unfold told
      rw [hd.read ho (hm f (by simp)), h1]
    have hfl : flat (f :: fs) = f.g ++ flat fs := by simp [flat]
    have hfll : (flat (f :: fs)).length = f.g.length + (flat fs).length := by rw [hfl, List.length_append]
    obtain ⟨k'', a1, a2, a3, a4, a5⟩ := keep_go hd ho l n fs (k + f.g.length) (fun x hx => hm x (by simp [hx])) h2 (fun x hx => hlast x (by simp [hx])) hi2 (by omega)
    by_cases hl : f.n = l.last
    · have hnil : fs = [] := by
        rcases fs with _ | ⟨x, r⟩
        · rfl
        · have q1 := hi1 x (by simp)
          have q2 := hlast x (by simp)
          omega
      subst hnil
      have hkp : keepP s l n f.n = false := by unfold keepP; rw [hl]; simp
      refine ⟨k, Nat.le_refl _, .inl rfl, by omega, ?_, ?_⟩
      · rw [List.filter_cons, hkp]
        exact ⟨h1, trivial⟩
      · rw [List.filter_cons, hkp]
        simp [flat]
    · have hne : (f.n != l.last) = true := by simp [hl]
      by_cases hkp : keepP s l n f.n = true
      · have hg : f.g = [] ∨ ((k + f.g.length : Nat) : Int) ≤ n + 1 := by
          unfold keepP at hkp
          rw [hne, ht, Bool.true_and] at hkp
          rcases nil_or_snoc f.g with e | ⟨r, b, e⟩
          · exact .inl e
          · rw [e, numb_last] at hkp
            simp at hkp
            rw [e]
            exact .inr (by simp; omega)
        refine ⟨k'', by omega, ?_, by omega, ?_, ?_⟩
        · rcases hg with e | e
          · rw [e] at a2
            simpa using a2
          · right; omega
        · rw [List.filter_cons, hkp]; exact a4
        · rw [List.filter_cons, hkp, hfl]
          have e : k'' - k = f.g.length + (k'' - (k + f.g.length)) := by omega
          rw [e, ← List.drop_drop, List.drop_left]
          exact a5
      · have hkp : keepP s l n f.n = false := by simpa using hkp
        have hg : f.g ≠ [] ∧ n + 1 < ((k + f.g.length : Nat) : Int) := by
          unfold keepP at hkp
          rw [hne, ht, Bool.true_and] at hkp
          rcases nil_or_snoc f.g with e | ⟨r, b, e⟩
          · rw [e] at hkp; simp [numb] at hkp
          · rw [e, numb_last] at hkp
            simp at hkp
            rw [e]
            refine ⟨by simp, by simp; omega⟩
        have e2 : k'' = k + f.g.length := by rcases a2 with e | e <;> omega
        subst e2
        refine ⟨k, Nat.le_refl _, .inl rfl, by omega, ?_, ?_⟩
        · rw [List.filter_cons, hkp]; exact ⟨h1, a4⟩
        · rw [List.filter_cons, hkp, Nat.sub_self, List.drop_zero, hfl]
          have e3 : flat (f :: fs.filter fun f => !keepP s l n f.n) = f.g ++ flat (fs.filter fun f => !keepP s l n f.n) := by simp [flat]
          have e4 := a5
          rw [Nat.sub_self, List.drop_zero] at e4
          rw [← e4, ← e3]; rfl
/-- Retire, where nothing fails. -/
theorem retire_plain (h : Lo s k fs f l []) (hp : s.plan = []) (n : Int) : (retire s l n).1 = 0 ∧ (retire s l n).2.1.plan = [] ∧ (retire s l n).2.1.room = s.room ∧ (retire s l n).2.1.files = s.files ∧
    ∃ k' fs', k ≤ k' ∧ (k' = k ∨ (k' : Int) ≤ n + 1) ∧ k' ≤ k + (flat (fs ++ [f])).length ∧ Cl (retire s l n).2.1 k' fs' ∧ flat fs' = (flat (fs ++ [f])).drop (k' - k) ∧ ∀ x ∈ fs', x ∈ fs ++ [f] := by
  have hc := h.cl
  obtain ⟨k', a1, a2, a3, a4, a5⟩ := keep_go hc.dir hc.off l n (fs ++ [f]) k (fun _ h => h) hc.lies h.inc hc.dir.inc h.pos
  have hsub : ∀ x ∈ (fs ++ [f]).filter (fun f => !keepP s l n f.n), x ∈ fs ++ [f] := fun x hx => (List.mem_filter.1 hx).1
  by_cases ho : olds s l n = []
  · rw [retire_nil n h.brk ho]
    have e : ((fs ++ [f]).filter fun f => !keepP s l n f.n) = fs ++ [f] := List.filter_eq_self.2 (fun x hx => by
      rw [olds_eq, hc.dir.files, List.filter_eq_nil_iff] at ho
      have := ho x.n (List.mem_map.2 ⟨x, hx, rfl⟩)
      simpa using this)
    rw [e] at a4 a5
    exact ⟨rfl, hp, rfl, rfl, k', _, a1, a2, a3, ⟨hc.ok, hc.off, hc.dir, hc.disk, hc.kept, a4, hc.sync⟩, a5, fun _ h => h⟩
  · have hnd : (olds s l n).Nodup := by
      rw [olds_eq, hc.dir.files]
      refine (List.filter_sublist).nodup ?_
      unfold List.Nodup
      rw [List.pairwise_map]
      exact hc.dir.inc.imp (fun h => by omega)
    obtain ⟨s', r1, r2, r3, r4, r5, r6, r7⟩ := removes_plain (olds s l n) s (fs ++ [f]) hc.ok hc.dir hc.off hp hnd (fun x hx => by
      rw [olds_eq, hc.dir.files] at hx
      obtain ⟨y, hy, e⟩ := List.mem_map.1 (List.mem_filter.1 hx).1
      exact ⟨y, hy, e⟩)
    have hfe : ((fs ++ [f]).filter fun f => !(olds s l n).contains f.n) = (fs ++ [f]).filter fun f => !keepP s l n f.n := List.filter_congr (fun x hx => by
      congr 1
      rw [olds_eq, hc.dir.files, Bool.eq_iff_iff, List.contains_iff_mem, List.mem_filter]
      exact ⟨fun h => h.2, fun h => ⟨List.mem_map.2 ⟨x, hx, rfl⟩, h⟩⟩)
    rw [hfe] at r3
    have hsd := Sto.syncDir_plain s' r4 r5
    rw [retire_sync n h.brk ho r1, hsd]
    have hok2 := r2.syncDir
    rw [hsd] at hok2
    have hfi : ∀ i, Sto.file { s' with disk := s'.now, kept := [] } i = Sto.file s i := fun i => by unfold Sto.file; simp only; rw [r6]
    refine ⟨rfl, r5, r7, r6, k', _, a1, a2, a3, ⟨hok2, r4, r3, rfl, rfl, a4.congr (fun x hx => by rw [hfi]), fun x hx => ?_⟩, a5, hsub⟩
    rw [hfi]; exact hc.sync x (hsub x hx)
end
end Wal
end Go.Proofs.YtaiokogbhfliiaaGreatDoor
