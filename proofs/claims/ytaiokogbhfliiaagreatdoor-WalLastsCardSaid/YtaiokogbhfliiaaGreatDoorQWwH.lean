/- Plain: what WalLasts keeps: a log over a store that may fail. -/
import Derived.Test.YtaiokogbhfliiaaGreatDoorMrg40
namespace Go.Proofs.YtaiokogbhfliiaaGreatDoor
open Go.WideShapes

namespace Wal
/-- A log beside its store, failing or not: S was committed, O was added behind. -/
structure Las (s : Sto.St) (l : Lg) (S O : List (List UInt8)) (n : Nat) : Prop where
  way : (∃ fs f, Lo s 1 fs f l O ∧ flat (fs ++ [f]) = S ∧ f.n ≤ n + 1) ∨ (l.broken = true ∧ Safe s 1 S O (n + 1))
  fl : s.files.length ≤ n + 1
  kp : s.kept.length ≤ n + 1
  wt : l.waiting.length ≤ n
  len : S.length + O.length ≤ n
section
variable {s : Sto.St} {l : Lg} {S O : List (List UInt8)} {n : Nat}
theorem Las.mono (h : Las s l S O n) {m : Nat} (hm : n ≤ m) : Las s l S O m :=
  ⟨h.way.imp (fun ⟨fs, f, h1, h2, h3⟩ => ⟨fs, f, h1, h2, by omega⟩) (fun ⟨h1, h2⟩ => ⟨h1, h2.mono (by omega)⟩), by have := h.fl; omega, by have := h.kp; omega, by have := h.wt; omega, by have := h.len; omega⟩
theorem Las.add (h : Las s l S O n) (b : List UInt8) : Las s (add l b).2.2 S (if (Wal.add l b).1 = 0 then O ++ [b] else O) (n + 1) := by
  rcases h.way with ⟨fs, f, h1, h2, h3⟩ | ⟨h1, h2⟩
  · by_cases a : 60000 < b.length
    · rw [add_big b h1.brk a]; exact h.mono (Nat.le_succ _)
    · by_cases c : 1099511627776 < l.next
      · rw [add_over b h1.brk a c]; exact h.mono (Nat.le_succ _)
      · rw [add_ok b h1.brk a c]
        simp only [if_pos]
        have hw := h.wt
        have hn := h1.next
        refine ⟨.inl ⟨fs, f, ⟨h1.cl, h1.last, h1.clean, h1.brk, ?_, ?_, h1.pos, ?_, ?_⟩, h2, by omega⟩, by have := h.fl; omega, by have := h.kp; omega, ?_, ?_⟩
        · simp only
          rw [h1.wait, numb_app, hn]; rfl
        · simp only
          rw [hn, List.length_append, List.length_cons, List.length_nil]; omega
        · simp only; omega
        · intro x hx
          rw [← List.append_assoc] at hx
          rcases List.mem_append.1 hx with hx | hx
          · exact h1.fit x hx
          · rw [List.mem_singleton] at hx; rw [hx]; omega
        · simp only [List.length_append, List.length_cons, List.length_nil]; omega
        · have := h.len
          simp only [List.length_append, List.length_cons, List.length_nil]; omega
  · rw [add_brk b h1]; exact h.mono (Nat.le_succ _)
theorem commit_wait : (commit s l).2.2.waiting.length ≤ l.waiting.length := by
  have hr : (room s l).2.2.waiting = l.waiting := by
    unfold room
    split
    · rfl
    · split
      · rfl
      · exact mk_lg.2.1
  unfold commit
  split
  · exact Nat.le_refl _
  · split
    · exact Nat.le_refl _
    · simp only
      split
      · simp only [hr]; exact Nat.le_refl _
      · split
        · simp only [hr]; exact Nat.le_refl _
        · split
          · simp only [hr]; exact Nat.le_refl _
          · simp
theorem Las.commit (h : Las s l S O n) (hn : n ≤ 1000) : Las (commit s l).2.1 (commit s l).2.2 (if (Wal.commit s l).1 = 0 then S ++ O else S) (if (Wal.commit s l).1 = 0 then [] else O) (n + 1) := by
  have hz := commit_sz (s := s) (l := l)
  have hw := commit_wait (s := s) (l := l)
  have q1 := h.fl
  have q2 := h.kp
  have q3 := h.wt
  have q4 := h.len
  rcases h.way with ⟨fs, f, h1, h2, h3⟩ | ⟨h1, h2⟩
  · rcases commit_ways h1 (by omega) with ⟨c1, c2, c3⟩ | ⟨c1, fs', f', c2, c3, c4⟩
    · rw [if_neg c1, if_neg c1]
      exact ⟨.inr ⟨c2, by rw [← h2]; exact c3.mono (by omega)⟩, by omega, by omega, by omega, by omega⟩
    · rw [if_pos c1, if_pos c1]
      exact ⟨.inl ⟨fs', f', c2, by rw [c3, h2], by omega⟩, by omega, by omega, by omega, by rw [List.length_append, List.length_nil]; omega⟩
  · rw [commit_brk h1]; exact h.mono (Nat.le_succ _)
theorem Las.plan (h : Las s l S O n) (p : List UInt8) : Las { s with plan := p } l S O (n + 1) := by
  have q1 := h.fl
  have q2 := h.kp
  have q3 := h.wt
  have q4 := h.len
  refine ⟨?_, by show s.files.length ≤ _; omega, by show s.kept.length ≤ _; omega, by omega, by omega⟩
  rcases h.way with ⟨fs, f, h1, h2, h3⟩ | ⟨h1, h2⟩
  · have hc := h1.cl.turn p
    have e : ({ s with plan := p, off := false } : Sto.St) = { s with plan := p } := by
      have ho := h1.cl.off
      obtain ⟨a1, a2, a3, a4, a5, a6, a7⟩ := s
      simp only at ho
      subst ho
      rfl
    rw [e] at hc
    exact .inl ⟨fs, f, ⟨hc, h1.last, h1.clean, h1.brk, h1.wait, h1.next, h1.pos, h1.top, h1.fit⟩, h2, by omega⟩
  · exact .inr ⟨h1, (h2.turn p s.off).mono (by omega)⟩
theorem Las.safe (h : Las s l S O n) : Safe s 1 S O (n + 1) := by
  rcases h.way with ⟨fs, f, h1, h2, h3⟩ | ⟨_, h2⟩
  · rw [← h2]
    refine h1.cl.safe (fun g hg => ?_) O
    have := h1.inc g hg
    have := h1.last
    omega
  · exact h2
/-- Behind a crash, opened again. -/
theorem Las.crash (h : Las s l S O n) (c : Int) (keep : List Int) (limit : Int) (h1 : 1 ≤ limit) (h2 : limit ≤ 65536) (hn : n ≤ 1000) :
    ∃ s' l' B j, opens (Sto.crash s c keep) limit = (0, s', some (l', numb 1 B)) ∧ B = S ++ O.take j ∧ Las s' l' B [] (n + 1) := by
  obtain ⟨fs, j, hc, hf, hN⟩ := h.safe c keep
  obtain ⟨s', l', e, a1, a2, a3, a4, i, b1, b2, b3, b4, b5⟩ := opens_ok (N := n + 1) hc rfl limit h1 h2 hN (by omega)
  have hz := opens_sz (s := Sto.crash s c keep) limit
  rw [e] at hz
  have q1 := h.fl
  have q4 := h.len
  have hfl : (Sto.crash s c keep).files.length = s.files.length := Sto.cutAll_len _ _ _ _
  have hkp : (Sto.crash s c keep).kept.length = 0 := rfl
  simp only at hz
  have hBl : (flat fs).length ≤ n := by
    rw [hf, List.length_append, List.length_take]; omega
  have hfl2 : flat (fs ++ [⟨l'.last, i, []⟩]) = flat fs := by rw [flat_one, List.append_nil]
  have hnx : l'.next = 1 + (flat fs).length := by
    rw [a4]
    split
    · rename_i h0; rw [h0]; rfl
    · rfl
  refine ⟨s', l', flat fs, j, e, hf, ⟨.inl ⟨fs, ⟨l'.last, i, []⟩, ⟨b1, rfl, ?_, b4, ?_, ?_, Nat.le_refl _, by rw [hnx]; omega, fun b hb => by cases hb⟩, hfl2, by simp only; omega⟩, by omega, by omega, by rw [b5]; exact Nat.zero_le _, by rw [List.length_nil]; omega⟩⟩
  · simp only
    rw [b2]; rfl
  · rw [b5]; rfl
  · rw [hnx, hfl2]; rfl
/-- A new store, opened. -/
theorem las_new (room : Int) (hr : 0 ≤ room ∧ room ≤ 16777216) (limit : Int) (h1 : 1 ≤ limit) (h2 : limit ≤ 65536) :
    ∃ s' l', opens (Sto.new room) limit = (0, s', some (l', [])) ∧ Las s' l' [] [] 0 := by
  obtain ⟨s', l', e, a1, a2, a3, a4, a5, b4, b5, i, b1, b2, b3⟩ := opens_new room hr 1 limit h1 h2
  have hz := (opens_sz (s := Sto.new room) limit).2
  rw [e] at hz
  have hk : (Sto.new room).kept.length = 0 := rfl
  simp only at hz
  refine ⟨s', l', e, ⟨.inl ⟨[], ⟨1, i, []⟩, ⟨b1, a5, ?_, b4, ?_, ?_, Nat.le_refl _, by rw [a4]; decide, fun b hb => by cases hb⟩, rfl, Nat.le_refl _⟩, by omega, by omega, by rw [b5]; exact Nat.le_refl _, Nat.le_refl _⟩⟩
  · simp only
    rw [b2]; rfl
  · rw [b5]; rfl
  · rw [a4]; rfl
end
end Wal
end Go.Proofs.YtaiokogbhfliiaaGreatDoor
