/- Parts of the proof, one behind the other: Both logs beside each other; do, at each step.; The plain log: its last file is there, as long as the log says.; The plain log: its last file is kept by commit, retire.; The plain log: names and sizes behind commit, retire; a step of WalScripts.; Both logs beside each other, with the rows that opening gave. -/
import Derived.Test.YtaiokogbhfliiaaGreatDoorSrg07
import Derived.Test.YtaiokogbhfliiaaGreatDoorMrg39
import Derived.Test.YtaiokogbhfliiaaGreatDoorSrg01
import Derived.Test.YtaiokogbhfliiaaGreatDoorMrg25
import Derived.Test.YtaiokogbhfliiaaGreatDoorMrg40
import Derived.Test.YtaiokogbhfliiaaGreatDoorSrg05
namespace Go.Proofs.YtaiokogbhfliiaaGreatDoor
open Go.RowKit Go.Maps

namespace Ref
/-- A reference's log beside a real one's operation. -/
theorem LS.beside {w w' : World} {br gr bs g : Nat} {s s2 : Sto.St} {mr : Mem} {m m' : Sto.Mem} {l l2 : Wal.Lg} {x : Lm} {x2 x2' : Wal.Lm} (h : LS w br gr s mr l x) (hs : Wal.LS w bs g s2 m l2 x2) (ha : Wal.LAft w w' g m x2 m' x2') (hp : ∀ k, LRow mr x k → ¬ Sto.Mut g m k) (hz : w.heap.size ≤ w'.heap.size) : LS w' br gr s mr l x := by
  have hk : ∀ k T, Sto.Tag w k T → T ∈ ([5, 126, 128, 124, 83, 95, 99] : List TypeId) → (T = 5 → LRow mr x k) → w'.heap[k]? = w.heap[k]? := fun k T t hT hr => by
    refine ha.block k t.lt (fun hm => ?_)
    rcases hm with hm | hm | hm
    · by_cases hu : T = 5
      · exact hp k (hr hu) hm
      · refine hs.st.not_foot t ?_ ?_ ?_ ?_ ?_ (fun e => absurd e hu) (.inl hm)
        all_goals (intro e; rw [e] at hT; revert hT; decide)
    · exact t.ne hs.lb_tag (fun e => by rw [e] at hT; revert hT; decide) hm
    · exact (Sto.ownTagS hs.wt.row hm).ne t (fun e => by rw [← e] at hT; revert hT; decide) rfl
  refine ⟨⟨(hk gr _ h.st.gt (by decide) (fun e => absurd e (by decide))).trans h.st.box, h.st.r.keep hz (fun k T t _ hT hr => hk k T t ?_ (fun e => .inl (hr e)))⟩, (hk x.lb _ h.tag (by decide) (fun e => absurd e (by decide))).trans h.box, h.lbb, h.wrow.keep (fun k e => hk k _ (Sto.ownTagS h.wrow e) (by decide) (fun e => absurd e (by decide))), h.wbt, fun v hv => (h.wby v hv).keep hz (fun k e => hk k _ ((h.wby v hv).at_ k e).2 (by decide) (fun _ => .inr ⟨v, hv, e⟩)), h.ok⟩
  revert hT
  simp only [List.mem_cons, List.not_mem_nil, or_false]
  rintro (h | h | h | h) <;> simp [h]
/-- Both logs, behind a call that began at W. -/
structure BothL (w W : World) (bs g : Nat) (s : Sto.St) (m : Sto.Mem) (l : Wal.Lg) (xl : Wal.Lm) (br gr : Nat) (t : Sto.St) (mr : Mem) (k : Wal.Lg) (xr : Lm) : Prop where
  real : Wal.LS w bs g s m l xl
  ref : LS w br gr t mr k xr
  apart : ∀ b, LRow mr xr b → ¬ Sto.Mut g m b
  lo : W.heap.size ≤ bs
  lo2 : W.heap.size ≤ br
  lo3 : bs ≤ br
  below : Below W.heap.size W w
section
variable {w w' W : World} {bs g br gr : Nat} {s s' t t' : Sto.St} {m m' : Sto.Mem} {mr mr' : Mem} {l l' k k' : Wal.Lg} {xl xl' : Wal.Lm} {xr xr' : Lm}
theorem BothL.both (h : BothL w W bs g s m l xl br gr t mr k xr) : Both w W bs g s m br gr t mr := ⟨h.real.st, h.ref.st, fun b hb => h.apart b (.inl hb), h.lo, h.lo2, h.lo3, h.below⟩
theorem BothL.op (h : BothL w W bs g s m l xl br gr t mr k xr) (hls : Wal.LS w' bs g s' m' l' xl') (ha : Wal.LAft w w' g m xl m' xl') : BothL w' W bs g s' m' l' xl' br gr t mr k xr := by
  refine ⟨hls, h.ref.beside h.real ha h.apart ha.size, fun b hb hm => ?_, h.lo, h.lo2, h.lo3, h.below.trans ((ha.below h.real).mono h.lo)⟩
  have hlt : b < w.heap.size := by
    rcases hb with (⟨v, hv, e⟩ | e) | ⟨v, hv, e⟩
    · exact ((h.ref.st.r.fb v hv).at_ b e).2.lt
    · exact (h.ref.st.r.plan.at_ b e).2.lt
    · exact ((h.ref.wby v hv).at_ b e).2.lt
  have htag : Sto.Tag w b 5 := by
    rcases hb with (⟨v, hv, e⟩ | e) | ⟨v, hv, e⟩
    · exact ((h.ref.st.r.fb v hv).at_ b e).2
    · exact (h.ref.st.r.plan.at_ b e).2
    · exact ((h.ref.wby v hv).at_ b e).2
  rcases ha.turn b hlt (.inl hm) with h1 | h1 | h1
  · exact h.apart b hb h1
  · exact htag.ne h.real.lb_tag (by decide) h1
  · exact (Sto.ownTagS h.real.wt.row h1).ne htag (by decide) rfl
theorem BothL.rop {ts : List TypeId} (h : BothL w W bs g s m l xl br gr t mr k xr) (hls : LS w' br gr t' mr' k' xr') (ha : Aft ts w w' br (LRow mr xr) (LRow mr' xr')) (ht : ∀ T ∈ ([78, 108, 110, 9, 105, 5] : List TypeId), T ∉ ts) (hl : 87 ∉ ts) (hb : 92 ∉ ts) : BothL w' W bs g s m l xl br gr t' mr' k' xr' :=
  ⟨wls_beside h.real ha ht hl hb, hls, apart_after h.real.st ha h.apart, h.lo, h.lo2, h.lo3, h.below.trans ((ha.below h.ref.st.bs).mono h.lo2)⟩
theorem BothL.keep (h : BothL w W bs g s m l xl br gr t mr k xr) (hb : Below w.heap.size w w') : BothL w' W bs g s m l xl br gr t mr k xr :=
  ⟨h.real.below hb, h.ref.below hb, h.apart, h.lo, h.lo2, h.lo3, h.below.trans (hb.mono h.below.size)⟩
end
end Ref
end Go.Proofs.YtaiokogbhfliiaaGreatDoor

namespace Go.Proofs.YtaiokogbhfliiaaGreatDoor
namespace Sto
/-- A file of that name is there, that long. -/
structure Has (s : St) (n : Str) (k : Nat) : Prop where
  name : isName n = true
  there : ∃ i, find s.now n = some i ∧ i < s.files.length ∧ (file s i).b.length = k
section
variable {s s1 : St} {n m : Str} {k : Nat}
theorem Has.turn (h : Has s n k) (p : List UInt8) (o : Bool) : Has { s with plan := p, off := o } n k := ⟨h.name, h.there⟩
theorem Has.meet (h : Has s n k) (l : List Str) : Has (meet s l).2 n k := by
  rcases meet_cases s l with e | ⟨p, o, e⟩
  · rw [e]; exact h
  · rw [e]; exact h.turn p o
theorem Has.read (h : Has s n k) (ho : s.off = false) : ∃ b, Sto.read s n = (0, b) ∧ b.length = k := by
  obtain ⟨i, h1, _, h3⟩ := h.there
  refine ⟨(file s i).b, ?_, h3⟩
  unfold Sto.read
  rw [if_neg (by rw [ho]; simp), if_neg (by rw [h.name]; simp), h1]
theorem Has.syncDir (h : Has s n k) : Has (syncDir s).2 n k := by
  have h1 := h.meet []
  unfold Sto.syncDir
  simp only
  split
  · exact h1
  · exact ⟨h1.name, h1.there⟩
theorem Has.sync (h : Has s n k) (m : Str) : Has (sync s m).2 n k := by
  have h1 := h.meet [m]
  unfold Sto.sync
  simp only
  split
  · exact h1
  · split
    · exact h1
    · rename_i j _
      obtain ⟨i, a, b, c⟩ := h1.there
      refine ⟨h1.name, i, a, by simp only [setF, List.length_set]; exact b, ?_⟩
      rw [file_setF]
      split
      · rename_i e; rw [e.1]; exact c
      · exact c
theorem Has.append (h : Has s n k) (b : List UInt8) (h0 : (append s n b).1 = 0) : Has (append s n b).2 n (k + b.length) := by
  obtain ⟨x, hx⟩ : ∃ x, x = Sto.meet s [n] := ⟨_, rfl⟩
  have h1 := h.meet [n]
  rw [← hx] at h1
  obtain ⟨x0, s1⟩ := x
  simp only at h1
  by_cases hz : x0 = 0
  · subst hz
    obtain ⟨i, a, c, d⟩ := h1.there
    by_cases hf : s1.room - (size s1 : Int) < (b.length : Int)
    · rw [append_full hx a hf] at h0; cases h0
    · rw [append_ok hx a hf]
      refine ⟨h1.name, i, a, by simp only [setF, List.length_set]; exact c, ?_⟩
      rw [file_setF, if_pos ⟨rfl, c⟩]
      simp only [List.length_append, d]
  · rw [append_bad hx hz] at h0
    exact absurd h0 hz
theorem Has.create (hok : Ok s) (h0 : (create s n).1 = 0) : Has (create s n).2 n 0 := by
  obtain ⟨x, hx⟩ : ∃ x, x = Sto.meet s [n] := ⟨_, rfl⟩
  have hn : isName n = true ∨ x.1 = 1 := by
    rw [hx]
    unfold Sto.meet
    by_cases h : isName n = true
    · exact .inl h
    · right
      rw [if_pos (by simp [h])]
  obtain ⟨x0, s1⟩ := x
  by_cases hz : x0 = 0
  · subst hz
    have hn : isName n = true := hn.resolve_right (by simp)
    obtain ⟨p, hp⟩ := meet_zero hx
    rcases hf : (find s1.now n).isSome with _ | _
    · rw [create_new hx hf]
      have hs : Srt s1.now := by rw [hp]; exact hok.gnow.srt
      refine ⟨hn, s1.files.length, find_put_same hs, by simp [change], ?_⟩
      have h9 := file_new (s := s1) ⟨[], 0⟩
      show (file { s1 with files := s1.files ++ [⟨[], 0⟩] } s1.files.length).b.length = 0
      rw [h9]; rfl
    · rw [create_there hx hf] at h0; cases h0
  · rw [create_bad hx hz] at h0
    exact absurd h0 hz
theorem Has.remove (h : Has s n k) (hok : Ok s) (hm : n ≠ m) : Has (remove s m).2 n k := by
  obtain ⟨x, hx⟩ : ∃ x, x = Sto.meet s [m] := ⟨_, rfl⟩
  have h1 := h.meet [m]
  rw [← hx] at h1
  obtain ⟨x0, s1⟩ := x
  simp only at h1
  by_cases hz : x0 = 0
  · subst hz
    obtain ⟨p, hp⟩ := meet_zero hx
    rcases hf : find s1.now m with _ | i
    · rw [remove_none hx hf]; exact h1
    · rw [remove_ok hx hf]
      have hs : Srt s1.now := by rw [hp]; exact hok.gnow.srt
      obtain ⟨j, a, b, c⟩ := h1.there
      exact ⟨h1.name, j, (find_del_other hs hm).trans a, b, c⟩
  · rw [remove_bad hx hz]; exact h1
end
end Sto
namespace Wal
/-- The log's last file. -/
def Tp (s : Sto.St) (l : Lg) : Prop := l.broken = false → Sto.Has s (name l.last) l.size
section
variable {s : Sto.St} {l : Lg}
theorem Tp.tip (h : Tp s l) : Ref.Tip s l := fun hb ho => (h hb).read ho
theorem Tp.plan (h : Tp s l) (p : List UInt8) : Tp { s with plan := p } l := fun hb => ⟨(h hb).name, (h hb).there⟩
theorem Tp.add (h : Tp s l) (b : List UInt8) : Tp s (add l b).2.2 := by
  unfold Wal.add
  split
  · exact h
  · split
    · exact h
    · split
      · exact h
      · exact h
theorem Tp.skip (h : Tp s l) (n : Int) : Tp s (skip l n).2 := by
  unfold Wal.skip
  split
  · exact h
  · split
    · exact h
    · split
      · exact h
      · exact h
theorem tp_mk (hok : Sto.Ok s) (h0 : (mk s l).1 = 0) : Sto.Has (mk s l).2.1 (name (mk s l).2.2.last) (mk s l).2.2.size := by
  unfold mk at h0 ⊢
  split
  · rename_i h; rw [if_pos h] at h0; cases h0
  · rename_i h
    rw [if_neg h] at h0
    simp only at h0 ⊢
    split
    · rename_i h1; rw [if_pos h1] at h0; exact absurd h0 h1
    · rename_i h1
      rw [if_neg h1] at h0
      split
      · rename_i h2; rw [if_pos h2] at h0; exact absurd h0 h2
      · exact (Sto.Has.create hok (by simpa using h1)).syncDir
theorem tp_opens (hok : Sto.Ok s) {limit : Int} {l1 : Lg} {bs : List Bt} (h : (opens s limit).2.2 = some (l1, bs)) : Tp (opens s limit).2.1 l1 := by
  unfold opens at h ⊢
  split at h
  · cases h
  · rename_i h1
    rw [if_neg h1]
    split at h
    · cases h
    · rename_i h2
      rw [if_neg h2]
      simp only at h ⊢
      split at h
      · cases h
      · rename_i h3
        rw [if_neg h3]
        injection h with h
        injection h with h _
        subst h
        exact fun _ => tp_mk hok (by simpa using h3)
end
end Wal
end Go.Proofs.YtaiokogbhfliiaaGreatDoor

namespace Go.Proofs.YtaiokogbhfliiaaGreatDoor
namespace Wal
section
variable {s : Sto.St} {l : Lg}
theorem has_room (hok : Sto.Ok s) (h : Tp s l) (hb : l.broken = false) (h0 : (room s l).1 = 0) : Sto.Has (room s l).2.1 (name (room s l).2.2.last) (room s l).2.2.size := by
  unfold room at h0 ⊢
  split
  · rename_i h1; rw [if_pos h1] at h0; cases h0
  · rename_i h1
    rw [if_neg h1] at h0
    split
    · exact h hb
    · rename_i h2
      rw [if_neg h2] at h0
      exact tp_mk hok h0
theorem tp_commit (hok : Sto.Ok s) (h : Tp s l) : Tp (commit s l).2.1 (commit s l).2.2 := by
  unfold commit
  split
  · exact h
  · rename_i hb
    have hb : l.broken = false := by simpa using hb
    split
    · exact h
    · simp only
      split
      · exact fun h => by cases h
      · rename_i h1
        have hr := has_room hok h hb (by simpa using h1)
        split
        · exact fun h => by cases h
        · rename_i h2
          have ha := hr.append (bytes l.waiting) (by simpa using h2)
          split
          · exact fun h => by cases h
          · exact fun _ => ha.sync _
theorem has_removes : ∀ (L : List Nat) (s : Sto.St) (n : Sto.Str) (k : Nat), Sto.Ok s → Sto.Has s n k → (∀ g ∈ L, n ≠ name g) → Sto.Has (removes s L).2 n k
  | [], _, _, _, _, h, _ => h
  | g :: L, s, n, k, hok, h, hn => by
    have h1 := h.remove hok (hn g (List.mem_cons_self ..))
    unfold removes
    simp only
    split
    · exact h1
    · exact has_removes L _ n k (hok.remove (name g)) h1 (fun q hq => hn q (List.mem_cons_of_mem _ hq))
theorem tp_retire (hok : Sto.Ok s) (h : Tp s l) (hl : l.last < 1000000) (n : Int) : Tp (retire s l n).2.1 (retire s l n).2.2 := by
  unfold retire
  split
  · exact h
  · rename_i hb
    have hb : l.broken = false := by simpa using hb
    split
    · exact h
    · simp only
      split
      · exact fun h => by cases h
      · refine fun _ => (has_removes _ _ _ _ hok (h hb) (fun g hg e => ?_)).syncDir
        rw [olds_oldp] at hg
        obtain ⟨h1, h2⟩ := List.mem_filter.1 hg
        have hg6 : g < 1000000 := by
          unfold files at h1
          obtain ⟨h1, _⟩ := List.mem_filter.1 h1
          obtain ⟨q, _, rfl⟩ := List.mem_map.1 h1
          exact numbered_bd q
        have e2 := congrArg numbered e
        rw [numbered_name _ hl, numbered_name _ hg6] at e2
        unfold oldp at h2
        simp only [Bool.and_eq_true] at h2
        have h3 := h2.1
        rw [e2] at h3
        simp at h3
end
end Wal
end Go.Proofs.YtaiokogbhfliiaaGreatDoor

namespace Go.Proofs.YtaiokogbhfliiaaGreatDoor
namespace Wal
section
variable {s : Sto.St} {l : Lg}
theorem nm_room (h : Sto.Nm s) : Sto.Nm (room s l).2.1 := by
  unfold room
  split
  · exact h
  · split
    · exact h
    · exact nm_mk h l
theorem nm_commit (h : Sto.Nm s) : Sto.Nm (commit s l).2.1 := by
  have h1 := nm_room (l := l) h
  have h2 := h1.append (n := name (room s l).2.2.last) (bytes l.waiting)
  have h3 := h2.sync (n := name (room s l).2.2.last)
  unfold commit
  split
  · exact h
  · split
    · exact h
    · simp only
      split
      · exact h1
      · split
        · exact h2
        · split <;> exact h3
theorem nm_removes : ∀ (L : List Nat) (s : Sto.St), Sto.Nm s → Sto.Nm (removes s L).2
  | [], _, h => h
  | g :: L, s, h => by
    have h1 := h.remove (n := name g)
    unfold removes
    simp only
    split
    · exact h1
    · exact nm_removes L _ h1
theorem nm_retire (h : Sto.Nm s) (n : Int) : Sto.Nm (retire s l n).2.1 := by
  have h1 := nm_removes (olds s l n) s h
  unfold retire
  split
  · exact h
  · split
    · exact h
    · simp only
      split
      · exact h1
      · exact h1.syncDir
theorem removes_sz : ∀ (L : List Nat) (s : Sto.St), (removes s L).2.files.length ≤ s.files.length ∧ (removes s L).2.kept.length ≤ s.kept.length + L.length
  | [], _ => ⟨Nat.le_refl _, Nat.le_refl _⟩
  | g :: L, s => by
    have h1 := Sto.remove_sz (s := s) (name g)
    have h2 := removes_sz L (Sto.remove s (name g)).2
    unfold removes
    simp only [List.length_cons]
    split
    · omega
    · omega
theorem retire_sz (n : Int) : (retire s l n).2.1.files.length ≤ s.files.length ∧ (retire s l n).2.1.kept.length ≤ s.kept.length + (files s).length := by
  have h1 := removes_sz (olds s l n) s
  have h2 := Sto.syncDir_sz (s := (removes s (olds s l n)).2)
  have h3 : (olds s l n).length ≤ (files s).length := by rw [olds_oldp]; exact List.length_filter_le _ _
  unfold retire
  split
  · exact ⟨Nat.le_refl _, Nat.le_add_right _ _⟩
  · split
    · exact ⟨Nat.le_refl _, Nat.le_add_right _ _⟩
    · simp only
      split
      · exact ⟨h1.1, Nat.le_trans h1.2 (Nat.add_le_add_left h3 _)⟩
      · exact ⟨Nat.le_trans h2.1 h1.1, Nat.le_trans h2.2 (Nat.le_trans h1.2 (Nat.add_le_add_left h3 _))⟩
theorem wait_add (b : List UInt8) : (add l b).2.2.waiting.length ≤ l.waiting.length + 1 := by
  unfold add
  split
  · exact Nat.le_succ _
  · split
    · exact Nat.le_succ _
    · split
      · exact Nat.le_succ _
      · simp only [List.length_append, List.length_cons, List.length_nil]; omega
theorem wait_commit : (commit s l).2.2.waiting.length ≤ l.waiting.length := by
  have hw := Ref.room_wait (s := s) (l := l)
  unfold commit
  split
  · exact Nat.le_refl _
  · split
    · exact Nat.le_refl _
    · simp only
      split
      · show (room s l).2.2.waiting.length ≤ _
        rw [hw]; exact Nat.le_refl _
      · split
        · show (room s l).2.2.waiting.length ≤ _
          rw [hw]; exact Nat.le_refl _
        · split
          · show (room s l).2.2.waiting.length ≤ _
            rw [hw]; exact Nat.le_refl _
          · exact Nat.zero_le _
theorem wait_retire (n : Int) : (retire s l n).2.2.waiting = l.waiting := by
  unfold retire
  split
  · rfl
  · split
    · rfl
    · simp only
      split <;> rfl
theorem wait_skip (n : Int) : (skip l n).2.waiting = l.waiting := by
  unfold skip
  split
  · rfl
  · split
    · rfl
    · split <;> rfl
/-- A step at a log that is open. -/
def stepF (s : Sto.St) (l : Lg) (dow n : Int) (b : List UInt8) : Sto.St × Lg :=
  if dow = 0 then (s, (add l b).2.2) else if dow = 1 then (commit s l).2 else if dow = 2 then (retire s l n).2 else if dow = 3 then (s, (skip l n).2) else if dow = 4 then ({ s with plan := b }, l) else (s, l)
/-- What holds of a store and a log in WalScripts, behind k steps. -/
structure Scr (s : Sto.St) (l : Lg) (k : Nat) : Prop where
  nm : Sto.Nm s
  tp : Tp s l
  files : s.files.length ≤ k + 1
  kept : s.kept.length ≤ (k + 1) * 200
  wait : l.waiting.length ≤ k
theorem files_le (hok : Sto.Ok s) : (files s).length ≤ s.files.length := by
  have h1 := filesOf_len (Sto.names s)
  have h2 : (Sto.names s).length ≤ s.files.length := by unfold Sto.names; rw [List.length_map]; exact hok.gnow.len
  have h3 : filesOf (Sto.names s) = files s := rfl
  rw [h3] at h1
  omega
theorem Scr.mk' {s' : Sto.St} {l' : Lg} {k f c : Nat} (h1 : Sto.Nm s') (h2 : Tp s' l') (h3 : s'.files.length ≤ f) (h4 : s'.kept.length ≤ c) (h5 : l'.waiting.length ≤ k + 1) (hf : f ≤ k + 2) (hc : c ≤ (k + 2) * 200) : Scr s' l' (k + 1) := ⟨h1, h2, Nat.le_trans h3 hf, Nat.le_trans h4 hc, h5⟩
theorem Scr.step {k : Nat} (h : Scr s l k) (hok : Sto.Ok s) (hl : l.last < 1000000) (hk : k ≤ 100) (dow n : Int) (b : List UInt8) : Scr (stepF s l dow n b).1 (stepF s l dow n b).2 (k + 1) := by
  obtain ⟨h1, h2, h3, h4, h5⟩ := h
  have f1 := files_le hok
  unfold stepF
  split
  · exact .mk' h1 (h2.add b) h3 h4 (Nat.le_trans (wait_add b) (by omega)) (by omega) (by omega)
  · split
    · exact .mk' (nm_commit h1) (tp_commit hok h2) commit_sz.1 commit_sz.2 (Nat.le_trans wait_commit (by omega)) (by omega) (by omega)
    · split
      · exact .mk' (nm_retire h1 n) (tp_retire hok h2 hl n) (retire_sz n).1 (retire_sz n).2 (by show (retire s l n).2.2.waiting.length ≤ _; rw [wait_retire]; omega) (by omega) (by omega)
      · split
        · exact .mk' h1 (h2.skip n) h3 h4 (by show (skip l n).2.waiting.length ≤ _; rw [wait_skip]; omega) (by omega) (by omega)
        · split
          · exact .mk' ⟨h1.now, h1.disk, h1.kept⟩ (h2.plan b) h3 h4 (by show l.waiting.length ≤ _; omega) (by omega) (by omega)
          · exact .mk' h1 h2 h3 h4 (by show l.waiting.length ≤ _; omega) (by omega) (by omega)
end
end Wal
end Go.Proofs.YtaiokogbhfliiaaGreatDoor

namespace Go.Proofs.YtaiokogbhfliiaaGreatDoor
open Go.RowKit Go.Maps

namespace Ref
section
variable {w w' W : World} {bs g br gr : Nat} {s s' t t' : Sto.St} {m m' : Sto.Mem} {mr mr' : Mem} {l l' k k' : Wal.Lg} {xl xl' : Wal.Lm} {xr xr' : Lm} {ts : List TypeId} {R R' : Nat → Prop} {A A2 : Option Addr} {c c2 : Nat} {Y Y2 : List Yv}
theorem Yr.keep (h : Yr w br A c Y) (hs : w.heap.size ≤ w'.heap.size) (hk : ∀ q, blk A = some q ∨ (∃ v ∈ Y, blk v.A = some q) → w'.heap[q]? = w.heap[q]?) : Yr w' br A c Y :=
  ⟨h.row.keep (fun q e => hk q (.inl e)), fun v hv => (h.ok v hv).keep hs (fun q e => hk q (.inr ⟨v, hv, e⟩))⟩
theorem Yr.below (h : Yr w br A c Y) (hb : Below w.heap.size w w') : Yr w' br A c Y :=
  h.keep hb.size (fun q e => hb.block q (by
    rcases e with e | ⟨v, hv, e⟩
    · exact (h.row.blk_ge q e).2
    · exact ((h.ok v hv).at_ q e).2.lt))
theorem Yr.aft {B : Nat} (h : Yr w B A c Y) (ha : Aft ts w w' br R R') (hu : 5 ∉ ts) (hy : 23 ∉ ts) : Yr w' B A c Y :=
  h.keep ha.size (fun q e => by
    rcases e with e | ⟨v, hv, e⟩
    · exact ha.tag (Sto.ownTagS h.row e) hy
    · exact ha.tag ((h.ok v hv).at_ q e).2 hu)
theorem ys_raft (h : Ys w bs g m A c Y) (ha : Aft ts w w' br R R') (hb : bs ≤ br) (hu : 5 ∉ ts) (hy : 23 ∉ ts) : Ys w' bs g m A c Y :=
  ⟨h.row.keep (fun k e => ha.tag (Sto.ownTagS h.row e) hy), fun v hv => ⟨(h.ok v hv).1.keep ha.size (fun k e => by
    obtain ⟨h1, h2⟩ := (h.ok v hv).1.at_ k e
    rcases h2 with h2 | h2
    · exact ha.block k h1 (.inl (by omega))
    · exact ha.tag h2 hu), fun k e => ⟨Nat.lt_of_lt_of_le ((h.ok v hv).2 k e).1 ha.size, ((h.ok v hv).2 k e).2⟩⟩⟩
/-- What one's own row leans on is not what the real log turns. -/
def YFar (g : Nat) (m : Sto.Mem) (Y : List Yv) : Prop := ∀ v ∈ Y, ∀ q, blk v.A = some q → ¬ Sto.Mut g m q
theorem Yr.beside {B : Nat} (h : Yr w B A c Y) (hf : YFar g m Y) (hs : Wal.LS w bs g s m l xl) (ha : Wal.LAft w w' g m xl m' xl') : Yr w' B A c Y ∧ YFar g m' Y := by
  have hn : ∀ v ∈ Y, ∀ q, blk v.A = some q → ¬ Wal.LMut g m xl q := fun v hv q e => by
    have t := ((h.ok v hv).at_ q e).2
    rintro (h1 | h1 | h1)
    · exact hf v hv q e h1
    · exact t.ne hs.lb_tag (by decide) h1
    · exact t.ne (Sto.ownTagS hs.wt.row h1) (by decide) rfl
  refine ⟨h.keep ha.size (fun q e => ?_), fun v hv q e hm => hn v hv q e (ha.turn q ((h.ok v hv).at_ q e).2.lt (.inl hm))⟩
  rcases e with e | ⟨v, hv, e⟩
  · exact Wal.laft_same hs ha (Sto.ownTagS h.row e) ⟨by decide, by decide, by decide, by decide, by decide, by decide⟩ (by decide) (by decide)
  · exact ha.block q ((h.ok v hv).at_ q e).2.lt (hn v hv q e)
/-- Both logs and both rows, behind a call that began at W. -/
structure BothY (w W : World) (bs g : Nat) (s : Sto.St) (m : Sto.Mem) (l : Wal.Lg) (xl : Wal.Lm) (br gr : Nat) (t : Sto.St) (mr : Mem) (k : Wal.Lg) (xr : Lm) (A : Option Addr) (c : Nat) (Y : List Yv) (A2 : Option Addr) (c2 : Nat) (Y2 : List Yv) : Prop where
  two : BothL w W bs g s m l xl br gr t mr k xr
  y : Ys w bs g m A c Y
  y2 : Yr w br A2 c2 Y2
  far : YFar g m Y2
  eq : Y.map Yv.b = Y2.map Yv.b
theorem BothY.op (h : BothY w W bs g s m l xl br gr t mr k xr A c Y A2 c2 Y2) (hls : Wal.LS w' bs g s' m' l' xl') (ha : Wal.LAft w w' g m xl m' xl') : BothY w' W bs g s' m' l' xl' br gr t mr k xr A c Y A2 c2 Y2 :=
  ⟨h.two.op hls ha, h.y.laft h.two.real ha, (h.y2.beside h.far h.two.real ha).1, (h.y2.beside h.far h.two.real ha).2, h.eq⟩
theorem BothY.rop (h : BothY w W bs g s m l xl br gr t mr k xr A c Y A2 c2 Y2) (hls : LS w' br gr t' mr' k' xr') (ha : Aft turnsL w w' br (LRow mr xr) (LRow mr' xr')) : BothY w' W bs g s m l xl br gr t' mr' k' xr' A c Y A2 c2 Y2 :=
  ⟨h.two.rop hls ha (by decide) (by decide) (by decide), ys_raft h.y ha h.two.lo3 (by decide) (by decide), h.y2.aft ha (by decide) (by decide), h.far, h.eq⟩
theorem BothY.keep (h : BothY w W bs g s m l xl br gr t mr k xr A c Y A2 c2 Y2) (hb : Below w.heap.size w w') : BothY w' W bs g s m l xl br gr t mr k xr A c Y A2 c2 Y2 :=
  ⟨h.two.keep hb, h.y.below hb, h.y2.below hb, h.far, h.eq⟩
theorem BothY.grow (h : BothY w W bs g s m l xl br gr t mr k xr A c Y A2 c2 Y2) : W.heap.size ≤ w.heap.size := h.two.below.size
/-- Both logs turned alike. -/
def Two (w W : World) (bs g br gr lb lb2 : Nat) (A : Option Addr) (c : Nat) (Y : List Yv) (A2 : Option Addr) (c2 : Nat) (Y2 : List Yv) (s : Sto.St) (l : Wal.Lg) : Prop := ∃ m xl mr xr, BothY w W bs g s m l xl br gr s mr l xr A c Y A2 c2 Y2 ∧ xl.lb = lb ∧ xr.lb = lb2
theorem more7 {x : Lm} (ha : Aft turnsM w w' br (LRow mr x) (LRow mr' xr')) : Aft turnsL w w' br (LRow mr x) (LRow mr' xr') := ha.more (fun _ hT => List.mem_append_left _ hT)
end
set_option maxHeartbeats 4000000 in
set_option maxRecDepth 100000 in
theorem do_any {w W : World} {bs g br gr lb lb2 : Nat} {A A2 : Option Addr} {c c2 : Nat} {Y Y2 : List Yv} {s : Sto.St} {l : Wal.Lg} (h : Two w W bs g br gr lb lb2 A c Y A2 c2 Y2 s l) (ht : TabU bs w) {k : Nat} (hS : Wal.Scr s l k) (hk : k ≤ 100) (dow n : Int) (bA : Option Addr) (bc : Nat) (b : List UInt8) (KA : Value) (hb : RdB W W.heap.size bA b) (hbl : b.length ≤ 70000) :
    Calls Tryz.prog 35 #[.pointer (some ⟨g, 0, none⟩), .pointer (some ⟨gr, 0, none⟩), .pointer (some ⟨lb, 0, none⟩), .pointer (some ⟨lb2, 0, none⟩), .agg #[.int .i64 dow, .int .i64 n, .slice bA b.length bc, KA]] w fun e w' => e = .returned (.bool true) ∧ Two w' W bs g br gr lb lb2 A c Y A2 c2 Y2 (Wal.stepF s l dow n b).1 (Wal.stepF s l dow n b).2 ∧ Below bs w w' := by
  obtain ⟨m, xl, mr, xr, h, hlb, hlb2⟩ := h
  have H := Lib.hid h
  have HT := Lib.hid ht
  have HB := Lib.hid hb
  have HS := Lib.hid hS
  have HLB := Lib.hid hlb
  have HLB2 := Lib.hid hlb2
  clear h ht hb hS hlb hlb2
  go_enter Tryz.func35, Tryz.ntmps35
  obtain ⟨O, hO⟩ : ∃ O : Obj, Obj.cells #[.int .i64 dow, .int .i64 n, .slice bA b.length bc, KA] 60 = O := ⟨_, rfl⟩
  have HTG : Hid (Sto.Tag (w.alloc O) w.heap.size 60 ∧ ∀ X : World, X.heap[w.heap.size]? = (w.alloc O).heap[w.heap.size]? → X.cell? ⟨w.heap.size, 1, none⟩ = some (.int .i64 n) ∧ X.cell? ⟨w.heap.size, 2, none⟩ = some (.slice bA b.length bc)) := Lib.hid (by
    rw [← hO]
    refine ⟨⟨_, _, heap_alloc_new w _⟩, fun X hX => ⟨?_, ?_⟩⟩
    · rw [cell_of_row X w.heap.size 1 _ _ (0, 0) (hX.trans (heap_alloc_new w _))]; rfl
    · rw [cell_of_row X w.heap.size 2 _ _ (0, 0) (hX.trans (heap_alloc_new w _))]; rfl)
  have hba : Below w.heap.size w (w.alloc O) := (Below.refl _ _).alloc (Nat.le_refl _) _
  have H1 := Lib.hid (H.out.keep hba)
  have hbw : bs ≤ w.heap.size := by have := H.out.two.real.lbb; have := H.out.two.real.lb_tag.lt; omega
  have HT1 := Lib.hid (HT.out.keep (hba.mono hbw))
  have HBY := Lib.hid (H1.out.two.both.bytes HB.out).1
  have HBA := Lib.hid (hba.mono hbw)
  obtain ⟨W1, hW1⟩ : ∃ W1, W1 = w.alloc O := ⟨_, rfl⟩
  rw [← hW1] at HTG H1 HT1 HBY HBA
  rw [← hO] at hW1
  have HW1 := Lib.hid hW1
  clear hba hO hW1 hbw
  have HKEEP : Hid (∀ (w5 : World) (m5 : Sto.Mem) (x5 : Wal.Lm), Wal.LAft W1 w5 g m xl m5 x5 → w5.cell? ⟨w.heap.size, 1, none⟩ = some (.int .i64 n) ∧ w5.cell? ⟨w.heap.size, 2, none⟩ = some (.slice bA b.length bc)) := Lib.hid (fun w5 m5 x5 ha => HTG.out.2 w5 (Wal.laft_same H1.out.two.real ha HTG.out.1 ⟨by decide, by decide, by decide, by decide, by decide, by decide⟩ (by decide) (by decide)))
  have hsf := HS.out.files
  have hsk := HS.out.kept
  have hsw := HS.out.wait
  by_cases d0 : dow = 0
  · subst d0
    have HE : Hid (Wal.stepF s l 0 n b = (s, (Wal.add l b).2.2)) := Lib.hid (by unfold Wal.stepF; rw [if_pos rfl])
    have K1 := Lib.hid (Wal.add_any H1.out.two.real bA bc b HBY.out (by omega))
    obtain ⟨r, hr⟩ : ∃ r, r = Wal.add l b := ⟨_, rfl⟩
    have HR := Lib.hid hr
    rw [← hr] at K1 HE
    rw [HLB.out, HW1.out] at K1
    clear hr
    go_wp2_with fail
    refine K1.out.mono ?_
    rintro e w5 ⟨rfl, m5, x5, hls5, haf5⟩
    rw [← HW1.out] at haf5
    obtain ⟨q1, q2⟩ := HKEEP.out w5 m5 x5 haf5
    have H5 := Lib.hid (H1.out.op hls5 haf5)
    have HB5 := Lib.hid (HBA.out.trans (haf5.below H1.out.two.real))
    have HX5 := Lib.hid (haf5.lb.trans HLB.out)
    have K2 := Lib.hid (add_any H5.out.two.ref bA bc b (H5.out.two.both.bytes HB.out).1 (by omega) (by omega))
    rw [HLB2.out, ← HR.out] at K2
    clear hls5 haf5 K1
    go_wp2_with fail
    refine K2.out.mono ?_
    rintro e w6 ⟨rfl, x6, hx6, hls6, haf6⟩
    have HB6 := Lib.hid (HB5.out.trans ((haf6.below H5.out.two.ref.st.bs).mono H5.out.two.lo3))
    have H6 := Lib.hid (H5.out.rop hls6 haf6)
    have HX6 := Lib.hid (hx6.trans HLB2.out)
    clear hls6 haf6 hx6 K2
    go_wp2_with fail
    go_ret
    rw [HE.out]
    exact ⟨rfl, ⟨m5, x5, mr, x6, H6.out, HX5.out, HX6.out⟩, HB6.out⟩
  by_cases d1 : dow = 1
  · subst d1
    have HE : Hid (Wal.stepF s l 1 n b = (Wal.commit s l).2) := Lib.hid (by unfold Wal.stepF; rw [if_neg (by decide), if_pos rfl])
    have K1 := Lib.hid (Wal.commit_any H1.out.two.real HT1.out (by omega) (by omega) (by omega))
    obtain ⟨r, hr⟩ : ∃ r, r = Wal.commit s l := ⟨_, rfl⟩
    have HR := Lib.hid hr
    rw [← hr] at K1 HE
    rw [HLB.out, HW1.out] at K1
    clear hr
    go_wp2_with fail
    refine K1.out.mono ?_
    rintro e w5 ⟨x5, rfl, m5, hls5, haf5⟩
    rw [← HW1.out] at haf5
    have H5 := Lib.hid (H1.out.op hls5 haf5)
    have HB5 := Lib.hid (HBA.out.trans (haf5.below H1.out.two.real))
    have HX5 := Lib.hid (haf5.lb.trans HLB.out)
    have K2 := Lib.hid (commit_any H5.out.two.ref (by omega) (by omega) (by omega) HS.out.tp.tip)
    rw [HLB2.out, ← HR.out] at K2
    clear hls5 haf5 K1
    go_wp2_with fail
    refine K2.out.mono ?_
    rintro e w6 ⟨rfl, m6, x6, hx6, hls6, haf6⟩
    have HB6 := Lib.hid (HB5.out.trans ((haf6.below H5.out.two.ref.st.bs).mono H5.out.two.lo3))
    have H6 := Lib.hid (H5.out.rop hls6 (more7 haf6))
    have HX6 := Lib.hid (hx6.trans HLB2.out)
    clear hls6 haf6 hx6 K2
    go_wp2_with fail
    go_ret
    rw [HE.out]
    exact ⟨rfl, ⟨m5, x5, m6, x6, H6.out, HX5.out, HX6.out⟩, HB6.out⟩
  by_cases d2 : dow = 2
  · subst d2
    have HE : Hid (Wal.stepF s l 2 n b = (Wal.retire s l n).2) := Lib.hid (by unfold Wal.stepF; rw [if_neg (by decide), if_neg (by decide), if_pos rfl])
    have K1 := Lib.hid (Wal.retire_any H1.out.two.real HT1.out (by omega) (by omega) n)
    obtain ⟨r, hr⟩ : ∃ r, r = Wal.retire s l n := ⟨_, rfl⟩
    have HR := Lib.hid hr
    rw [← hr] at K1 HE
    rw [HLB.out, HW1.out] at K1
    clear hr
    go_wp2_with fail
    refine K1.out.mono ?_
    rintro e w5 ⟨rfl, m5, hls5, haf5⟩
    rw [← HW1.out] at haf5
    obtain ⟨q1, q2⟩ := HKEEP.out w5 m5 _ haf5
    have H5 := Lib.hid (H1.out.op hls5 haf5)
    have HB5 := Lib.hid (HBA.out.trans (haf5.below H1.out.two.real))
    have K2 := Lib.hid (retire_any H5.out.two.ref (by omega) (by omega) n)
    rw [HLB2.out, ← HR.out] at K2
    clear hls5 haf5 K1
    go_wp2_with fail
    refine K2.out.mono ?_
    rintro e w6 ⟨rfl, m6, hls6, haf6⟩
    have HB6 := Lib.hid (HB5.out.trans ((haf6.below H5.out.two.ref.st.bs).mono H5.out.two.lo3))
    have H6 := Lib.hid (H5.out.rop hls6 (more7 haf6))
    clear hls6 haf6 K2
    go_wp2_with fail
    go_ret
    rw [HE.out]
    exact ⟨rfl, ⟨m5, xl, m6, xr, H6.out, HLB.out, HLB2.out⟩, HB6.out⟩
  by_cases d3 : dow = 3
  · subst d3
    have HE : Hid (Wal.stepF s l 3 n b = (s, (Wal.skip l n).2)) := Lib.hid (by unfold Wal.stepF; rw [if_neg (by decide), if_neg (by decide), if_neg (by decide), if_pos rfl])
    have K1 := Lib.hid (Wal.skip_any H1.out.two.real n)
    obtain ⟨r, hr⟩ : ∃ r, r = Wal.skip l n := ⟨_, rfl⟩
    have HR := Lib.hid hr
    rw [← hr] at K1 HE
    rw [HLB.out, HW1.out] at K1
    clear hr
    go_wp2_with fail
    refine K1.out.mono ?_
    rintro e w5 ⟨rfl, m5, hls5, haf5⟩
    rw [← HW1.out] at haf5
    obtain ⟨q1, q2⟩ := HKEEP.out w5 m5 _ haf5
    have H5 := Lib.hid (H1.out.op hls5 haf5)
    have HB5 := Lib.hid (HBA.out.trans (haf5.below H1.out.two.real))
    have K2 := Lib.hid (skip_any H5.out.two.ref n)
    rw [HLB2.out, ← HR.out] at K2
    clear hls5 haf5 K1
    go_wp2_with fail
    refine K2.out.mono ?_
    rintro e w6 ⟨rfl, m6, hls6, haf6⟩
    have HB6 := Lib.hid (HB5.out.trans ((haf6.below H5.out.two.ref.st.bs).mono H5.out.two.lo3))
    have H6 := Lib.hid (H5.out.rop hls6 (more7 haf6))
    clear hls6 haf6 K2
    go_wp2_with fail
    go_ret
    rw [HE.out]
    exact ⟨rfl, ⟨m5, xl, m6, xr, H6.out, HLB.out, HLB2.out⟩, HB6.out⟩
  by_cases d4 : dow = 4
  · subst d4
    have HE : Hid (Wal.stepF s l 4 n b = ({ s with plan := b }, l)) := Lib.hid (by unfold Wal.stepF; rw [if_neg (by decide), if_neg (by decide), if_neg (by decide), if_neg (by decide), if_pos rfl])
    have K1 := Lib.hid (Sto.plan_any H1.out.two.real.st bA bc b HBY.out (by omega))
    rw [HW1.out] at K1
    go_wp2_with fail
    refine K1.out.mono ?_
    rintro e w5 ⟨rfl, m5, hst5, haf5⟩
    rw [← HW1.out] at haf5
    have hls5 := H1.out.two.real.store hst5 haf5
    have hla5 := Wal.LAft.of_aft (x := xl) haf5
    obtain ⟨q1, q2⟩ := HKEEP.out w5 m5 _ hla5
    have H5 := Lib.hid (H1.out.op hls5 hla5)
    have HB5 := Lib.hid (HBA.out.trans (hla5.below H1.out.two.real))
    have K2 := Lib.hid (plan_any H5.out.two.ref.st bA bc b (H5.out.two.both.bytes HB.out).1 (by omega))
    clear hst5 hls5 hla5 haf5 K1
    go_wp2_with fail
    refine K2.out.mono ?_
    rintro e w6 ⟨rfl, m6, hst6, haf6⟩
    have HB6 := Lib.hid (HB5.out.trans ((haf6.below H5.out.two.ref.st.bs).mono H5.out.two.lo3))
    have H6 := Lib.hid (H5.out.rop (H5.out.two.ref.store hst6 haf6) (more7 (laft haf6)))
    clear hst6 haf6 K2
    go_wp2_with fail
    go_ret
    rw [HE.out]
    exact ⟨rfl, ⟨m5, xl, m6, xr, H6.out, HLB.out, HLB2.out⟩, HB6.out⟩
  · have HE : Hid (Wal.stepF s l dow n b = (s, l)) := Lib.hid (by unfold Wal.stepF; rw [if_neg d0, if_neg d1, if_neg d2, if_neg d3, if_neg d4])
    have e0 : (dow == 0) = false := by simpa using d0
    have e1 : (dow == 1) = false := by simpa using d1
    have e2 : (dow == 2) = false := by simpa using d2
    have e3 : (dow == 3) = false := by simpa using d3
    have e4 : (dow == 4) = false := by simpa using d4
    clear d0 d1 d2 d3 d4
    rw [HW1.out] at H1 HBA
    go_wp2_with fail
    go_ret
    rw [HE.out]
    exact ⟨rfl, ⟨m, xl, mr, xr, H1.out, HLB.out, HLB2.out⟩, HBA.out⟩
end Ref
end Go.Proofs.YtaiokogbhfliiaaGreatDoor
