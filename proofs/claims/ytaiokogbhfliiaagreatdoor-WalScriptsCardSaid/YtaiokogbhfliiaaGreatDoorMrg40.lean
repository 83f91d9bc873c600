/- Parts of the proof, one behind the other: Contracts of the statements' own functions: awake.; A log over a store where nothing fails: what its operations come to.; The statement WalNumbers, walked. -/
import Derived.Test.YtaiokogbhfliiaaGreatDoorMrg39
import Derived.Test.YtaiokogbhfliiaaGreatDoorMrg38
import Derived.Test.YtaiokogbhfliiaaGreatDoorMrg32
namespace Go.Proofs.YtaiokogbhfliiaaGreatDoor
open Go.RowKit Go.Maps

namespace Wal
theorem Cl.new (room : Int) (h : 0 ≤ room ∧ room ≤ 16777216) (k : Nat) : Cl (Sto.new room) k [] := ⟨Sto.Ok.new room h, rfl, Dirs.nil, rfl, rfl, trivial, fun _ h => by cases h⟩
section
variable {s : Sto.St} {l : Lg}
theorem opens_sz (limit : Int) : (opens s limit).2.1.files.length ≤ s.files.length + 1 ∧ (opens s limit).2.1.kept.length ≤ s.kept.length + 1 := by
  unfold opens
  split
  · simp only; omega
  · split
    · simp only; omega
    · simp only
      split
      · exact mk_sz
      · exact mk_sz
theorem commit_sz : (commit s l).2.1.files.length ≤ s.files.length + 1 ∧ (commit s l).2.1.kept.length ≤ s.kept.length + 1 := by
  have h1 := room_sz (s := s) (l := l)
  have h2 := Sto.append_sz (s := (room s l).2.1) (name (room s l).2.2.last) (bytes l.waiting)
  have h3 := Sto.sync_sz (s := (Sto.append (room s l).2.1 (name (room s l).2.2.last) (bytes l.waiting)).2) (name (room s l).2.2.last)
  unfold commit
  split
  · simp only; omega
  · split
    · simp only; omega
    · simp only
      split
      · simp only; omega
      · split
        · simp only; omega
        · split
          · simp only; omega
          · simp only; omega
end
theorem opens_new (room : Int) (h : 0 ≤ room ∧ room ≤ 16777216) (k : Nat) (limit : Int) (h1 : 1 ≤ limit) (h2 : limit ≤ 65536) : ∃ s' l, opens (Sto.new room) limit = (0, s', some (l, [])) ∧ s'.plan = [] ∧ s'.room = room ∧ Sto.size s' = 0 ∧ l.next = 1 ∧ l.last = 1 ∧ l.broken = false ∧ l.waiting = [] ∧ ∃ i, Cl s' k [⟨1, i, []⟩] ∧ (Sto.file s' i).b = [] ∧ s'.files.length ≤ 1 := by
  obtain ⟨s', l, e, a1, a2, a3, a4, i, b1, b2, b3, b4, b5⟩ := opens_ok (N := 0) (Cl.new room h k) rfl limit h1 h2 (fun _ h => by cases h) (by decide)
  have hz := (opens_sz (s := Sto.new room) limit).1
  rw [e] at hz
  have hl : l.last = 1 := by
    have := (b1.dir.bd ⟨l.last, i, []⟩ (by simp)).1
    simp only at this
    omega
  rw [hl] at b1
  exact ⟨s', l, e, a1, a2, a3, a4, hl, b4, b5, i, b1, b2, hz⟩
theorem names_one {s : Sto.St} {k : Nat} {fs : List Fi} (h : Cl s k fs) : (Sto.names s).length = fs.length := by
  unfold Sto.names; rw [h.dir.eq]; simp
set_option maxHeartbeats 1000000 in
set_option maxRecDepth 100000 in
theorem awake_any (w : World) (ht : Tab w) : Calls Tryz.prog 10 #[] w fun e w' => e = .returned (.bool true) ∧ Below w.heap.size w w' := by
  have KN := Lib.hid (Sto.new_any 1000 (by decide) (by decide) w)
  have HT := Lib.hid (TabU.of ht)
  clear ht
  go_enter Tryz.func10, Tryz.ntmps10
  go_wp2_with fail
  refine KN.out.mono ?_
  rintro e w1 ⟨g, m, rfl, hst, hb⟩
  have KO := Lib.hid (opens_any hst (HT.out.keep hb) hb.size 100 (by show (0 : Nat) ≤ 400000; decide) (by show (0 : Nat) ≤ 100000; decide))
  have HB := Lib.hid hb
  have HST := Lib.hid hst
  obtain ⟨s', l, ho, hp, hr, hsz, hnx, hla, hbr, hwt, i, hcl, hfb, hfl⟩ := opens_new 1000 (by decide) 1 100 (by decide) (by decide)
  rw [ho] at KO
  have HCL := Lib.hid hcl
  have HL := Lib.hid (And.intro hnx hbr)
  clear hst hb ho hp hr hsz hnx hla hbr hwt hcl hfb KN
  go_wp2_with fail
  refine KO.out.mono ?_
  rintro e w2 h2
  rcases h2 with ⟨h2, _⟩ | ⟨l2, bs, lb, A, c, Y, m2, h2, _, rfl, hls, haf, hlb, hY, hYs⟩
  · cases h2
  injection h2 with h2
  injection h2 with h2 h3
  subst h2 h3
  have hY0 : Y = [] := by simpa using hY
  subst hY0
  have HLS := Lib.hid hls
  have HAF := Lib.hid haf
  clear hls haf hlb hY hYs KO
  have KX := Lib.hid (next_any HLS.out)
  have hnx : next l = 1 := by unfold next; rw [HL.out.2, HL.out.1]; rfl
  have hnx2 : ((next l : Nat) : Int) = 1 := by rw [hnx]; rfl
  rw [hnx2] at KX
  simp only at KX
  have KM := Lib.hid (Sto.names_any HLS.out.st (by show s'.files.length ≤ 1000000; omega))
  have hnl0 := names_one HCL.out
  obtain ⟨nn, hnn⟩ : ∃ nn, nn = (Sto.names s').length := ⟨_, rfl⟩
  rw [← hnn] at KM hnl0
  have hnl : nn = 1 := hnl0
  clear hnl0
  subst hnl
  clear hnx hnx2 hnn
  go_wp2_with fail
  refine KX.out.mono ?_
  rintro e w3 ⟨rfl, rfl⟩
  go_wp2_with fail
  refine KM.out.mono ?_
  rintro e w4 ⟨A4, c4, rfl, _, hb4⟩
  have HB4 := Lib.hid hb4
  clear hb4
  go_wp2_with fail
  go_ret
  exact ⟨rfl, (HB.out.trans ((HAF.out.below HST.out).mono (Nat.le_refl _))).trans (HB4.out.mono (by have := HB.out.size; have := HAF.out.size; omega))⟩
end Wal
end Go.Proofs.YtaiokogbhfliiaaGreatDoor

namespace Go.Proofs.YtaiokogbhfliiaaGreatDoor
open Go.RowKit Go.Maps

namespace Wal
/-- A log over a store where nothing fails: batches from K on, S that were committed, wt that wait; file numbers up to N, bytes up to T. -/
structure RunS (w : World) (base g : Nat) (R : Int) (K N T : Nat) (S wt : List (List UInt8)) (lb : Nat) (s : Sto.St) (m : Sto.Mem) (l : Lg) (x : Lm) (fs : List Fi) (f : Fi) : Prop where
  ls : LS w base g s m l x
  lbx : x.lb = lb
  lo : Lo s K fs f l wt
  plan : s.plan = []
  room : s.room = R
  n : f.n ≤ N
  fl : s.files.length ≤ N
  eq : flat (fs ++ [f]) = S
  sz : Sto.size s + (bytes l.waiting).length ≤ T
def Run (w : World) (base g : Nat) (R : Int) (K N T : Nat) (S wt : List (List UInt8)) (lb : Nat) : Prop := ∃ s m l x fs f, RunS w base g R K N T S wt lb s m l x fs f
/-- A store where nothing fails, with a log's files. -/
structure RestS (w : World) (base g : Nat) (R : Int) (K N T : Nat) (S : List (List UInt8)) (s : Sto.St) (m : Sto.Mem) (fs : List Fi) : Prop where
  st : Sto.StAt w base g s m
  cl : Cl s K fs
  plan : s.plan = []
  room : s.room = R
  n : ∀ f ∈ fs, f.n ≤ N
  fl : s.files.length ≤ N
  eq : flat fs = S
  sz : Sto.size s ≤ T
def Rest (w : World) (base g : Nat) (R : Int) (K N T : Nat) (S : List (List UInt8)) : Prop := ∃ s m fs, RestS w base g R K N T S s m fs
section
variable {w w' : World} {base g K N T lb : Nat} {R : Int} {S wt : List (List UInt8)}
theorem Run.rest (h : Run w base g R K N T S wt lb) : Rest w base g R K N T S := by
  obtain ⟨s, m, l, x, fs, f, h⟩ := h
  refine ⟨s, m, fs ++ [f], h.ls.st, h.lo.cl, h.plan, h.room, fun g hg => ?_, h.fl, h.eq, by have := h.sz; omega⟩
  have := h.lo.inc g hg
  have h2 := h.lo.last
  have h3 := h.n
  omega
theorem Run.below (h : Run w base g R K N T S wt lb) (hb : Below w.heap.size w w') : Run w' base g R K N T S wt lb := by
  obtain ⟨s, m, l, x, fs, f, h⟩ := h
  exact ⟨s, m, l, x, fs, f, h.ls.below hb, h.lbx, h.lo, h.plan, h.room, h.n, h.fl, h.eq, h.sz⟩
theorem Rest.below (h : Rest w base g R K N T S) (hb : Below w.heap.size w w') : Rest w' base g R K N T S := by
  obtain ⟨s, m, fs, h⟩ := h
  exact ⟨s, m, fs, h.st.below hb, h.cl, h.plan, h.room, h.n, h.fl, h.eq, h.sz⟩
theorem Rest.new (w : World) (room : Int) (hr1 : 1 ≤ room) (hr2 : room ≤ 16777216) (K : Nat) : Calls Tryz.prog 22 #[.int .i64 room] w fun e w' => ∃ g, e = .returned (.tuple #[.pointer (some ⟨g, 0, none⟩), .int .i64 0]) ∧ Rest w' w.heap.size g room K 0 0 [] ∧ Below w.heap.size w w' :=
  (Sto.new_any room hr1 hr2 w).mono (fun e w2 ⟨g, m, he, hst, hb⟩ => ⟨g, he, ⟨_, m, [], hst, Cl.new room (by omega) K, rfl, rfl, (fun _ h => by cases h), Nat.le_refl _, rfl, Nat.le_refl _⟩, hb⟩)
end
end Wal
end Go.Proofs.YtaiokogbhfliiaaGreatDoor

namespace Go.Proofs.YtaiokogbhfliiaaGreatDoor
open Go.RowKit Go.Maps

namespace Wal
section
variable {w w' : World} {base g K N T lb : Nat} {R : Int} {S wt : List (List UInt8)}
theorem Run.skip_bad (h : Run w base g R 1 N T [] [] lb) (n : Int) (hn : n < 1 ∨ 1099511627776 < n) : Calls Tryz.prog 33 #[.pointer (some ⟨lb, 0, none⟩), .int .i64 n] w fun e w' => e = .returned (.int .i64 1) ∧ Below base w w' := by
  obtain ⟨s, m, l, x, fs, f, h⟩ := h
  have h1 := skip_any h.ls n
  rw [h.lbx, Wal.skip_bad n h.lo.brk hn] at h1
  refine h1.mono ?_
  rintro e w2 ⟨rfl, m2, hls, haf⟩
  exact ⟨rfl, haf.below h.ls⟩
end
end Wal
end Go.Proofs.YtaiokogbhfliiaaGreatDoor
