/- Parts of the proof, one behind the other: Contracts of the statements' own functions: awake.; A log over a store where nothing fails: what its operations come to.; The statement WalNumbers, walked. -/
import Derived.Test.YtaiokogbhfliiaaGreatDoorMrg39
import Derived.Test.YtaiokogbhfliiaaGreatDoorMrg38
import Derived.Test.YtaiokogbhfliiaaGreatDoorMrg32
namespace Go.Proofs.YtaiokogbhfliiaaGreatDoor
open Go.RowKit Go.Maps

namespace Wal
theorem Cl.new (room : Int) (h : 0 ≤ room ∧ room ≤ 16777216) (k : Nat) : Cl (Sto.new room) k [] := ⟨Sto.Ok.new room h, rfl, Dirs.nil, rfl, rfl, trivial, fun _ h => by cases h⟩
section
variable {s : Sto.St} {l : Lg}
theorem opens_sz (limit : Int) : (opens s limit).2.1.files.length ≤ s.files.length + 1 ∧ (opens s limit).2.1.kept.length ≤ s.kept.length + 1 := by
  unfold opens
  split
  · simp only; omega
  · split
    · simp only; omega
    · simp only
      split
      · exact mk_sz
      · exact mk_sz
theorem commit_sz : (commit s l).2.1.files.length ≤ s.files.length + 1 ∧ (commit s l).2.1.kept.length ≤ s.kept.length + 1 := by
  have h1 := room_sz (s := s) (l := l)
  have h2 := Sto.append_sz (s := (room s l).2.1) (name (room s l).2.2.last) (bytes l.waiting)
  have h3 := Sto.sync_sz (s := (Sto.append (room s l).2.1 (name (room s l).2.2.last) (bytes l.waiting)).2) (name (room s l).2.2.last)
  unfold commit
  split
  · simp only; omega
  · split
    · simp only; omega
    · simp only
      split
      · simp only; omega
      · split
        · simp only; omega
        · split
          · simp only; omega
          · simp only; omega
end
theorem opens_new (room : Int) (h : 0 ≤ room ∧ room ≤ 16777216) (k : Nat) (limit : Int) (h1 : 1 ≤ limit) (h2 : limit ≤ 65536) : ∃ s' l, opens (Sto.new room) limit = (0, s', some (l, [])) ∧ s'.plan = [] ∧ s'.room = room ∧ Sto.size s' = 0 ∧ l.next = 1 ∧ l.last = 1 ∧ l.broken = false ∧ l.waiting = [] ∧ ∃ i, Cl s' k [⟨1, i, []⟩] ∧ (Sto.file s' i).b = [] ∧ s'.files.length ≤ 1 := by
  obtain ⟨s', l, e, a1, a2, a3, a4, i, b1, b2, b3, b4, b5⟩ := opens_ok (N := 0) (Cl.new room h k) rfl limit h1 h2 (fun _ h => by cases h) (by decide)
  have hz := (opens_sz (s := Sto.new room) limit).1
  rw [e] at hz
  have hl : l.last = 1 := by
    have := (b1.dir.bd ⟨l.last, i, []⟩ (by simp)).1
    simp only at this
    omega
  rw [hl] at b1
  exact ⟨s', l, e, a1, a2, a3, a4, hl, b4, b5, i, b1, b2, hz⟩
theorem names_one {s : Sto.St} {k : Nat} {fs : List Fi} (h : Cl s k fs) : (Sto.names s).length = fs.length := by
  unfold Sto.names; rw [h.dir.eq]; simp
set_option maxHeartbeats 1000000 in
set_option maxRecDepth 100000 in
theorem awake_any (w : World) (ht : Tab w) : Calls Tryz.prog 10 #[] w fun e w' => e = .returned (.bool true) ∧ Below w.heap.size w w' := by
  have KN := Lib.hid (Sto.new_any 1000 (by decide) (by decide) w)
  have HT := Lib.hid (TabU.of ht)
  clear ht
  go_enter Tryz.func10, Tryz.ntmps10
  go_wp2_with fail
  refine KN.out.mono ?_
  rintro e w1 ⟨g, m, rfl, hst, hb⟩
  have KO := Lib.hid (opens_any hst (HT.out.keep hb) hb.size 100 (by show (0 : Nat) ≤ 400000; decide) (by show (0 : Nat) ≤ 100000; decide))
  have HB := Lib.hid hb
  have HST := Lib.hid hst
  obtain ⟨s', l, ho, hp, hr, hsz, hnx, hla, hbr, hwt, i, hcl, hfb, hfl⟩ := opens_new 1000 (by decide) 1 100 (by decide) (by decide)
  rw [ho] at KO
  have HCL := Lib.hid hcl
  have HL := Lib.hid (And.intro hnx hbr)
  clear hst hb ho hp hr hsz hnx hla hbr hwt hcl hfb KN
  go_wp2_with fail
  refine KO.out.mono ?_
  rintro e w2 h2
  rcases h2 with ⟨h2, _⟩ | ⟨l2, bs, lb, A, c, Y, m2, h2, _, rfl, hls, haf, hlb, hY, hYs⟩
  · cases h2
  injection h2 with h2
  injection h2 with h2 h3
  subst h2 h3
  have hY0 : Y = [] := by simpa using hY
  subst hY0
  have HLS := Lib.hid hls
  have HAF := Lib.hid haf
  clear hls haf hlb hY hYs KO
  have KX := Lib.hid (next_any HLS.out)
  have hnx : next l = 1 := by unfold next; rw [HL.out.2, HL.out.1]; rfl
  have hnx2 : ((next l : Nat) : Int) = 1 := by rw [hnx]; rfl
  rw [hnx2] at KX
  simp only at KX
  have KM := Lib.hid (Sto.names_any HLS.out.st (by show s'.files.length ≤ 1000000; omega))
  have hnl0 := names_one HCL.out
  obtain ⟨nn, hnn⟩ : ∃ nn, nn = (Sto.names s').length := ⟨_, rfl⟩
  rw [← hnn] at KM hnl0
  have hnl : nn = 1 := hnl0
  clear hnl0
  subst hnl
  clear hnx hnx2 hnn
  go_wp2_with fail
  refine KX.out.mono ?_
  rintro e w3 ⟨rfl, rfl⟩
  go_wp2_with fail
  refine KM.out.mono ?_
  rintro e w4 ⟨A4, c4, rfl, _, hb4⟩
  have HB4 := Lib.hid hb4
  clear hb4
  go_wp2_with fail
  go_ret
  exact ⟨rfl, (HB.out.trans ((HAF.out.below HST.out).mono (Nat.le_refl _))).trans (HB4.out.mono (by have := HB.out.size; have := HAF.out.size; omega))⟩
end Wal
end Go.Proofs.YtaiokogbhfliiaaGreatDoor

namespace Go.Proofs.YtaiokogbhfliiaaGreatDoor
open Go.RowKit Go.Maps

namespace Wal
theorem one_len2 (x : Bt) (h1 : x.1 < 18446744073709551616) (h2 : x.2.length ≤ 65000) : (one x).length ≤ x.2.length + 25 := by
  have n1 := Cod.number_len (n := x.1) h1
  have n2 := Cod.number_len (n := (Cod.number x.1 ++ x.2).length) (by rw [List.length_append]; omega)
  unfold one Frm.put Frm.head Cod.text
  have hb : ∀ n, (Frm.be4 n).length = 4 := fun n => by unfold Frm.be4; simp
  rw [List.length_append, List.length_cons, List.length_append, hb]
  rw [List.length_append] at n2 ⊢
  omega
/-- A log over a store where nothing fails: batches from K on, S that were committed, wt that wait; file numbers up to N, bytes up to T. -/
structure RunS (w : World) (base g : Nat) (R : Int) (K N T : Nat) (S wt : List (List UInt8)) (lb : Nat) (s : Sto.St) (m : Sto.Mem) (l : Lg) (x : Lm) (fs : List Fi) (f : Fi) : Prop where
  ls : LS w base g s m l x
  lbx : x.lb = lb
  lo : Lo s K fs f l wt
  plan : s.plan = []
  room : s.room = R
  n : f.n ≤ N
  fl : s.files.length ≤ N
  eq : flat (fs ++ [f]) = S
  sz : Sto.size s + (bytes l.waiting).length ≤ T
def Run (w : World) (base g : Nat) (R : Int) (K N T : Nat) (S wt : List (List UInt8)) (lb : Nat) : Prop := ∃ s m l x fs f, RunS w base g R K N T S wt lb s m l x fs f
/-- A store where nothing fails, with a log's files. -/
structure RestS (w : World) (base g : Nat) (R : Int) (K N T : Nat) (S : List (List UInt8)) (s : Sto.St) (m : Sto.Mem) (fs : List Fi) : Prop where
  st : Sto.StAt w base g s m
  cl : Cl s K fs
  plan : s.plan = []
  room : s.room = R
  n : ∀ f ∈ fs, f.n ≤ N
  fl : s.files.length ≤ N
  eq : flat fs = S
  sz : Sto.size s ≤ T
def Rest (w : World) (base g : Nat) (R : Int) (K N T : Nat) (S : List (List UInt8)) : Prop := ∃ s m fs, RestS w base g R K N T S s m fs
section
variable {w w' : World} {base g K N T lb : Nat} {R : Int} {S wt : List (List UInt8)}
theorem Run.rest (h : Run w base g R K N T S wt lb) : Rest w base g R K N T S := by
  obtain ⟨s, m, l, x, fs, f, h⟩ := h
  refine ⟨s, m, fs ++ [f], h.ls.st, h.lo.cl, h.plan, h.room, fun g hg => ?_, h.fl, h.eq, by have := h.sz; omega⟩
  have := h.lo.inc g hg
  have h2 := h.lo.last
  have h3 := h.n
  omega
theorem Run.below (h : Run w base g R K N T S wt lb) (hb : Below w.heap.size w w') : Run w' base g R K N T S wt lb := by
  obtain ⟨s, m, l, x, fs, f, h⟩ := h
  exact ⟨s, m, l, x, fs, f, h.ls.below hb, h.lbx, h.lo, h.plan, h.room, h.n, h.fl, h.eq, h.sz⟩
theorem Rest.below (h : Rest w base g R K N T S) (hb : Below w.heap.size w w') : Rest w' base g R K N T S := by
  obtain ⟨s, m, fs, h⟩ := h
  exact ⟨s, m, fs, h.st.below hb, h.cl, h.plan, h.room, h.n, h.fl, h.eq, h.sz⟩
theorem Run.base_le (h : Run w base g R K N T S wt lb) : base ≤ w.heap.size := by
  obtain ⟨s, m, l, x, fs, f, h⟩ := h
  have := h.ls.lbb; have := h.ls.lb_tag.lt; omega
theorem Rest.base_le (h : Rest w base g R K N T S) : base ≤ w.heap.size := by
  obtain ⟨s, m, fs, h⟩ := h
  have := h.st.r.gb; have := h.st.r.gt.lt; omega
theorem Run.next_val (h : Run w base g R K N T S wt lb) : Calls Tryz.prog 19 #[.pointer (some ⟨lb, 0, none⟩)] w fun e w' => e = .returned (.int .i64 ((K + S.length + wt.length : Nat) : Int)) ∧ w' = w := by
  obtain ⟨s, m, l, x, fs, f, h⟩ := h
  have h1 := next_any h.ls
  have e : next l = K + S.length + wt.length := by unfold next; rw [h.lo.brk, ← h.eq, ← h.lo.next]; rfl
  rw [h.lbx, e] at h1
  exact h1
theorem Run.waits_val (h : Run w base g R K N T S wt lb) : Calls Tryz.prog 21 #[.pointer (some ⟨lb, 0, none⟩)] w fun e w' => e = .returned (.int .i64 ((wt.length : Nat) : Int)) ∧ w' = w := by
  obtain ⟨s, m, l, x, fs, f, h⟩ := h
  have h1 := waits_any h.ls
  have e : waits l = wt.length := by unfold waits; rw [h.lo.brk, h.lo.wait, numb_len]; rfl
  rw [h.lbx, e] at h1
  exact h1
theorem Run.add_val (h : Run w base g R K N T S wt lb) (bA : Option Addr) (bc : Nat) (b : List UInt8) (hb : RdB w w.heap.size bA b) (hl : b.length ≤ 60000) (hn : K + S.length + wt.length ≤ 1099511627776) :
    Calls Tryz.prog 29 #[.pointer (some ⟨lb, 0, none⟩), .slice bA b.length bc] w fun e w' => e = .returned (.tuple #[.int .i64 ((K + S.length + wt.length : Nat) : Int), .int .i64 0]) ∧ Run w' base g R K N (T + b.length + 25) S (wt ++ [b]) lb ∧ Below base w w' := by
  obtain ⟨s, m, l, x, fs, f, h⟩ := h
  have hnx : l.next = K + S.length + wt.length := by rw [← h.eq]; exact h.lo.next
  have h1 := add_any h.ls bA bc b hb (by omega)
  rw [h.lbx, add_ok b h.lo.brk (by omega) (by omega)] at h1
  refine h1.mono ?_
  rintro e w2 ⟨rfl, m2, x2, hls, haf⟩
  have hw : (bytes (l.waiting ++ [(l.next, b)])).length ≤ (bytes l.waiting).length + b.length + 25 := by
    rw [bytes_app, List.length_append]
    have h2 := one_len2 (l.next, b) (by simp only; omega) (by simp only; omega)
    have h3 : bytes [(l.next, b)] = one (l.next, b) := by simp [bytes]
    rw [h3]
    simp only at h2
    omega
  have hlo := h.lo
  have hfl : (flat (fs ++ [f])).length = S.length := by rw [h.eq]
  refine ⟨by simp only [hnx], ⟨s, m2, _, x2, fs, f, hls, haf.lb.trans h.lbx, ⟨hlo.cl, hlo.last, hlo.clean, hlo.brk, ?_, ?_, hlo.pos, ?_, ?_⟩, h.plan, h.room, h.n, h.fl, h.eq, ?_⟩, haf.below h.ls⟩
  · simp only
    rw [hlo.wait, numb_app, hnx, hfl]; rfl
  · simp only
    rw [hnx, hfl, List.length_append, List.length_cons, List.length_nil]; omega
  · simp only; omega
  · intro c hc
    rw [← List.append_assoc] at hc
    rcases List.mem_append.1 hc with hc | hc
    · exact hlo.fit c hc
    · rw [List.mem_singleton] at hc
      rw [hc]; omega
  · have := h.sz
    simp only; omega
theorem Run.commit_val (h : Run w base g R K N T S wt lb) (ht : TabU base w) (hT : (T : Int) ≤ R) (hN : N ≤ 900000) (hwl : wt.length ≤ 100000) :
    Calls Tryz.prog 30 #[.pointer (some ⟨lb, 0, none⟩)] w fun e w' => e = .returned (.int .i64 0) ∧ Run w' base g R K (N + 1) T (S ++ wt) [] lb ∧ Below base w w' := by
  obtain ⟨s, m, l, x, fs, f, h⟩ := h
  have hfn := h.n
  have hsz := h.sz
  have h1 := commit_any h.ls ht (by rw [h.lo.cl.kept]; simp) (by have := h.fl; omega) (by rw [h.lo.wait, numb_len]; exact hwl)
  obtain ⟨p1, p2, p3, p4⟩ := commit_plain h.lo (by omega) h.plan (by rw [h.room]; omega)
  have hcz := (commit_sz (s := s) (l := l)).1
  rw [h.lbx] at h1
  refine h1.mono ?_
  rintro e w2 ⟨x2, rfl, m2, hls, haf⟩
  rcases commit_ways h.lo (by omega) with ⟨q, _⟩ | ⟨_, fs', f', hlo, hfl, hn⟩
  · exact absurd p1 q
  refine ⟨by rw [p1], ⟨_, m2, _, x2, fs', f', hls, haf.lb.trans h.lbx, hlo, p2, p3.trans h.room, by omega, by have := h.fl; omega, by rw [hfl, h.eq], ?_⟩, haf.below h.ls⟩
  have hw : (commit s l).2.2.waiting = [] := by rw [hlo.wait]; rfl
  rw [hw]
  have : (bytes []).length = 0 := rfl
  omega
theorem Rest.open_val (h : Rest w base g R K N T S) (ht : TabU base w) (limit : Int) (h1 : 1 ≤ limit) (h2 : limit ≤ 65536) (hN : N ≤ 90000) (hk : 1 ≤ K) (hK : K = 1 ∨ S ≠ []) (hn : K + S.length ≤ 1099511627777) :
    Calls Tryz.prog 15 #[.pointer (some ⟨g, 0, none⟩), .int .i64 limit] w fun e w' => ∃ lb A c Y, e = .returned (.tuple #[.pointer (some ⟨lb, 0, none⟩), .int .i64 (((if S = [] then 0 else K : Nat)) : Int), .slice A Y.length c, .int .i64 0]) ∧ Run w' base g R K (N + 1) T S [] lb ∧ Y.map Yv.b = S ∧ (∃ m, Ys w' base g m A c Y) ∧ Below base w w' := by
  obtain ⟨s, m, fs, h⟩ := h
  have h3 := opens_any h.st ht (by have := h.st.r.gb; have := h.st.r.gt.lt; omega) limit (by rw [h.cl.kept]; simp) (by have := h.fl; omega)
  obtain ⟨s', l, e, a1, a2, a3, a4, i, b1, b2, b3, b4, b5⟩ := opens_ok (N := N) h.cl h.plan limit h1 h2 h.n (by omega)
  have hz := (opens_sz (s := s) limit).1
  rw [e] at h3 hz
  refine h3.mono ?_
  rintro e2 w2 (⟨q, _⟩ | ⟨l2, bs, lb, A, c, Y, m2, q, _, rfl, hls, haf, hlb, hY, hYs⟩)
  · cases q
  injection q with q
  injection q with q1 q2
  subst q1 q2
  rw [numb_snd, h.eq] at hY
  have hfl : flat (fs ++ [⟨l.last, i, []⟩]) = S := by rw [flat_one, List.append_nil, h.eq]
  have hnx : l.next = K + S.length := by
    rw [a4, h.eq]
    rcases hK with hK | hK
    · split
      · rename_i h0; rw [h0, hK]; rfl
      · rfl
    · rw [if_neg hK]
  refine ⟨lb, A, c, Y, ?_, ⟨s', m2, l, ⟨lb, none, 0, []⟩, fs, ⟨l.last, i, []⟩, hls, rfl, ⟨b1, rfl, ?_, b4, ?_, ?_, hk, by rw [hnx]; exact hn, fun b hb => by cases hb⟩, a1, a2.trans h.room, b3, ?_, hfl, ?_⟩, hY, ⟨m2, hYs⟩, haf.below h.st⟩
  · congr 4
    rw [h.eq]
    rcases S with _ | ⟨b, S⟩
    · rfl
    · simp [numb]
  · simp only
    rw [b2]; rfl
  · rw [b5]; rfl
  · rw [hnx, hfl]; simp
  · simp only at hz
    have := h.fl; omega
  · rw [b5]
    have h9 := h.sz
    have : (bytes []).length = 0 := rfl
    omega
theorem Rest.crash_val (h : Rest w base g R K N T S) (hN : N ≤ 90000) (changes : Int) (KA : Option Addr) (kc : Nat) (keep : List Int) (hk : RdS Sto.I1 1 w base KA keep) (hkl2 : keep.length ≤ 9223372036854775807) :
    Calls Tryz.prog 31 #[.pointer (some ⟨g, 0, none⟩), .int .i64 changes, .slice KA keep.length kc] w fun e w' => e = .returned (.tuple #[]) ∧ Rest w' base g R K N T S ∧ Below base w w' := by
  obtain ⟨s, m, fs, h⟩ := h
  refine (Sto.crash_any h.st changes KA kc keep hk hkl2 (by rw [h.cl.kept]; simp) (by have := h.fl; omega)).mono ?_
  rintro e w2 ⟨rfl, m2, hst, haf⟩
  refine ⟨rfl, ⟨_, m2, fs, hst, h.cl.crash changes keep, rfl, h.room, h.n, ?_, h.eq, ?_⟩, haf.below h.st⟩
  · have : (Sto.crash s changes keep).files.length = s.files.length := Sto.cutAll_len _ _ _ _
    rw [this]; exact h.fl
  · rw [size_crash h.cl]; exact h.sz
theorem Rest.new (w : World) (room : Int) (hr1 : 1 ≤ room) (hr2 : room ≤ 16777216) (K : Nat) : Calls Tryz.prog 22 #[.int .i64 room] w fun e w' => ∃ g, e = .returned (.tuple #[.pointer (some ⟨g, 0, none⟩), .int .i64 0]) ∧ Rest w' w.heap.size g room K 0 0 [] ∧ Below w.heap.size w w' :=
  (Sto.new_any room hr1 hr2 w).mono (fun e w2 ⟨g, m, he, hst, hb⟩ => ⟨g, he, ⟨_, m, [], hst, Cl.new room (by omega) K, rfl, rfl, (fun _ h => by cases h), Nat.le_refl _, rfl, Nat.le_refl _⟩, hb⟩)
theorem Run.lb_ne (h : Run w base g R K N T S wt lb) : base ≤ lb := by
  obtain ⟨s, m, l, x, fs, f, h⟩ := h
  have := h.ls.lbb
  rw [h.lbx] at this
  exact this
end
end Wal
end Go.Proofs.YtaiokogbhfliiaaGreatDoor

namespace Go.Proofs.YtaiokogbhfliiaaGreatDoor
open Go.RowKit Go.Maps

def Bo1 (b : Bool) : List Value := [.bool b]
namespace Wal
theorem lies_empty {s : Sto.St} : ∀ {fs : List Fi} {k : Nat} (k' : Nat), flat fs = [] → Lies s k fs → Lies s k' fs
  | [], _, _, _, _ => trivial
  | f :: r, k, k', h, hl => by
    have h1 : f.g ++ flat r = [] := by rw [← h]; simp [flat]
    obtain ⟨h2, h3⟩ := List.append_eq_nil_iff.1 h1
    obtain ⟨l1, l2⟩ := hl
    exact ⟨by rw [l1, h2]; rfl, lies_empty _ h3 l2⟩
section
variable {w w' : World} {base g K N T lb : Nat} {R : Int} {S wt : List (List UInt8)}
theorem Run.skip_bad (h : Run w base g R 1 N T [] [] lb) (n : Int) (hn : n < 1 ∨ 1099511627776 < n) : Calls Tryz.prog 33 #[.pointer (some ⟨lb, 0, none⟩), .int .i64 n] w fun e w' => e = .returned (.int .i64 1) ∧ Below base w w' := by
  obtain ⟨s, m, l, x, fs, f, h⟩ := h
  have h1 := skip_any h.ls n
  rw [h.lbx, Wal.skip_bad n h.lo.brk hn] at h1
  refine h1.mono ?_
  rintro e w2 ⟨rfl, m2, hls, haf⟩
  exact ⟨rfl, haf.below h.ls⟩
theorem Run.skip_val (h : Run w base g R 1 N T [] [] lb) (n : Nat) (h1 : 1 ≤ n) (h2 : n ≤ 1099511627776) : Calls Tryz.prog 33 #[.pointer (some ⟨lb, 0, none⟩), .int .i64 (n : Int)] w fun e w' => e = .returned (.int .i64 0) ∧ Run w' base g R n N T [] [] lb ∧ Below base w w' := by
  obtain ⟨s, m, l, x, fs, f, h⟩ := h
  have h3 := skip_any h.ls n
  have hwt : l.waiting = [] := h.lo.wait
  rw [h.lbx, Wal.skip_ok n h.lo.brk (by omega) hwt] at h3
  have hnx : l.next = 1 := by rw [h.lo.next, h.eq]; rfl
  have hmx : max l.next n = n := by omega
  refine h3.mono ?_
  rintro e w2 ⟨rfl, m2, hls, haf⟩
  simp only [Int.toNat_natCast, hmx] at hls
  have hfs : flat fs = [] ∧ f.g = [] := by have := h.eq; rw [flat_snoc] at this; exact List.append_eq_nil_iff.1 this
  have hc := h.lo.cl
  refine ⟨rfl, ⟨s, m2, _, x, fs, f, hls, h.lbx, ⟨⟨hc.ok, hc.off, hc.dir, hc.disk, hc.kept, lies_empty n h.eq hc.lies, hc.sync⟩, h.lo.last, ?_, h.lo.brk, hwt, ?_, h1, by simp only; omega, h.lo.fit⟩, h.plan, h.room, h.n, h.fl, h.eq, h.sz⟩, haf.below h.ls⟩
  · rw [h.lo.clean, hfs.2]; rfl
  · rw [h.eq]; rfl
end
set_option maxHeartbeats 1000000 in
set_option maxRecDepth 100000 in
theorem walNumbers_walk (frm : Int) (a : Option Addr) (cap : Nat) (l : List Bool) (W : World) (_w0 : (Lit.int .i64 frm).wf = true) (hl : RdS Bo1 1 W W.heap.size a l) (ht : Tab W) :
    Calls Tryz.prog 8 #[.int .i64 frm, .slice a l.length cap] W fun e W' => e = .returned (.bool true) ∧ Below W.heap.size W W' := by
  have KA := Lib.hid (awake_any W ht)
  have HT := Lib.hid ht
  have HL := Lib.hid hl
  clear ht hl
  go_enter Tryz.func8, Tryz.ntmps8
  go_wp2_with fail
  refine KA.out.mono ?_
  rintro e w1 ⟨rfl, hb1⟩
  have HB1 := Lib.hid hb1
  have KN := Lib.hid (Rest.new w1 1048576 (by decide) (by decide) 1)
  have HT1 := Lib.hid (TabU.of (HT.out.below hb1))
  clear hb1 KA
  go_wp2_with fail
  refine KN.out.mono ?_
  rintro e w2 ⟨g, rfl, hr, hb2⟩
  have HR := Lib.hid hr
  have HB2 := Lib.hid (HB1.out.trans (hb2.mono HB1.out.size))
  have HT2 := Lib.hid (HT1.out.keep hb2)
  have KO := Lib.hid (hr.open_val HT2.out 50 (by decide) (by decide) (by decide) (by decide) (.inl rfl) (by decide))
  clear hr hb2 KN
  by_cases hA : (1099511627676 : Int) < frm ∧ frm ≤ (1099511627776 : Int)
  · obtain ⟨hA1, hA2⟩ := hA
    go_wp2_with fail
    go_ret
    exact ⟨rfl, HB2.out⟩
  by_cases hB : frm < 1 ∨ (1099511627776 : Int) < frm
  · have hA1 : Hid True := Lib.hid trivial
    have HBB := Lib.hid hB
    have hq : (decide ((1099511627676 : Int) < frm) && decide (frm ≤ (1099511627776 : Int))) = false := by
      rw [Bool.and_eq_false_iff]
      rcases hB with h | h
      · left; simp; omega
      · right; simp; omega
    rcases hB with hB | hB
    · have hB2 : ¬ (1099511627676 : Int) < frm := by omega
      clear hA hq
      go_wp2_with fail
      refine KO.out.mono ?_
      rintro e w3 ⟨lb, A, c, Y, rfl, hrun, _, _, hb3⟩
      have HRUN := Lib.hid hrun
      have HB3 := Lib.hid (HB2.out.trans (hb3.mono HB1.out.size))
      have HT3 := Lib.hid (HT2.out.keep hb3)
      clear hrun hb3 KO
      have KS := Lib.hid (HRUN.out.skip_bad frm HBB.out)
      go_wp2_with fail
      refine KS.out.mono ?_
      rintro e w4 ⟨rfl, hb4⟩
      have HB4 := Lib.hid (HB3.out.trans (hb4.mono HB1.out.size))
      clear hb4
      go_wp2_with fail
      go_ret
      exact ⟨rfl, HB4.out⟩
    · have hB2 : ¬ frm ≤ (1099511627776 : Int) := by omega
      have hB3 : (1099511627676 : Int) < frm := by omega
      have hB4 : ¬ frm < 1 := by omega
      clear hA hq
      go_wp2_with fail
      refine KO.out.mono ?_
      rintro e w3 ⟨lb, A, c, Y, rfl, hrun, _, _, hb3⟩
      have HRUN := Lib.hid hrun
      have HB3 := Lib.hid (HB2.out.trans (hb3.mono HB1.out.size))
      have HT3 := Lib.hid (HT2.out.keep hb3)
      clear hrun hb3 KO
      have KS := Lib.hid (HRUN.out.skip_bad frm HBB.out)
      go_wp2_with fail
      refine KS.out.mono ?_
      rintro e w4 ⟨rfl, hb4⟩
      have HB4 := Lib.hid (HB3.out.trans (hb4.mono HB1.out.size))
      clear hb4
      go_wp2_with fail
      go_ret
      exact ⟨rfl, HB4.out⟩
  · obtain ⟨n, rfl⟩ := Int.eq_ofNat_of_zero_le (show 0 ≤ frm by omega)
    have hn1 : ¬ (1099511627676 : Int) < (n : Int) := by omega
    have hn2 : (1 : Int) ≤ (n : Int) := by omega
    clear hA hB
    go_wp2_with fail
    refine KO.out.mono ?_
    rintro e w3 ⟨lb, A, c, Y, rfl, hrun, _, _, hb3⟩
    have HRUN := Lib.hid hrun
    have HB3 := Lib.hid (HB2.out.trans (hb3.mono HB1.out.size))
    have HT3 := Lib.hid (HT2.out.keep hb3)
    clear hrun hb3 KO
    have KS := Lib.hid (HRUN.out.skip_val n (by omega) (by omega))
    go_wp2_with fail
    refine KS.out.mono ?_
    rintro e w4 ⟨rfl, hrun4, hb4⟩
    have HR4 := Lib.hid hrun4
    have HB4 := Lib.hid (HB3.out.trans (hb4.mono HB1.out.size))
    have HT4 := Lib.hid (HT3.out.keep hb4)
    clear hrun4 hb4 KS HRUN
    have hnb : (n : Int) ≤ 1099511627676 := by omega
    go_wp2_with fail
    go_loopw [12] (fun i wr => ∃ (k : Nat) (S wt : List (List UInt8)), i = .int .i64 (k : Int) ∧ k ≤ 60 ∧ Hid (S.length + wt.length = k) ∧ Hid (Run wr w1.heap.size g 1048576 n (1 + k) (k * 26) S wt lb) ∧ Hid (Below W.heap.size W wr) ∧ Hid (TabU w1.heap.size wr)) (fun i _ => 60 - (intOf i).toNat)
    case atStart => exact ⟨0, [], [], rfl, by omega, Lib.hid rfl, HR4, HB4, HT4⟩
    case round =>
      obtain ⟨k, S, wt, rfl, hk60, HSW, HRR, HBR, HTR⟩ := hrel
      by_cases hkl : k < l.length
      · by_cases hk6 : k < 60
        · have hk6i : (k : Int) < 60 := by omega
          obtain ⟨b, off, hA, hb, hc⟩ := RdS.row (f := Bo1) (n := 1) (fun _ => rfl) (by omega) HL.out (by omega)
          have r0 := hc k hkl 0 _ rfl
          rw [Nat.add_zero, Nat.mul_one] at r0
          obtain ⟨q, hq⟩ : ∃ q, q = l[k] := ⟨_, rfl⟩
          rw [← hq] at r0
          have HC := Lib.hid (fun X (hX : Below W.heap.size W X) => (hX.cell (p := ⟨b, off + k, none⟩) hb).trans r0)
          have eb : IntKind.u8.wrap (k : Int) = (k : Int) := by unfold IntKind.wrap; simp [IntKind.bits, IntKind.signed]; omega
          have HRD : Hid (RdB (wr.alloc (.cells #[.int .u8 (k : Int)] 5)) (wr.alloc (.cells #[.int .u8 (k : Int)] 5)).heap.size (some ⟨wr.heap.size, 0, none⟩) [UInt8.ofNat k]) := Lib.hid (by
            rw [World.size_alloc]
            exact rd_byte wr (k : Int) (UInt8.ofNat k) (by rw [UInt8.toNat_ofNat']; omega) wr.heap.size rfl)
          have hab : Below wr.heap.size wr (wr.alloc (.cells #[.int .u8 (k : Int)] 5)) := (Below.refl _ _).alloc (Nat.le_refl _) _
          have HAB := Lib.hid (HBR.out.trans (hab.mono HBR.out.size))
          have HTA := Lib.hid (HTR.out.keep (hab.mono HRR.out.base_le))
          have esw : n + S.length + wt.length = n + k := by have := HSW.out; omega
          have KD := Lib.hid ((HRR.out.below hab).add_val (some ⟨wr.heap.size, 0, none⟩) 1 [UInt8.ofNat k] HRD.out (by simp) (by omega))
          rw [esw] at KD
          subst hA
          clear hc hq r0 hab esw
          go_wp2_with fail
          refine KD.out.mono ?_
          rintro e w5 ⟨rfl, hr5, hb5⟩
          have HR5 := Lib.hid hr5
          have HB5 := Lib.hid (HAB.out.trans (hb5.mono HB1.out.size))
          have HT5 := Lib.hid (HTA.out.keep hb5)
          have KX := hr5.next_val
          have esw : n + S.length + (wt ++ [[UInt8.ofNat k]]).length = n + k + 1 := by have := HSW.out; rw [List.length_append, List.length_cons, List.length_nil]; omega
          rw [esw] at KX
          have KX := Lib.hid KX
          have c5 := HC.out w5 HB5.out
          clear hr5 hb5 esw KD
          go_wp2_with fail
          refine KX.out.mono ?_
          rintro e w6 ⟨rfl, rfl⟩
          clear KX
          rcases q with _ | _
          · go_wp2_with fail
            exact ⟨⟨k + 1, S, wt ++ [[UInt8.ofNat k]], by simp, by omega, Lib.hid (by have := HSW.out; rw [List.length_append, List.length_cons, List.length_nil]; omega), Lib.hid (by
              have h9 := HR5.out
              obtain ⟨s, m, lg, x, fs, f, h9⟩ := h9
              exact ⟨s, m, lg, x, fs, f, h9.ls, h9.lbx, h9.lo, h9.plan, h9.room, by have := h9.n; omega, by have := h9.fl; omega, h9.eq, by have := h9.sz; simp at this ⊢; omega⟩), HB5, HT5⟩, by simp only [intOf]; omega⟩
          · have KC := Lib.hid (HR5.out.commit_val HT5.out (by simp; omega) (by omega) (by have := HSW.out; rw [List.length_append, List.length_cons, List.length_nil]; omega))
            go_wp2_with fail
            refine KC.out.mono ?_
            rintro e w7 ⟨rfl, hr7, hb7⟩
            have HR7 := Lib.hid hr7
            have HB7 := Lib.hid (HB5.out.trans (hb7.mono HB1.out.size))
            have HT7 := Lib.hid (HT5.out.keep hb7)
            have KW := Lib.hid hr7.waits_val
            clear hr7 hb7 KC
            go_wp2_with fail
            refine KW.out.mono ?_
            rintro e w8 ⟨rfl, rfl⟩
            clear KW
            go_wp2_with fail
            exact ⟨⟨k + 1, S ++ (wt ++ [[UInt8.ofNat k]]), [], by simp, by omega, Lib.hid (by have := HSW.out; simp only [List.length_append, List.length_cons, List.length_nil]; omega), Lib.hid (by
              have h9 := HR7.out
              obtain ⟨s, m, lg, x, fs, f, h9⟩ := h9
              exact ⟨s, m, lg, x, fs, f, h9.ls, h9.lbx, h9.lo, h9.plan, h9.room, by have := h9.n; omega, by have := h9.fl; omega, h9.eq, by have := h9.sz; simp at this ⊢; omega⟩), HB7, HT7⟩, by simp only [intOf]; omega⟩
        · have hk6i : ¬ (k : Int) < 60 := by omega
          go_wp2_with fail
          go_ret
          exact ⟨rfl, HBR.out⟩
      · go_wp2_with fail
        go_ret
        exact ⟨rfl, HBR.out⟩
end Wal
end Go.Proofs.YtaiokogbhfliiaaGreatDoor
