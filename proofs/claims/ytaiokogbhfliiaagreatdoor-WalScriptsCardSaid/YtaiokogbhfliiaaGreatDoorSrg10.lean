/- Parts of the proof, one behind the other: The statement WalScripts, walked. -/
import Derived.Test.YtaiokogbhfliiaaGreatDoorSrg08
import Derived.Test.YtaiokogbhfliiaaGreatDoorSrg07
import Derived.Test.YtaiokogbhfliiaaGreatDoorSrg04
import Derived.Test.YtaiokogbhfliiaaGreatDoorSrg09
import Derived.Deep.CutRange
namespace Go.Proofs.YtaiokogbhfliiaaGreatDoor
open Go.RowKit Go.Maps

namespace Ref
theorem opens_wait {s : Sto.St} {limit : Int} {l : Wal.Lg} {bs : List Wal.Bt} (h : (Wal.opens s limit).2.2 = some (l, bs)) : l.waiting = [] := by
  unfold Wal.opens at h
  simp only at h
  repeat' split at h
  all_goals first | (cases h; done) | skip
  all_goals
    injection h with h
    injection h with h h2
    subst h
    simp only [Wal.mk_lg.2.1]
/-- What a store has behind k steps. -/
structure Scn (s : Sto.St) (k : Nat) : Prop where
  nm : Sto.Nm s
  files : s.files.length ≤ k + 1
  kept : s.kept.length ≤ (k + 1) * 200
theorem Scn.succ {s : Sto.St} {k : Nat} (h : Scn s k) : Scn s (k + 1) := by
  exact ⟨h.nm, Nat.le_succ_of_le h.files, Nat.le_trans h.kept (Nat.mul_le_mul_right _ (Nat.le_succ _))⟩
theorem scn_opens {s : Sto.St} {k : Nat} (limit : Int) (hn : Sto.Nm s) (hf : s.files.length ≤ k) (hk : s.kept.length ≤ 1) : Scn (Wal.opens s limit).2.1 k := by
  have h1 := Wal.opens_sz (s := s) limit
  exact ⟨Wal.nm_opens hn limit, by omega, by omega⟩
theorem scr_opens {s : Sto.St} {k : Nat} (limit : Int) (hok : Sto.Ok s) (hn : Sto.Nm s) (hf : s.files.length ≤ k) (hk : s.kept.length ≤ 1) {l : Wal.Lg} {bs : List Wal.Bt} (h : (Wal.opens s limit).2.2 = some (l, bs)) : Wal.Scr (Wal.opens s limit).2.1 l k := by
  have h1 := scn_opens limit hn hf hk
  exact ⟨h1.nm, Wal.tp_opens hok h, h1.files, h1.kept, by rw [opens_wait h]; exact Nat.zero_le _⟩
theorem scn_crash {s : Sto.St} {k : Nat} (h : Scn s k) (c : Int) (keep : List Int) : Sto.Nm (Sto.crash s c keep) ∧ (Sto.crash s c keep).files.length ≤ k + 1 ∧ (Sto.crash s c keep).kept.length ≤ 1 :=
  ⟨h.nm.crash c keep, by have h1 : (Sto.crash s c keep).files.length = s.files.length := Sto.cutAll_len _ _ _ _; rw [h1]; exact h.files, Nat.zero_le _⟩
section
variable {w w' W : World} {bs g br gr lb lb2 : Nat} {s : Sto.St} {l : Wal.Lg} {A A2 : Option Addr} {c c2 : Nat} {Y Y2 : List Yv}
theorem Two.keep (h : Two w W bs g br gr lb lb2 A c Y A2 c2 Y2 s l) (hb : Below w.heap.size w w') : Two w' W bs g br gr lb lb2 A c Y A2 c2 Y2 s l := by
  obtain ⟨m, xl, mr, xr, h, h1, h2⟩ := h
  exact ⟨m, xl, mr, xr, h.keep hb, h1, h2⟩
theorem Two.below (h : Two w W bs g br gr lb lb2 A c Y A2 c2 Y2 s l) : Below W.heap.size W w := by
  obtain ⟨m, xl, mr, xr, h, h1, h2⟩ := h
  exact h.two.below
theorem Two.base (h : Two w W bs g br gr lb lb2 A c Y A2 c2 Y2 s l) : bs ≤ w.heap.size := by
  obtain ⟨m, xl, mr, xr, h, h1, h2⟩ := h
  have := h.two.real.lbb; have := h.two.real.lb_tag.lt; omega
theorem Two.both (h : Two w W bs g br gr lb lb2 A c Y A2 c2 Y2 s l) : ∃ m mr, Both w W bs g s m br gr s mr := by
  obtain ⟨m, xl, mr, xr, h, h1, h2⟩ := h
  exact ⟨m, mr, h.two.both⟩
theorem Two.same (h : Two w W bs g br gr lb lb2 A c Y A2 c2 Y2 s l) (hl : Y.length ≤ 9000000000000000) :
    Calls Tryz.prog 17 #[.slice A Y.length c, .slice A2 Y2.length c2] w fun e w' => e = .returned (.bool true) ∧ Below w.heap.size w w' := by
  obtain ⟨m, xl, mr, xr, h, h1, h2⟩ := h
  have h3 := same7_any A A2 c c2 Y Y2 w h.y.rd h.y2.rd hl
  rw [h.eq, decide_eq_true rfl] at h3
  exact h3
theorem Two.alike (h : Two w W bs g br gr lb lb2 A c Y A2 c2 Y2 s l) (hf : s.files.length ≤ 1000000) (hm : Sto.Nm s) :
    Calls Tryz.prog 18 #[.pointer (some ⟨g, 0, none⟩), .pointer (some ⟨gr, 0, none⟩)] w fun e w' => e = .returned (.bool true) ∧ Below w.heap.size w w' := by
  obtain ⟨m, xl, mr, xr, h, h1, h2⟩ := h
  exact alike_any h.two.both hf hm
theorem Two.nexts (h : Two w W bs g br gr lb lb2 A c Y A2 c2 Y2 s l) : (Calls Tryz.prog 19 #[.pointer (some ⟨lb, 0, none⟩)] w fun e w' => e = .returned (.int .i64 (Wal.next l : Int)) ∧ w' = w) ∧ (Calls Tryz.prog 20 #[.pointer (some ⟨lb2, 0, none⟩)] w fun e w' => e = .returned (.int .i64 (Wal.next l : Int)) ∧ w' = w) ∧
    (Calls Tryz.prog 21 #[.pointer (some ⟨lb, 0, none⟩)] w fun e w' => e = .returned (.int .i64 (Wal.waits l : Int)) ∧ w' = w) ∧ (Calls Tryz.prog 36 #[.pointer (some ⟨lb2, 0, none⟩)] w fun e w' => e = .returned (.int .i64 (Wal.waits l : Int)) ∧ w' = w) := by
  obtain ⟨m, xl, mr, xr, h, h1, h2⟩ := h
  subst h1 h2
  exact ⟨Wal.next_any h.two.real, next_any h.two.ref, Wal.waits_any h.two.real, waits_any h.two.ref⟩
theorem Two.fine (h : Two w W bs g br gr lb lb2 A c Y A2 c2 Y2 s l) : Sto.Ok s ∧ l.last < 1000000 := by
  obtain ⟨m, xl, mr, xr, h, h1, h2⟩ := h
  exact ⟨h.two.real.st.r.ok, by have := h.two.real.ok.last; omega⟩
/-- Both logs are opened. -/
theorem Both.opened {w5 w6 w7 : World} {m m6 : Sto.Mem} {mr mr7 : Mem} {s' : Sto.St} {c3 : Nat} {A3 : Option Addr} {Y3 : List Yv} {bs0 : List Wal.Bt} (h : Both w5 W bs g s m br gr s mr) (hls6 : Wal.LS w6 bs g s' m6 l ⟨lb, none, 0, []⟩) (haf6 : Aft0 w5 w6 g m m6) (hY : Y.map Yv.b = bs0.map (·.2)) (hYs : Ys w6 bs g m6 A c Y)
    (hls7 : LS w7 br gr s' mr7 l ⟨lb2, none, 0, []⟩) (haf7 : Aft turnsM w6 w7 br (Row mr) (Row mr7)) (hY7 : Y3.map Yv.b = bs0.map (·.2)) (hYr : Yr w7 w6.heap.size A3 c3 Y3) : Two w7 W bs g br gr lb lb2 A c Y A3 c3 Y3 s' l := by
  have h6 := h.op hls6.st haf6
  have h7 := h6.rop hls7.st haf7 (by decide)
  refine ⟨m6, _, mr7, _, ⟨⟨wls_beside hls6 haf7 (by decide) (by decide) (by decide), hls7, fun b hb => ?_, h7.lo, h7.lo2, h7.lo3, h7.below⟩, ys_raft hYs haf7 h7.lo3 (by decide) (by decide), ⟨hYr.row.mono h6.ref.bs, fun v hv => ⟨(hYr.ok v hv).rd, fun k e => ⟨Nat.le_trans h6.ref.bs ((hYr.ok v hv).at_ k e).1, ((hYr.ok v hv).at_ k e).2⟩⟩⟩, fun v hv q e hm => ?_, hY.trans hY7.symm⟩, rfl, rfl⟩
  · rcases hb with hb | ⟨_, hb, _⟩
    · exact h7.apart b hb
    · cases hb
  · have h8 := ((hYr.ok v hv).at_ q e).1
    have h9 := (hls6.st.r.mut_ge hm).2
    omega
theorem Both.base {t : Sto.St} {m : Sto.Mem} {mr : Mem} (h : Both w W bs g s m br gr t mr) : bs ≤ w.heap.size := by
  have := h.real.r.gb; have := h.real.r.gt.lt; omega
end
/-- What a step's cells hold. -/
def StepC (b off k : Nat) (vn : Int) (K : Value) (V : World) : Prop := V.cell? ⟨b, off + k * 4 + 1, none⟩ = some (.int .i64 vn) ∧ V.cell? ⟨b, off + k * 4 + 3, none⟩ = some K
/-- What lies ahead of a round of WalScripts. -/
def SS (W : World) (bs g br gr k : Nat) (lp n bp e xp n2 cp f : Value) (w : World) : Prop :=
  (∃ (code : Int) (s : Sto.St) (m : Sto.Mem) (mr : Mem), lp = .pointer none ∧ n = .int .i64 0 ∧ bp = .slice none 0 0 ∧ e = .int .i64 code ∧ xp = .pointer none ∧ n2 = .int .i64 0 ∧ cp = .slice none 0 0 ∧ f = .int .i64 code ∧ Both w W bs g s m br gr s mr ∧ Scn s k) ∨
  (∃ (lb lb2 z : Nat) (A A2 : Option Addr) (c c2 : Nat) (Y Y2 : List Yv) (s : Sto.St) (l : Wal.Lg), lp = .pointer (some ⟨lb, 0, none⟩) ∧ n = .int .i64 (z : Int) ∧ bp = .slice A Y.length c ∧ e = .int .i64 0 ∧ xp = .pointer (some ⟨lb2, 0, none⟩) ∧ n2 = .int .i64 (z : Int) ∧ cp = .slice A2 Y2.length c2 ∧ f = .int .i64 0 ∧ Two w W bs g br gr lb lb2 A c Y A2 c2 Y2 s l ∧ Wal.Scr s l k ∧ Y.length ≤ 9000000000000000)
/-- What opening gives, as values. -/
theorem opens_vals {w w' : World} {base g : Nat} {m : Sto.Mem} {r : Int × Sto.St × Option (Wal.Lg × List Wal.Bt)} {e : Ending} (h : Wal.OpensP w base g m r e w') : ∃ (p : Option Addr) (z : Int) (A : Option Addr) (n c : Nat) (q : Int), e = .returned (.tuple #[.pointer p, .int .i64 z, .slice A n c, .int .i64 q]) := by
  rcases h with ⟨_, h, _⟩ | ⟨l, bs, lb, A, c, Y, m', _, _, h, _⟩
  · exact ⟨_, _, _, _, _, _, h⟩
  · exact ⟨_, _, _, _, _, _, h⟩
theorem opens_valsR {w w' : World} {base g : Nat} {m : Mem} {r : Int × Sto.St × Option (Wal.Lg × List Wal.Bt)} {e : Ending} (h : OpensP w base g m r e w') : ∃ (p : Option Addr) (z : Int) (A : Option Addr) (n c : Nat) (q : Int), e = .returned (.tuple #[.pointer p, .int .i64 z, .slice A n c, .int .i64 q]) := by
  rcases h with ⟨_, h, _⟩ | ⟨l, bs, lb, A, c, Y, m', _, _, h, _⟩
  · exact ⟨_, _, _, _, _, _, h⟩
  · exact ⟨_, _, _, _, _, _, h⟩
theorem opens_st {w w' : World} {base g : Nat} {m : Sto.Mem} {r : Int × Sto.St × Option (Wal.Lg × List Wal.Bt)} {e : Ending} (h : Wal.OpensP w base g m r e w') : ∃ m', Sto.StAt w' base g r.2.1 m' ∧ Aft0 w w' g m m' := by
  rcases h with ⟨_, _, m', h1, h2⟩ | ⟨l, bs, lb, A, c, Y, m', _, _, _, h1, h2, _⟩
  · exact ⟨m', h1, h2⟩
  · exact ⟨m', h1.st, h2⟩
theorem quad_inj {a b c d a' b' c' d' : Value} (h : Ending.returned (.tuple #[a, b, c, d]) = Ending.returned (.tuple #[a', b', c', d'])) : a = a' ∧ b = b' ∧ c = c' ∧ d = d' := by
  injection h with h
  injection h with h
  have h0 := congrArg (fun x : Array Value => x.getD 0 undef) h
  have h1 := congrArg (fun x : Array Value => x.getD 1 undef) h
  have h2 := congrArg (fun x : Array Value => x.getD 2 undef) h
  have h3 := congrArg (fun x : Array Value => x.getD 3 undef) h
  exact ⟨h0, h1, h2, h3⟩
/-- Both are opened: what comes of it. -/
theorem ss_of {w5 w6 w7 W : World} {bs g br gr k : Nat} {s : Sto.St} {m : Sto.Mem} {mr : Mem} {limit : Int} {r : Int × Sto.St × Option (Wal.Lg × List Wal.Bt)} (hr : r = Wal.opens s limit) (h : Both w5 W bs g s m br gr s mr) (hn : Sto.Nm s) (hf : s.files.length ≤ k) (hf2 : k ≤ 1000) (hk : s.kept.length ≤ 1) {v1 v2 v3 v4 u1 u2 u3 u4 : Value}
    (h1 : Wal.OpensP w5 bs g m r (.returned (.tuple #[v1, v2, v3, v4])) w6) (h2 : OpensP w6 br gr mr r (.returned (.tuple #[u1, u2, u3, u4])) w7) :
    SS W bs g br gr k v1 v2 v3 v4 u1 u2 u3 u4 w7 ∧ Below W.heap.size W w7 ∧ Below bs w5 w7 := by
  subst hr
  rcases h1 with ⟨e1, h1, m6, hst, haf⟩ | ⟨l, bt, lb, A, c, Y, m6, e1, _, h1, hls6, haf6, _, hY, hYs⟩
  · rcases h2 with ⟨_, h2, mr7, hst7, haf7⟩ | ⟨_, _, _, _, _, _, _, e2, _⟩
    · obtain ⟨rfl, rfl, rfl, rfl⟩ := quad_inj h1
      obtain ⟨rfl, rfl, rfl, rfl⟩ := quad_inj h2
      have h6 := h.op hst haf
      have h7 := h6.rop hst7 haf7 (by decide)
      exact ⟨.inl ⟨_, _, m6, mr7, rfl, rfl, rfl, rfl, rfl, rfl, rfl, rfl, h7, scn_opens limit hn hf hk⟩, h7.below, (haf.below h.real).trans ((haf7.below h6.ref.bs).mono h.lo3)⟩
    · rw [e1] at e2; cases e2
  · rcases h2 with ⟨e2, _⟩ | ⟨l2, bt2, lb2, A3, c3, Y3, mr7, e2, _, h2, hls7, haf7, _, hY7, hYr⟩
    · rw [e1] at e2; cases e2
    · rw [e1] at e2
      injection e2 with e2
      injection e2 with e2 e3
      subst e2 e3
      obtain ⟨rfl, rfl, rfl, rfl⟩ := quad_inj h1
      obtain ⟨rfl, rfl, rfl, rfl⟩ := quad_inj h2
      have h6 := h.op hls6.st haf6
      have hT := h.opened hls6 haf6 hY hYs hls7 haf7 hY7 hYr
      have h1 : Y.length ≤ 9000000000000000 := by
        have h5 := congrArg List.length hY
        rw [List.length_map, List.length_map, (opens_waits e1).2] at h5
        have h7 := there_len h.ref (by omega)
        omega
      exact ⟨.inr ⟨lb, lb2, _, A, A3, c, c3, Y, Y3, _, l, rfl, rfl, rfl, rfl, rfl, rfl, rfl, rfl, hT, scr_opens limit h.real.r.ok hn hf hk e1, h1⟩, hT.below, (haf6.below h.real).trans ((haf7.below h6.ref.bs).mono h.lo3)⟩
/-- What lies ahead of a round, as letters. -/
structure SG (W : World) (bs g br gr k : Nat) (p : Option Addr) (A : Option Addr) (n1 c1 : Nat) (p2 A2 : Option Addr) (n2 c2 : Nat) (s : Sto.St) (m : Sto.Mem) (mr : Mem) (w : World) : Prop where
  both : Both w W bs g s m br gr s mr
  scn : Scn s k
  same : Calls Tryz.prog 17 #[.slice A n1 c1, .slice A2 n2 c2] w fun e w' => e = .returned (.bool true) ∧ Below w.heap.size w w'
theorem ss_gen {W w : World} {bs g br gr k : Nat} {lp n bp e xp n2 cp f : Value} (h : SS W bs g br gr k lp n bp e xp n2 cp f w) : ∃ (p : Option Addr) (z : Int) (A : Option Addr) (n1 c1 : Nat) (code : Int) (p2 A2 : Option Addr) (m1 c2 : Nat) (s : Sto.St) (m : Sto.Mem) (mr : Mem) (q : Bool), lp = .pointer p ∧ n = .int .i64 z ∧ bp = .slice A n1 c1 ∧ e = .int .i64 code ∧ xp = .pointer p2 ∧ n2 = .int .i64 z ∧ cp = .slice A2 m1 c2 ∧ f = .int .i64 code ∧ (p == none) = q ∧ (p2 == none) = q ∧ SG W bs g br gr k p A n1 c1 p2 A2 m1 c2 s m mr w := by
  rcases h with ⟨code, s, m, mr, rfl, rfl, rfl, rfl, rfl, rfl, rfl, rfl, hB, hS⟩ | ⟨lb, lb2, z, A, A2, c, c2, Y, Y2, s, lg, rfl, rfl, rfl, rfl, rfl, rfl, rfl, rfl, hT, hS, hYl⟩
  · have K3 := same7_any none none 0 0 [] [] w ⟨RdS.nil, fun _ h => by cases h⟩ ⟨RdS.nil, fun _ h => by cases h⟩ (by simp)
    exact ⟨none, 0, none, 0, 0, code, none, none, 0, 0, s, m, mr, true, rfl, rfl, rfl, rfl, rfl, rfl, rfl, rfl, rfl, rfl, hB, hS, K3⟩
  · obtain ⟨m, mr, hB⟩ := hT.both
    exact ⟨_, _, A, _, c, 0, _, A2, _, c2, s, m, mr, false, rfl, rfl, rfl, rfl, rfl, rfl, rfl, rfl, rfl, rfl, hB, ⟨hS.nm, hS.files, hS.kept⟩, hT.same hYl⟩
theorem ss_keep {W w w' : World} {bs g br gr k : Nat} {lp n bp e xp n2 cp f : Value} (h : SS W bs g br gr k lp n bp e xp n2 cp f w) (hb : Below w.heap.size w w') : SS W bs g br gr k lp n bp e xp n2 cp f w' := by
  rcases h with ⟨code, s, m, mr, e1, e2, e3, e4, e5, e6, e7, e8, hB, hS⟩ | ⟨lb, lb2, z, A, A2, c, c2, Y, Y2, s, lg, e1, e2, e3, e4, e5, e6, e7, e8, hT, hS⟩
  · exact .inl ⟨code, s, m, mr, e1, e2, e3, e4, e5, e6, e7, e8, hB.keep hb, hS⟩
  · exact .inr ⟨lb, lb2, z, A, A2, c, c2, Y, Y2, s, lg, e1, e2, e3, e4, e5, e6, e7, e8, hT.keep hb, hS⟩
theorem ss_idle {W w : World} {bs g br gr k : Nat} {n bp e xp n2 cp f : Value} (h : SS W bs g br gr k (.pointer none) n bp e xp n2 cp f w) : SS W bs g br gr (k + 1) (.pointer none) n bp e xp n2 cp f w := by
  rcases h with ⟨code, s, m, mr, e1, e2, e3, e4, e5, e6, e7, e8, hB, hS⟩ | ⟨lb, lb2, z, A, A2, c, c2, Y, Y2, s, lg, e1, _⟩
  · exact .inl ⟨code, s, m, mr, e1, e2, e3, e4, e5, e6, e7, e8, hB, hS.succ⟩
  · injection e1 with e1; cases e1
theorem ss_some {W w : World} {bs g br gr k : Nat} {a : Addr} {p2 : Option Addr} {n bp e n2 cp f : Value} (h : SS W bs g br gr k (.pointer (some a)) n bp e (.pointer p2) n2 cp f w) : ∃ (lb lb2 : Nat) (A A2 : Option Addr) (c c2 : Nat) (Y Y2 : List Yv) (s : Sto.St) (l : Wal.Lg), a = ⟨lb, 0, none⟩ ∧ p2 = some ⟨lb2, 0, none⟩ ∧ Two w W bs g br gr lb lb2 A c Y A2 c2 Y2 s l ∧ Wal.Scr s l k ∧ (∀ w' s' l', Two w' W bs g br gr lb lb2 A c Y A2 c2 Y2 s' l' → Wal.Scr s' l' (k + 1) → SS W bs g br gr (k + 1) (.pointer (some a)) n bp e (.pointer p2) n2 cp f w') := by
  rcases h with ⟨code, s, m, mr, e1, _⟩ | ⟨lb, lb2, z, A, A2, c, c2, Y, Y2, s, lg, e1, e2, e3, e4, e5, e6, e7, e8, hT, hS, hY⟩
  · injection e1 with e1; cases e1
  · have e9 := e1
    have e10 := e5
    injection e9 with e9
    injection e9 with e9
    injection e10 with e10
    exact ⟨lb, lb2, A, A2, c, c2, Y, Y2, s, lg, e9, e10, hT, hS, fun w' s' l' h1 h2 => .inr ⟨lb, lb2, z, A, A2, c, c2, Y, Y2, s', l', e1, e2, e3, e4, e5, e6, e7, e8, h1, h2, hY⟩⟩
set_option maxHeartbeats 60000000 in
set_option maxRecDepth 100000 in
theorem walScripts_walk (limit : Int) (a : Option Addr) (cap : Nat) (l : List Sv) (W : World) (_w0 : (Lit.int .i64 limit).wf = true) (hl : RdT W a l) (ht : Tab W) :
    Calls Tryz.prog 9 #[.int .i64 limit, .slice a l.length cap] W fun e W' => e = .returned (.bool true) ∧ Below W.heap.size W W' := by
  have KA := Lib.hid (Wal.awake_any W ht)
  have HT := Lib.hid ht
  have HL := Lib.hid hl
  clear ht hl
  go_enter Tryz.func9, Tryz.ntmps9
  go_wp2_with fail
  refine KA.out.mono ?_
  rintro e w1 ⟨rfl, hb1⟩
  have HB1 := Lib.hid hb1
  have KM := Lib.hid (Wal.much_any a cap l w1 (HL.out.below hb1))
  clear hb1 KA
  go_wp2_with fail
  refine KM.out.mono ?_
  rintro e w2 ⟨⟨q, rfl, hq⟩, rfl⟩
  have HQ := Lib.hid hq
  clear hq KM
  rcases q with _ | _
  · have KS := Lib.hid (stores_any none 0 [] w2 ⟨RdS.nil, fun _ h => by cases h⟩ (Nat.zero_le _) (fun _ h => by cases h))
    simp only [List.length_nil] at KS
    go_wp2_with fail
    refine KS.out.mono ?_
    rintro e w3 ⟨bs, g, s, m, br, gr, mr, rfl, hb3, hs1, hs2, hnm⟩
    have HB3 := Lib.hid hb3
    have HNM := Lib.hid hnm
    have HBS : Hid (w2.heap.size ≤ bs) := Lib.hid hb3.lo
    have HT3 : Hid (TabU bs w3) := Lib.hid ⟨W, HT.out, Nat.le_trans HB1.out.size hb3.lo, HB1.out.trans (hb3.below.mono HB1.out.size)⟩
    clear hb3 hnm KS
    have K4 := Lib.hid (Wal.opens_any HB3.out.real HT3.out HB3.out.base limit (Nat.le_trans (Nat.le_trans hs1 (Nat.zero_le 1)) (by omega)) (Nat.le_trans hs2 (by omega)))
    obtain ⟨r, hr⟩ : ∃ r, r = Wal.opens s limit := ⟨_, rfl⟩
    have HR := Lib.hid hr
    rw [← hr] at K4
    clear hr
    go_wp2_with fail
    refine K4.out.mono ?_
    intro e w4 hP1
    obtain ⟨p1, z1, A1, n1, c1, q1, rfl⟩ := opens_vals hP1
    have HP1 := Lib.hid hP1
    obtain ⟨m4, HB4⟩ : ∃ m', Hid (Both w4 w2 bs g r.2.1 m' br gr s mr) := by
      obtain ⟨m', h1, h2⟩ := opens_st hP1
      exact ⟨m', Lib.hid (HB3.out.op h1 h2)⟩
    have K5 : Hid (Calls Tryz.prog 16 #[.pointer (some ⟨gr, 0, none⟩), .int .i64 limit] w4 (OpensP w4 br gr mr r)) := Lib.hid (by
      rw [HR.out]
      exact opens_any HB4.out.ref limit (Nat.le_trans (Nat.le_trans hs1 (Nat.zero_le 1)) (by omega)) (Nat.le_trans hs2 (by omega)))
    clear hP1 K4
    go_wp2_with fail
    refine K5.out.mono ?_
    intro e w5 hP2
    obtain ⟨p2, z2, A2, n2, c2, q2, rfl⟩ := opens_valsR hP2
    have HSS := Lib.hid (ss_of (k := 0) HR.out HB3.out HNM.out hs2 (by omega) (Nat.le_trans hs1 (Nat.zero_le 1)) HP1.out hP2)
    have HT5 := Lib.hid (HT3.out.keep HSS.out.2.2)
    clear hP2 K5 HP1
    go_wp2_with fail
    go_loopw [10, 11, 12, 13, 14, 15, 16, 17, 18] (fun lp n bp e xp n2 cp f i wr => ∃ k : Nat, k ≤ l.length ∧ k ≤ 100 ∧ i = .int .i64 (k : Int) ∧ Hid (TabU bs wr) ∧ SS w2 bs g br gr k lp n bp e xp n2 cp f wr) (fun _ _ _ _ _ _ _ _ i _ => 100 - (intOf i).toNat)
    case atStart => exact ⟨0, by omega, by omega, rfl, HT5, HSS.out.1⟩
    case round =>
      clear HSS HT5 HB3 HT3 HNM HB4 HR
      obtain ⟨k, hk, hk2, rfl, HT, hss⟩ := hrel
      obtain ⟨p, z, A, n1, c1, code, p2, A2, m1, c2, s, m, mr, q, rfl, rfl, rfl, rfl, rfl, rfl, rfl, rfl, hp1, hp2, hg⟩ := ss_gen hss
      have HSS := Lib.hid hss
      have HG := Lib.hid hg
      clear hss hg
      have HL2 := Lib.hid (HL.out.below HB1.out)
      by_cases hkl : k < l.length
      · by_cases hk6 : k < 100
        · have hk6i : (k : Int) < 100 := by omega
          have hkli : (k : Int) < (l.length : Int) := by omega
          have hk0 : (0 : Int) ≤ (k : Int) := by omega
          obtain ⟨b, off, hA, hb, hc, hok⟩ := HL2.out.cell hkl
          have HBV : Hid ((l[k]).b.length ≤ 70000) := Lib.hid (HQ.out (by trivial) _ (by
            rw [List.mem_take_iff_getElem]
            exact ⟨k, by omega, rfl⟩))
          obtain ⟨v, hv⟩ : ∃ v, v = l[k] := ⟨_, rfl⟩
          rw [← hv] at hc HBV hok
          obtain ⟨vd, vn, vA, vc, vb, vK, vk, vl⟩ := v
          have HKP : Hid (RdS Sto.I1 1 w2 w2.heap.size vK vl) := Lib.hid hok.keep
          have HKL : Hid (vl.length ≤ 9223372036854775807) := Lib.hid hok.kl
          have HVB : Hid (RdB w2 w2.heap.size vA vb) := Lib.hid hok.b
          have hvb : vb.length ≤ 70000 := HBV.out
          have HC : Hid (∀ V, Below w2.heap.size w2 V → V.cell? ⟨b, off + k * 4, none⟩ = some (.int .i64 vd) ∧ StepC b off k vn (.slice vK vl.length vk) V) := Lib.hid (fun V hV => ⟨(hV.cell (p := ⟨b, off + k * 4, none⟩) hb).trans (hc 0 _ rfl), (hV.cell (p := ⟨b, off + k * 4 + 1, none⟩) hb).trans (hc 1 _ rfl), (hV.cell (p := ⟨b, off + k * 4 + 3, none⟩) hb).trans (hc 3 _ rfl)⟩)
          have HC2 : Hid (∀ V, Below w2.heap.size w2 V → V.cell? ⟨b, off + k * 4 + 2, none⟩ = some (.slice vA vb.length vc)) := Lib.hid (fun V hV => (hV.cell (p := ⟨b, off + k * 4 + 2, none⟩) hb).trans (hc 2 _ rfl))
          clear hv hok hc
          subst hA
          have KS := Lib.hid HG.out.same
          go_wp2_with fail
          refine KS.out.mono ?_
          rintro e w4 ⟨rfl, hb4⟩
          have HB4 := Lib.hid (HG.out.both.keep hb4)
          have HT4 := Lib.hid (HT.out.keep (hb4.mono HG.out.both.base))
          have HSS4 := Lib.hid (ss_keep HSS.out hb4)
          obtain ⟨q0, q1, q3⟩ := HC.out _ HB4.out.below
          have q2 := HC2.out _ HB4.out.below
          have ec : (code != code) = false := by simp
          have ez : (z != z) = false := by simp
          clear hb4 KS
          go_upto_region 14 with fail
          go_cut [86] from 55 to 166 (fun v wx => v = .bool false ∧ wx = w4)
          case first =>
            rcases p with _ | a
            · rcases p2 with _ | a2
              · clear hp1 hp2
                go_wp2_with fail
                go_meet
                exact ⟨rfl, rfl⟩
              · rw [← hp1] at hp2
                exact absurd hp2 (by simp)
            · rcases p2 with _ | a2
              · rw [← hp1] at hp2
                exact absurd hp2 (by simp)
              · clear hp1 hp2
                go_wp2_with fail
                go_meet
                exact ⟨rfl, rfl⟩
          case rest =>
          obtain ⟨hv, rfl⟩ := hcut
          subst hv
          by_cases d5 : vd = 5
          · clear q1 q2 q3 HSS4
            subst d5
            have HSC := Lib.hid (scn_crash HG.out.scn vn vl)
            have hks := (HG.out.scn).kept
            have hfs := (HG.out.scn).files
            go_wp2_with fail
            obtain ⟨V, hV⟩ : ∃ V, wc.drew = V := ⟨_, rfl⟩
            have hbV : Below wc.heap.size wc V := by rw [← hV]; exact (Below.refl _ _).drew
            have HBV := Lib.hid (HB4.out.keep hbV)
            have HTV := Lib.hid (HT4.out.keep (hbV.mono HB4.out.base))
            obtain ⟨_, q1, q3⟩ := HC.out _ HBV.out.below
            clear hbV q0
            refine region_still_tail 11 (by kernel_rfl) (by kernel_rfl) hV ?_
            simp only [List.take_succ_cons, List.take_zero, List.drop_succ_cons, List.drop_zero]
            clear hV
            repeat still_step
            refine wpStill_nil ?_
            have KX := Lib.hid (Sto.crash_any HBV.out.real vn vK vk vl ((HKP.out.below HBV.out.below (Nat.le_refl _)).more HBV.out.lo) HKL.out (by omega) (by omega))
            go_wp2_with fail
            refine KX.out.mono ?_
            rintro e w5 ⟨rfl, m5, hst5, haf5⟩
            have HB5 := Lib.hid (HBV.out.op hst5 haf5)
            have HT5 := Lib.hid (HTV.out.keep (haf5.below HBV.out.real))
            clear hst5 haf5 KX q1 q3
            go_wp2_with fail
            obtain ⟨V2, hV⟩ : ∃ V, w5.drew = V := ⟨_, rfl⟩
            have hbV : Below w5.heap.size w5 V2 := by rw [← hV]; exact (Below.refl _ _).drew
            have HBV2 := Lib.hid (HB5.out.keep hbV)
            have HTV2 := Lib.hid (HT5.out.keep (hbV.mono HB5.out.base))
            obtain ⟨_, q1, q3⟩ := HC.out _ HBV2.out.below
            clear hbV
            refine region_still_tail 11 (by kernel_rfl) (by kernel_rfl) hV ?_
            simp only [List.take_succ_cons, List.take_zero, List.drop_succ_cons, List.drop_zero]
            clear hV
            repeat still_step
            refine wpStill_nil ?_
            have KX := Lib.hid (crash_any HBV2.out.ref vn vK vk vl ((HKP.out.below HBV2.out.below (Nat.le_refl _)).more HBV2.out.lo2) HKL.out (by omega) (by omega))
            go_wp2_with fail
            refine KX.out.mono ?_
            rintro e w6 ⟨rfl, m6, hst6, haf6⟩
            obtain ⟨t, ht⟩ : ∃ t, t = Sto.crash s vn vl := ⟨_, rfl⟩
            have HB6 := Lib.hid (HBV2.out.rop hst6 haf6 (by decide))
            have HT6 := Lib.hid (HTV2.out.keep ((haf6.below HBV2.out.ref.bs).mono HBV2.out.lo3))
            rw [← ht] at HB6 HSC
            clear hst6 haf6 KX ht hks hfs q1 q3
            have K7 := Lib.hid (Wal.opens_any HB6.out.real HT6.out HB6.out.base limit (Nat.le_trans HSC.out.2.2 (by omega)) (Nat.le_trans HSC.out.2.1 (by omega)))
            obtain ⟨r, hr⟩ : ∃ r, r = Wal.opens t limit := ⟨_, rfl⟩
            have HR := Lib.hid hr
            rw [← hr] at K7
            clear hr
            go_wp2_with fail
            refine K7.out.mono ?_
            intro e w7 hP1
            obtain ⟨p1, z1, A1, n1, c1, q1, rfl⟩ := opens_vals hP1
            have HP1 := Lib.hid hP1
            obtain ⟨m7, HB7⟩ : ∃ m', Hid (Both w7 w2 bs g r.2.1 m' br gr t m6) := by
              obtain ⟨m', h1, h2⟩ := opens_st hP1
              exact ⟨m', Lib.hid (HB6.out.op h1 h2)⟩
            have K8 : Hid (Calls Tryz.prog 16 #[.pointer (some ⟨gr, 0, none⟩), .int .i64 limit] w7 (OpensP w7 br gr m6 r)) := Lib.hid (by
              rw [HR.out]
              exact opens_any HB7.out.ref limit (Nat.le_trans HSC.out.2.2 (by omega)) (Nat.le_trans HSC.out.2.1 (by omega)))
            clear hP1 K7
            go_wp2_with fail
            refine K8.out.mono ?_
            intro e w8 hP2
            obtain ⟨p2, z2, A2, n2, c2, q2, rfl⟩ := opens_valsR hP2
            have HSS := Lib.hid (ss_of (k := k + 1) HR.out HB6.out HSC.out.1 HSC.out.2.1 (by omega) HSC.out.2.2 HP1.out hP2)
            have HT8 := Lib.hid (HT6.out.keep HSS.out.2.2)
            clear hP2 K8 HP1
            go_wp2_with fail
            exact ⟨⟨k + 1, hkl, hk6, by simp, HT8, HSS.out.1⟩, by simp only [intOf]; omega⟩
          · have e5 : (vd == 5) = false := by simpa using d5
            rcases p with _ | a
            · obtain rfl : q = true := hp1.symm
              clear d5
              go_wp2_with fail
              exact ⟨⟨k + 1, hkl, hk6, by simp, HT4, ss_idle HSS4.out⟩, by simp only [intOf]; omega⟩
            · obtain rfl : q = false := hp1.symm
              obtain ⟨lb, lb2, A, A2, c, c2, Y, Y2, s, lg, rfl, rfl, hT, hS, hback⟩ := ss_some HSS4.out
              have HTW4 := Lib.hid hT
              have HS := Lib.hid hS
              have HBACK := Lib.hid hback
              have HFN := Lib.hid HTW4.out.fine
              have K4 := Lib.hid (do_any HTW4.out HT4.out HS.out (by omega) vd vn vA vc vb (.slice vK vl.length vk) HVB.out hvb)
              have HS5 := Lib.hid (HS.out.step HFN.out.1 HFN.out.2 (by omega) vd vn vb)
              obtain ⟨x, hx⟩ : ∃ x, x = Wal.stepF s lg vd vn vb := ⟨_, rfl⟩
              rw [← hx] at K4 HS5
              obtain ⟨s5, l5⟩ := x
              simp only at K4 HS5
              clear d5 hx hT hS hback
              go_wp2_with fail
              refine K4.out.mono ?_
              rintro e w5 ⟨rfl, hT5, hb5⟩
              have HTW5 := Lib.hid hT5
              have HT5 := Lib.hid (HT4.out.keep hb5)
              have K5 := Lib.hid (hT5.alike (by have := HS5.out.files; omega) HS5.out.nm)
              clear hT5 hb5 K4 q0 q1 q2 q3
              go_wp2_with fail
              refine K5.out.mono ?_
              rintro e w6 ⟨rfl, hb6⟩
              have HTW6 := Lib.hid (HTW5.out.keep hb6)
              have HT6 := Lib.hid (HT5.out.keep (hb6.mono HTW5.out.base))
              obtain ⟨k1, k2, k3, k4⟩ := HTW6.out.nexts
              have K6 := Lib.hid k1
              have K7 := Lib.hid k2
              have K8 := Lib.hid k3
              have K9 := Lib.hid k4
              obtain ⟨nx, hnx⟩ : ∃ nx, nx = Wal.next l5 := ⟨_, rfl⟩
              obtain ⟨wt, hwt⟩ : ∃ wt, wt = Wal.waits l5 := ⟨_, rfl⟩
              rw [← hnx] at K6 K7
              rw [← hwt] at K8 K9
              clear k1 k2 k3 k4 hb6 hnx hwt K5
              go_wp2_with fail
              refine K6.out.mono ?_
              rintro e w7 ⟨rfl, rfl⟩
              go_wp2_with fail
              refine K7.out.mono ?_
              rintro e w8 ⟨rfl, rfl⟩
              go_wp2_with fail
              refine K8.out.mono ?_
              rintro e w9 ⟨rfl, rfl⟩
              go_wp2_with fail
              refine K9.out.mono ?_
              rintro e w10 ⟨rfl, rfl⟩
              go_wp2_with fail
              exact ⟨⟨k + 1, hkl, hk6, by simp, HT6, HBACK.out _ _ _ HTW6.out HS5.out⟩, by simp only [intOf]; omega⟩
        · have hk6i : ¬ (k : Int) < 100 := by omega
          have hkli : (k : Int) < (l.length : Int) := by omega
          have KS := Lib.hid HG.out.same
          go_wp2_with fail
          refine KS.out.mono ?_
          rintro e w4 ⟨rfl, hb4⟩
          have HF := Lib.hid (HB1.out.trans ((HG.out.both.keep hb4).below.mono HB1.out.size))
          clear hb4 KS
          go_wp2_with fail
          go_ret
          exact ⟨rfl, HF.out⟩
      · have hkli : ¬ (k : Int) < (l.length : Int) := by omega
        have KS := Lib.hid HG.out.same
        go_wp2_with fail
        refine KS.out.mono ?_
        rintro e w4 ⟨rfl, hb4⟩
        have HF := Lib.hid (HB1.out.trans ((HG.out.both.keep hb4).below.mono HB1.out.size))
        clear hb4 KS
        go_wp2_with fail
        go_ret
        exact ⟨rfl, HF.out⟩
  · go_wp2_with fail
    go_ret
    exact ⟨rfl, HB1.out⟩
end Ref
end Go.Proofs.YtaiokogbhfliiaaGreatDoor
