/- Parts of the proof, one behind the other: Plain: what an engine does to a new store.; A skip list beside other blocks.; Contracts: engine.Open where there is no engine.; An engine in memory, beside its store. -/
import Derived.Test.YtekbdedpombgcaaGreatDoorMrg02
import Derived.Test.YtekbdedpombgcaaGreatDoorMrg35
import Derived.Test.YtekbdedpombgcaaGreatDoorMrg45
import Derived.Test.YtekbdedpombgcaaGreatDoorMrg47
namespace Go.Proofs.YtekbdedpombgcaaGreatDoor
open Go.RowKit Go.Maps

namespace Eng
/-- A new store behind the book's opening. -/
def pB : (Int × Sto.St) × Sto.Str := Ver.beginP (Sto.new 10000) [] (Ver.edSt ⟨[], 0, 1⟩)
def s1 : Sto.St := pB.1.2
def c1 : Int × Sto.St := Sto.create s1 (Wal.name 1)
def d1 : Int × Sto.St := Sto.syncDir c1.2
/-- Behind the log's opening, too. -/
def s2 : Sto.St := d1.2
set_option maxRecDepth 100000 in
theorem pB_facts : pB.1.1 = 0 ∧ (∀ n ∈ Sto.names s1, Ver.goneB [] pB.2 n = false) ∧ s1.files.length ≤ 1000 ∧ s1.kept.length ≤ 1000 ∧ s1.off = false ∧ Wal.files s1 = [] ∧ c1.1 = 0 ∧ d1.1 = 0 ∧ s2.files.length ≤ 1000 ∧ s2.kept.length ≤ 1000 := by decide +kernel
theorem opens_s1 (a : Int) (h1 : 1 ≤ a) (h2 : a ≤ 65536) : Wal.opens s1 a = (0, s2, some (⟨a.toNat, 1, 0, 1, [], false⟩, [])) := by
  obtain ⟨_, _, _, _, h5, h6, h7, h8, _⟩ := pB_facts
  have e0 : (Wal.files s1).getLastD 0 = 0 := by rw [h6]; rfl
  have em : Wal.mk s1 ⟨a.toNat, 0, 0, 1, [], false⟩ = (0, s2, ⟨a.toNat, 1, 0, 1, [], false⟩) := by
    unfold Wal.mk
    rw [if_neg (show ¬ (999999 : Nat) ≤ 0 by decide)]
    simp only
    rw [if_neg (fun h => h h7), if_neg (fun h => h h8)]
    rfl
  have et : Wal.there s1 = [] := by unfold Wal.there; rw [h6]; rfl
  rw [Wal.opens_yes (L := ⟨a.toNat, 0, 0, 1, [], false⟩) (by omega) h5 (by rw [e0]) (by rw [em]), em, et]
  rfl
/-- The log, behind one batch. -/
def bt : List UInt8 := [1, 0, 1, 97, 1, 1]
def l1 : Wal.Lg := ⟨1000, 1, 0, 2, [(1, bt)], false⟩
set_option maxRecDepth 100000 in
theorem commit_l1 : (Wal.commit s2 l1).1 = 0 := by decide +kernel
theorem add_l0 : Wal.add ⟨1000, 1, 0, 1, [], false⟩ bt = (0, 1, l1) := by
  unfold Wal.add
  rw [if_neg (by decide), if_neg (by decide), if_neg (by decide)]
  rfl
end Eng
end Go.Proofs.YtekbdedpombgcaaGreatDoor

namespace Go.Proofs.YtekbdedpombgcaaGreatDoor
open Go.RowKit Go.Maps

theorem SkAt.other {base : Nat} {hd : Nd} {l : List Nd} {f : Nat → Nat → Option Nat} {w : World} (h : SkAt base hd l f w) {ge j : Nat} {v : Value} {cs : Array Value} {T : TypeId} {fr : Nat × Nat} (hb : w.heap[ge]? = some (.cells cs T fr)) (hge : base ≤ ge) (h1 : T ≠ 91) (h2 : T ≠ 89) (h3 : T ≠ 161) (h4 : T ≠ 5) : SkAt base hd l f (w.setCell ⟨ge, j, none⟩ v) := by
  have key : ∀ (k : Nat) (cs' : Array Value) (U : TypeId) (fr' : Nat × Nat), U ≠ T → w.heap[k]? = some (.cells cs' U fr') → (w.setCell ⟨ge, j, none⟩ v).heap[k]? = some (.cells cs' U fr') := fun k cs' U fr' hU e => (heap_setCell_other _ ⟨ge, j, none⟩ k _ (Sto.Tag.ne ⟨_, _, e⟩ ⟨_, _, hb⟩ hU)).trans e
  refine ⟨by have := h.size; simpa using this, ?_, h.h12, h.ge, fun d hd2 => ?_, fun p hp => ?_, h.nd⟩
  · obtain ⟨a, b, e⟩ := h.list
    exact ⟨a, b, key _ _ _ _ (Ne.symm h1) e⟩
  · obtain ⟨p1, p2, p3, p4, p5⟩ := h.node d hd2
    exact ⟨p1, key _ _ _ _ (Ne.symm h2) p2, p3.set_tag hb h4 hge, p4.set_tag hb h4 hge, p5⟩
  · obtain ⟨p1, cs', p2, p3⟩ := h.rows p hp
    exact ⟨p1, cs', key _ _ _ _ (Ne.symm h3) p2, p3⟩
/-- An empty list, its blocks kept. -/
theorem SkAt.nil_keep {base base' : Nat} {hd : Nd} {w w' : World} (h : SkAt base hd [] (Sk.F []) w) (hb : base' ≤ base) (hz : base' ≤ w'.heap.size) (hk : ∀ (k : Nat) (cs : Array Value) (T : TypeId) (fr : Nat × Nat), w.heap[k]? = some (.cells cs T fr) → (T = 91 ∨ T = 161) → w'.heap[k]? = some (.cells cs T fr)) : SkAt base' hd [] (Sk.F []) w' := by
  refine ⟨hz, ?_, h.h12, Nat.le_trans hb h.ge, fun d hd2 => (by cases hd2), fun p hp => ?_, h.nd⟩
  · obtain ⟨a, b, e⟩ := h.list
    exact ⟨a, b, hk _ _ _ _ e (.inl rfl)⟩
  · obtain ⟨p1, cs', p2, p3⟩ := h.rows p hp
    exact ⟨Nat.le_trans hb p1, cs', hk _ _ _ _ p2 (.inr rfl), p3⟩
end Go.Proofs.YtekbdedpombgcaaGreatDoor

namespace Go.Proofs.YtekbdedpombgcaaGreatDoor
open Go.RowKit Go.Maps

namespace Eng
/-- An engine's block. -/
def enObj (g : Nat) (a b c d : Int) (lg bk : Option Addr) (hg tm hm : Nat) (last : Int) (br : Bool) (rd : Int) : Obj :=
  .cells #[.pointer (some ⟨g, 0, none⟩), .int .i64 a, .int .i64 b, .int .i64 c, .int .i64 d, .pointer lg, .pointer bk, .pointer (some ⟨hg, 0, none⟩), .map (some tm), .int .i64 last, .map (some hm), .bool br, .int .i64 rd] 58
def okA (a : Int) : Bool := decide (1 ≤ a) && decide (a ≤ 65536)
def okB (b : Int) : Bool := decide (64 ≤ b) && decide (b ≤ 32768)
def okC (c : Int) : Bool := decide (1 ≤ c) && decide (c ≤ 32)
def okD (d : Int) : Bool := decide (1 ≤ d) && decide (d ≤ 20000)
theorem setOk_eq (a b c d : Int) : setOk a b c d = (okA a && okB b && okC c && okD d) := by
  unfold setOk okA okB okC okD
  rw [Bool.eq_iff_iff]
  simp only [decide_eq_true_eq, Bool.and_eq_true]
  omega
set_option maxHeartbeats 1000000 in
set_option maxRecDepth 100000 in
theorem eopen_nil (a b c d : Int) (w : World) : Calls Tryz.prog 6 #[.pointer none, .agg #[.int .i64 a, .int .i64 b, .int .i64 c, .int .i64 d]] w fun e w' => e = .returned (.tuple #[.pointer none, .int .i64 1]) ∧ Below w.heap.size w w' := by
  go_enter Tryz.func6, Tryz.ntmps6
  go_wp2_with fail
  go_ret2
  exact ⟨rfl, (Below.refl _ _).alloc (Nat.le_refl _) _⟩
set_option maxHeartbeats 2000000 in
set_option maxRecDepth 100000 in
theorem eopen_bad (p : Addr) (a b c d : Int) (h : setOk a b c d = false) (w : World) : Calls Tryz.prog 6 #[.pointer (some p), .agg #[.int .i64 a, .int .i64 b, .int .i64 c, .int .i64 d]] w fun e w' => e = .returned (.tuple #[.pointer none, .int .i64 1]) ∧ Below w.heap.size w w' := by
  rw [setOk_eq] at h
  have HOK := Lib.hid h
  have KA := Lib.hid (fun w => ewithin_any a 1 65536 w)
  have KB := Lib.hid (fun w => ewithin_any b 64 32768 w)
  have KC := Lib.hid (fun w => ewithin_any c 1 32 w)
  have KD := Lib.hid (fun w => ewithin_any d 1 20000 w)
  obtain ⟨qa, ha⟩ : ∃ q, okA a = q := ⟨_, rfl⟩
  obtain ⟨qb, hb⟩ : ∃ q, okB b = q := ⟨_, rfl⟩
  obtain ⟨qc, hc⟩ : ∃ q, okC c = q := ⟨_, rfl⟩
  obtain ⟨qd, hd⟩ : ∃ q, okD d = q := ⟨_, rfl⟩
  rw [ha, hb, hc, hd] at HOK
  unfold okA at ha
  unfold okB at hb
  unfold okC at hc
  unfold okD at hd
  rw [ha] at KA
  rw [hb] at KB
  rw [hc] at KC
  rw [hd] at KD
  have hx := heap_alloc_new w (.cells #[.int .i64 a, .int .i64 b, .int .i64 c, .int .i64 d] 22)
  have c0 : (w.alloc (.cells #[.int .i64 a, .int .i64 b, .int .i64 c, .int .i64 d] 22)).cell? ⟨w.heap.size, 0, none⟩ = some (.int .i64 a) := by rw [cell_of_row _ _ 0 _ _ (0, 0) hx]; rfl
  have c1 : (w.alloc (.cells #[.int .i64 a, .int .i64 b, .int .i64 c, .int .i64 d] 22)).cell? ⟨w.heap.size, 1, none⟩ = some (.int .i64 b) := by rw [cell_of_row _ _ 1 _ _ (0, 0) hx]; rfl
  have c2 : (w.alloc (.cells #[.int .i64 a, .int .i64 b, .int .i64 c, .int .i64 d] 22)).cell? ⟨w.heap.size, 2, none⟩ = some (.int .i64 c) := by rw [cell_of_row _ _ 2 _ _ (0, 0) hx]; rfl
  have c3 : (w.alloc (.cells #[.int .i64 a, .int .i64 b, .int .i64 c, .int .i64 d] 22)).cell? ⟨w.heap.size, 3, none⟩ = some (.int .i64 d) := by rw [cell_of_row _ _ 3 _ _ (0, 0) hx]; rfl
  clear hx ha hb hc hd h
  go_enter Tryz.func6, Tryz.ntmps6
  go_wp2_with fail
  refine (KA.out _).mono ?_
  rintro e w1 ⟨rfl, rfl⟩
  rcases qa with _ | _
  · go_wp2_with fail
    go_ret2
    exact ⟨rfl, (Below.refl _ _).alloc (Nat.le_refl _) _⟩
  go_wp2_with fail
  refine (KB.out _).mono ?_
  rintro e w1 ⟨rfl, rfl⟩
  rcases qb with _ | _
  · go_wp2_with fail
    go_ret2
    exact ⟨rfl, (Below.refl _ _).alloc (Nat.le_refl _) _⟩
  go_wp2_with fail
  refine (KC.out _).mono ?_
  rintro e w1 ⟨rfl, rfl⟩
  rcases qc with _ | _
  · go_wp2_with fail
    go_ret2
    exact ⟨rfl, (Below.refl _ _).alloc (Nat.le_refl _) _⟩
  go_wp2_with fail
  refine (KD.out _).mono ?_
  rintro e w1 ⟨rfl, rfl⟩
  rcases qd with _ | _
  · go_wp2_with fail
    go_ret2
    exact ⟨rfl, (Below.refl _ _).alloc (Nat.le_refl _) _⟩
  · have := HOK.out
    cases this
end Eng
end Go.Proofs.YtekbdedpombgcaaGreatDoor

namespace Go.Proofs.YtekbdedpombgcaaGreatDoor
open Go.RowKit Go.Maps

theorem Wal.LS.other {w : World} {base g : Nat} {s : Sto.St} {m : Sto.Mem} {l : Wal.Lg} {x : Wal.Lm} (h : Wal.LS w base g s m l x) {k0 : Nat} {cs : Array Value} {T : TypeId} {fr : Nat × Nat} (ht : w.heap[k0]? = some (.cells cs T fr)) (hT : Wal.Alien T) (h2 : T ≠ 146) (h3 : T ≠ 151) (j : Nat) (v : Value) : Wal.LS (w.setCell ⟨k0, j, none⟩ v) base g s m l x := by
  have t0 : Sto.Tag w k0 T := ⟨_, _, ht⟩
  have keep : ∀ k, k ≠ k0 → (w.setCell ⟨k0, j, none⟩ v).heap[k]? = w.heap[k]? := fun k hk => heap_setCell_other _ ⟨k0, j, none⟩ k _ hk
  refine ⟨h.st.keep (by simp) (fun k _ hf => keep k (fun e => h.st.not_foot t0 hT.h1 hT.h2 hT.h3 hT.h4 hT.h5 (fun e2 => absurd e2 hT.h6) (e ▸ hf))), (keep x.lb (h.lb_tag.ne t0 (fun e => h2 e.symm))).trans h.box, h.lbb, h.wt.keep (by simp) (fun k e => ?_) (fun _ _ h => h), h.ok⟩
  rcases e with e | ⟨u, hu, e⟩
  · exact keep k ((Sto.ownTagS h.wt.row e).ne t0 (fun e => h3 e.symm))
  · obtain ⟨_, _, _, h4⟩ := h.wt.bys.ok u hu
    exact keep k ((h4 k e).2.ne t0 (fun e => hT.h6 e.symm))
namespace Eng
theorem alE : Wal.Alien 58 := ⟨by decide, by decide, by decide, by decide, by decide, by decide⟩
theorem alB : Wal.Alien 93 := ⟨by decide, by decide, by decide, by decide, by decide, by decide⟩
theorem alL : Wal.Alien 91 := ⟨by decide, by decide, by decide, by decide, by decide, by decide⟩
theorem alN : Wal.Alien 161 := ⟨by decide, by decide, by decide, by decide, by decide, by decide⟩
theorem al4 : Wal.Alien 22 := ⟨by decide, by decide, by decide, by decide, by decide, by decide⟩
theorem alS : Wal.Alien 63 := ⟨by decide, by decide, by decide, by decide, by decide, by decide⟩
theorem aft0_tag {w w' : World} {base g : Nat} {s : Sto.St} {m m' : Sto.Mem} (h : Sto.StAt w base g s m) (ha : Aft0 w w' g m m') {k : Nat} {cs : Array Value} {T : TypeId} {fr : Nat × Nat} (ht : w.heap[k]? = some (.cells cs T fr)) (hT : Wal.Alien T) : w'.heap[k]? = some (.cells cs T fr) :=
  (ha.block k (Array.getElem?_eq_some_iff.1 ht).1 (fun e => h.not_foot ⟨_, _, ht⟩ hT.h1 hT.h2 hT.h3 hT.h4 hT.h5 (fun e2 => absurd e2 hT.h6) (.inl e))).trans ht
/-- The settings, boxed; the engine; its memory, that holds nothing; its book, that holds no file. -/
structure At (w0 : World) (base g : Nat) (a b c d : Int) (bx ge tm hm : Nat) (hd : Nd) (lg bk : Option Addr) (last : Int) (w : World) : Prop where
  en : w.heap[ge]? = some (enObj g a b c d lg bk hd.g tm hm last false 0)
  box : w.heap[bx]? = some (.cells #[.int .i64 a, .int .i64 b, .int .i64 c, .int .i64 d] 22)
  book : ∀ gk, bk = some ⟨gk, 0, none⟩ → w.heap[gk]? = some (Ver.bkObj g pB.2 none [] 0 0 1 false)
  sk : SkAt base hd [] (Sk.F []) w
  geb : base ≤ ge
  bel : Below base w0 w
section
variable {w0 w w' : World} {base g : Nat} {a b c d : Int} {bx ge tm hm : Nat} {hd : Nd} {lg bk : Option Addr} {last : Int} {s : Sto.St} {m m' : Sto.Mem}
theorem At.keep (h : At w0 base g a b c d bx ge tm hm hd lg bk last w) (hb : Below base w w') (hk : ∀ (k : Nat) (cs : Array Value) (T : TypeId) (fr : Nat × Nat), w.heap[k]? = some (.cells cs T fr) → Wal.Alien T → T ≠ 146 → T ≠ 151 → w'.heap[k]? = some (.cells cs T fr)) : At w0 base g a b c d bx ge tm hm hd lg bk last w' :=
  ⟨hk _ _ _ _ h.en alE (by decide) (by decide), hk _ _ _ _ h.box al4 (by decide) (by decide), fun gk e => hk _ _ _ _ (h.book gk e) alB (by decide) (by decide), h.sk.nil_keep (Nat.le_refl _) (Nat.le_trans h.sk.size hb.size) (fun k cs T fr e e2 => by
    rcases e2 with rfl | rfl
    · exact hk _ _ _ _ e alL (by decide) (by decide)
    · exact hk _ _ _ _ e alN (by decide) (by decide)), h.geb, h.bel.trans hb⟩
theorem At.below (h : At w0 base g a b c d bx ge tm hm hd lg bk last w) (hb : Below w.heap.size w w') : At w0 base g a b c d bx ge tm hm hd lg bk last w' :=
  h.keep (hb.mono h.sk.size) (fun k _ _ _ e _ _ _ => (hb.block k (Array.getElem?_eq_some_iff.1 e).1).trans e)
theorem At.aft0 (h : At w0 base g a b c d bx ge tm hm hd lg bk last w) (hs : Sto.StAt w base g s m) (ha : Aft0 w w' g m m') : At w0 base g a b c d bx ge tm hm hd lg bk last w' :=
  h.keep (ha.below hs) (fun _ _ _ _ e hT _ _ => aft0_tag hs ha e hT)
theorem At.laft {l : Wal.Lg} {x x' : Wal.Lm} (h : At w0 base g a b c d bx ge tm hm hd lg bk last w) (hs : Wal.LS w base g s m l x) (ha : Wal.LAft w w' g m x m' x') : At w0 base g a b c d bx ge tm hm hd lg bk last w' :=
  h.keep (ha.below hs) (fun _ _ _ _ e hT h2 h3 => Wal.laft_tag hs ha e hT h2 h3)
theorem At.turn (h : At w0 base g a b c d bx ge tm hm hd lg bk last w) {j : Nat} {v : Value} {lg' bk' : Option Addr} {last' : Int} (he : (w.setCell ⟨ge, j, none⟩ v).heap[ge]? = some (enObj g a b c d lg' bk' hd.g tm hm last' false 0)) (hbk : ∀ gk, bk' = some ⟨gk, 0, none⟩ → w.heap[gk]? = some (Ver.bkObj g pB.2 none [] 0 0 1 false)) : At w0 base g a b c d bx ge tm hm hd lg' bk' last' (w.setCell ⟨ge, j, none⟩ v) := by
  have key : ∀ (k : Nat) (cs : Array Value) (T : TypeId) (fr : Nat × Nat), w.heap[k]? = some (.cells cs T fr) → T ≠ 58 → (w.setCell ⟨ge, j, none⟩ v).heap[k]? = some (.cells cs T fr) := fun k cs T fr e hT => (heap_setCell_other _ ⟨ge, j, none⟩ k _ (Sto.Tag.ne ⟨_, _, e⟩ ⟨_, _, h.en⟩ hT)).trans e
  exact ⟨he, key _ _ _ _ h.box (by decide), fun gk e => key _ _ _ _ (hbk gk e) (by decide), h.sk.other h.en h.geb (by decide) (by decide) (by decide) (by decide), h.geb, h.bel.setCell h.geb _⟩
theorem At.st_turn (h : At w0 base g a b c d bx ge tm hm hd lg bk last w) (hs : Sto.StAt w base g s m) (j : Nat) (v : Value) : Sto.StAt (w.setCell ⟨ge, j, none⟩ v) base g s m :=
  hs.keep (by simp) (fun k _ hf => heap_setCell_other _ ⟨ge, j, none⟩ k _ (fun e => hs.not_foot (⟨_, _, h.en⟩ : Sto.Tag w ge _) alE.h1 alE.h2 alE.h3 alE.h4 alE.h5 (fun e2 => absurd e2 alE.h6) ((show k = ge from e) ▸ hf)))
theorem At.cells (h : At w0 base g a b c d bx ge tm hm hd lg bk last w) : w.cell? ⟨ge, 5, none⟩ = some (.pointer lg) ∧ w.cell? ⟨ge, 6, none⟩ = some (.pointer bk) ∧ w.cell? ⟨ge, 7, none⟩ = some (.pointer (some ⟨hd.g, 0, none⟩)) ∧ w.cell? ⟨ge, 9, none⟩ = some (.int .i64 last) ∧ w.cell? ⟨ge, 11, none⟩ = some (.bool false) ∧ w.cell? ⟨ge, 12, none⟩ = some (.int .i64 0) := by
  have e := h.en
  unfold enObj at e
  refine ⟨?_, ?_, ?_, ?_, ?_, ?_⟩
  all_goals (rw [cell_of_row w ge _ _ _ (0, 0) e]; rfl)
theorem At.frozen (h : At w0 base g a b c d bx ge tm hm hd lg bk last w) (j : Nat) : w.frozen? ⟨ge, j, none⟩ = false := frozen_of_row w ge j _ _ h.en
theorem en_set {T : TypeId} {x0 x1 x2 x3 x4 x5 x6 x7 x8 x9 x10 x11 x12 : Value} (h : w.heap[ge]? = some (.cells #[x0, x1, x2, x3, x4, x5, x6, x7, x8, x9, x10, x11, x12] T)) (v : Value) :
    (w.setCell ⟨ge, 5, none⟩ v).heap[ge]? = some (.cells #[x0, x1, x2, x3, x4, v, x6, x7, x8, x9, x10, x11, x12] T) ∧ (w.setCell ⟨ge, 6, none⟩ v).heap[ge]? = some (.cells #[x0, x1, x2, x3, x4, x5, v, x7, x8, x9, x10, x11, x12] T) ∧ (w.setCell ⟨ge, 9, none⟩ v).heap[ge]? = some (.cells #[x0, x1, x2, x3, x4, x5, x6, x7, x8, v, x10, x11, x12] T) ∧ (w.setCell ⟨ge, 12, none⟩ v).heap[ge]? = some (.cells #[x0, x1, x2, x3, x4, x5, x6, x7, x8, x9, x10, x11, v] T) := by
  refine ⟨?_, ?_, ?_, ?_⟩
  · have := heap_setCell_same w ge 5 _ T v h; simpa using this
  · have := heap_setCell_same w ge 6 _ T v h; simpa using this
  · have := heap_setCell_same w ge 9 _ T v h; simpa using this
  · have := heap_setCell_same w ge 12 _ T v h; simpa using this
/-- Whatever order it was made in. -/
theorem At.made {W W' W'' : World} {B : Nat} (hB : base ≤ B) (h0 : Below B w0 w) (hbz : B ≤ w.heap.size) (h1 : Below w.heap.size w W) (hs : SkAt W.heap.size hd [] (Sk.F []) W') (h2 : Below W.heap.size W W') (h3 : Below W'.heap.size W' W'') {x : Nat} (hx : x = W''.heap.size)
    (hbx : w.heap[bx]? = some (.cells #[.int .i64 a, .int .i64 b, .int .i64 c, .int .i64 d] 22)) : At w0 base g a b c d bx x tm hm hd none none 0 (W''.alloc (enObj g a b c d none none hd.g tm hm 0 false 0)) ∧ Below B w0 (W''.alloc (enObj g a b c d none none hd.g tm hm 0 false 0)) := by
  subst hx
  have h12 : Below w.heap.size w W' := h1.trans (h2.mono h1.size)
  have h13 : Below w.heap.size w W'' := h12.trans (h3.mono h12.size)
  have h14 : Below w.heap.size w (W''.alloc (enObj g a b c d none none hd.g tm hm 0 false 0)) := h13.alloc h13.size _
  have h34 : Below W'.heap.size W' (W''.alloc (enObj g a b c d none none hd.g tm hm 0 false 0)) := h3.alloc h3.size _
  refine ⟨⟨heap_alloc_new W'' _, (h14.block bx (Array.getElem?_eq_some_iff.1 hbx).1).trans hbx, fun gk e => (by cases e), hs.nil_keep (Nat.le_trans (Nat.le_trans hB hbz) h1.size) (by have := h14.size; omega) (fun k cs T fr e _ => (h34.block k (Array.getElem?_eq_some_iff.1 e).1).trans e), by have := h13.size; omega, (h0.mono hB).trans (h14.mono (Nat.le_trans hB hbz))⟩, h0.trans (h14.mono hbz)⟩
end
end Eng
end Go.Proofs.YtekbdedpombgcaaGreatDoor
