/- A log over a store that may fail, with two rows of bytes beside it: what its operations come to. -/
import Derived.Test.YtaiokogbhfliiaaGreatDoorQWwH
import Derived.Test.YtaiokogbhfliiaaGreatDoorQWwI
namespace Go.Proofs.YtaiokogbhfliiaaGreatDoor
open Go.RowKit Go.Maps

namespace Wal
theorem take_both {β : Type} (S O : List β) (j n : Nat) (hn : n = S.length + min j O.length) : (S ++ O).take n = S ++ O.take j := by
  rw [List.take_append, List.take_of_length_le (by omega), show n - S.length = min j O.length by omega]
  rcases Nat.le_total j O.length with h | h
  · rw [Nat.min_eq_left h]
  · rw [Nat.min_eq_right h, List.take_length, List.take_of_length_le h]
/-- Blocks of steps are as they were. -/
def StepsKept (w w' : World) : Prop := ∀ q, Sto.Tag w q 60 → w'.heap[q]? = w.heap[q]?
/-- A row of bytes, some of them ahead of all. -/
structure Yt (w : World) (base g : Nat) (m : Sto.Mem) (A : Option Addr) (c : Nat) (Y : List Yv) : Prop where
  row : OwnS Yv.cells 1 w base 23 A c Y
  ok : ∀ v ∈ Y, (Yok w base v ∧ Sto.Apart w g m v.A) ∨ RdB w base v.A v.b
section
variable {w w' : World} {base g : Nat} {s : Sto.St} {m m' : Sto.Mem} {l : Lg} {x x' : Lm} {A : Option Addr} {c : Nat} {Y : List Yv}
theorem Yt.nil (w : World) (base g : Nat) (m : Sto.Mem) : Yt w base g m none 0 [] := ⟨OwnS.nil _ _ _, fun _ h => by cases h⟩
theorem Yt.of (h : Ys w base g m A c Y) : Yt w base g m A c Y := ⟨h.row, fun v hv => .inl (h.ok v hv)⟩
theorem Yt.below (h : Yt w base g m A c Y) (hb : Below w.heap.size w w') (hB : base ≤ w.heap.size) : Yt w' base g m A c Y :=
  ⟨h.row.below hb, fun v hv => (h.ok v hv).imp (fun h => ⟨h.1.below hb, fun k e => ⟨Nat.lt_of_lt_of_le (h.2 k e).1 hb.size, (h.2 k e).2⟩⟩) (fun h => h.below hb hB)⟩
theorem Yt.laft (h : Yt w base g m A c Y) (hs : LS w base g s m l x) (ha : LAft w w' g m x m' x') : Yt w' base g m' A c Y :=
  ⟨h.row.keep (fun k e => laft_same hs ha (Sto.ownTagS h.row e) ⟨by decide, by decide, by decide, by decide, by decide, by decide⟩ (by decide) (by decide)), fun v hv => (h.ok v hv).imp (fun h => h.1.laft h.2 hs ha) (fun h => h.below (ha.below hs) (Nat.le_refl _))⟩
theorem Yt.aft (h : Yt w base g m A c Y) (hs : Sto.StAt w base g s m) (ha : Aft0 w w' g m m') : Yt w' base g m' A c Y :=
  ⟨h.row.keep (fun k e => by
    have t := Sto.ownTagS h.row e
    exact ha.block k t.lt (fun hm => hs.not_foot t (by decide) (by decide) (by decide) (by decide) (by decide) (fun e => absurd e (by decide)) (.inl hm))), fun v hv => (h.ok v hv).imp (fun h => h.1.aft h.2 ha) (fun h => h.below (ha.below hs) (Nat.le_refl _))⟩
theorem Yt.rd (h : Yt w base g m A c Y) (hB : base ≤ w.heap.size) : RdY w A Y := ⟨h.row.rd, fun v hv => (h.ok v hv).elim (fun h => h.1.rd) (fun h => h.more hB)⟩
/-- What is in a row lies on when a row of rows of bytes is turned. -/
theorem yt_ok {v : Yv} {B : Option Addr} (h : (Yok w base v ∧ Sto.Apart w g m v.A) ∨ RdB w base v.A v.b) (hs : w.heap.size ≤ w'.heap.size) (hk : ∀ q, q < w.heap.size → blk B ≠ some q → w'.heap[q]? = w.heap[q]?) (hA : ∀ q, blk B = some q → q < w.heap.size → base ≤ q ∧ Sto.Tag w q 23) (hb : Below base w w') : (Yok w' base v ∧ Sto.Apart w' g m v.A) ∨ RdB w' base v.A v.b :=
  h.imp (fun h => ⟨h.1.keep hs (fun q e => hk q (h.2 q e).1 (fun e2 => by
    obtain ⟨h3, h4⟩ := hA q e2 (h.2 q e).1
    rcases (h.1.at_ q e).2 with h5 | h5
    · omega
    · exact h4.ne h5 (by decide) rfl)), fun q e => ⟨Nat.lt_of_lt_of_le (h.2 q e).1 hs, (h.2 q e).2⟩⟩) (fun h => h.below hb (Nat.le_refl _))
theorem LS.other {B : Option Addr} (h : LS w base g s m l x) (hs : w.heap.size ≤ w'.heap.size) (hk : ∀ q, q < w.heap.size → blk B ≠ some q → w'.heap[q]? = w.heap[q]?) (hA : ∀ q, blk B = some q → q < w.heap.size → base ≤ q ∧ Sto.Tag w q 23) : LS w' base g s m l x := by
  have hf : ∀ q, q < w.heap.size → Sto.Foot w g m q → w'.heap[q]? = w.heap[q]? := fun q h1 h2 => hk q h1 (fun e => h.st.not_foot (hA q e h1).2 (by decide) (by decide) (by decide) (by decide) (by decide) (fun e => absurd e (by decide)) h2)
  have hT : ∀ q T, Sto.Tag w q T → T ≠ 23 → w'.heap[q]? = w.heap[q]? := fun q T t hT => hk q t.lt (fun e => (hA q e t.lt).2.ne t (Ne.symm hT) rfl)
  refine ⟨h.st.keep hs hf, (hT _ _ h.lb_tag (by decide)).trans h.box, h.lbb, h.wt.keep hs (fun q e => ?_) (fun _ _ h => h), h.ok⟩
  rcases e with e | ⟨v, hv, e⟩
  · exact hT q _ (Sto.ownTagS h.wt.row e) (by decide)
  · obtain ⟨_, _, _, h4⟩ := h.wt.bys.ok v hv
    exact hT q _ (h4 q e).2 (by decide)
end
structure LasS (w : World) (base g k lb : Nat) (S O : List (List UInt8)) (SA : Option Addr) (sc : Nat) (SY : List Yv) (OA : Option Addr) (oc : Nat) (OY : List Yv) (s : Sto.St) (m : Sto.Mem) (l : Lg) (x : Lm) : Prop where
  ls : LS w base g s m l x
  lbx : x.lb = lb
  las : Las s l S O k
  sure : Yt w base g m SA sc SY
  opn : Yt w base g m OA oc OY
  apart : ∀ q, blk SA = some q → blk OA ≠ some q
def LasR (w : World) (base g k lb : Nat) (S O : List (List UInt8)) (SA : Option Addr) (sc : Nat) (SY : List Yv) (OA : Option Addr) (oc : Nat) (OY : List Yv) : Prop := ∃ s m l x, LasS w base g k lb S O SA sc SY OA oc OY s m l x
section
variable {w w' : World} {base g k lb : Nat} {S O : List (List UInt8)} {SA : Option Addr} {sc : Nat} {SY : List Yv} {OA : Option Addr} {oc : Nat} {OY : List Yv}
theorem LasS.laft {s s' : Sto.St} {m m' : Sto.Mem} {l l' : Lg} {x x' : Lm} {S' O' : List (List UInt8)} {k' : Nat} (h : LasS w base g k lb S O SA sc SY OA oc OY s m l x) (hls : LS w' base g s' m' l' x') (ha : LAft w w' g m x m' x') (hl : Las s' l' S' O' k') :
    LasR w' base g k' lb S' O' SA sc SY OA oc OY ∧ Below base w w' ∧ StepsKept w w' :=
  ⟨⟨s', m', l', x', hls, ha.lb.trans h.lbx, hl, h.sure.laft h.ls ha, h.opn.laft h.ls ha, h.apart⟩, ha.below h.ls, fun q hq => laft_same h.ls ha hq ⟨by decide, by decide, by decide, by decide, by decide, by decide⟩ (by decide) (by decide)⟩
theorem LasS.base_le {s : Sto.St} {m : Sto.Mem} {l : Lg} {x : Lm} (h : LasS w base g k lb S O SA sc SY OA oc OY s m l x) : base ≤ w.heap.size := by
  have := h.ls.lbb; have := h.ls.lb_tag.lt; omega
theorem LasR.below (h : LasR w base g k lb S O SA sc SY OA oc OY) (hb : Below w.heap.size w w') : LasR w' base g k lb S O SA sc SY OA oc OY := by
  obtain ⟨s, m, l, x, h⟩ := h
  exact ⟨s, m, l, x, h.ls.below hb, h.lbx, h.las, h.sure.below hb h.base_le, h.opn.below hb h.base_le, h.apart⟩
theorem LasR.mono (h : LasR w base g k lb S O SA sc SY OA oc OY) {k' : Nat} (hk : k ≤ k') : LasR w base g k' lb S O SA sc SY OA oc OY := by
  obtain ⟨s, m, l, x, h⟩ := h
  exact ⟨s, m, l, x, h.ls, h.lbx, h.las.mono hk, h.sure, h.opn, h.apart⟩
theorem LasR.base_le (h : LasR w base g k lb S O SA sc SY OA oc OY) : base ≤ w.heap.size := by
  obtain ⟨s, m, l, x, h⟩ := h
  have := h.ls.lbb; have := h.ls.lb_tag.lt; omega
theorem LasR.len (h : LasR w base g k lb S O SA sc SY OA oc OY) : S.length + O.length ≤ k := by
  obtain ⟨s, m, l, x, h⟩ := h
  exact h.las.len
theorem LasR.rows (h : LasR w base g k lb S O SA sc SY OA oc OY) : OwnS Yv.cells 1 w base 23 SA sc SY ∧ OwnS Yv.cells 1 w base 23 OA oc OY := by
  obtain ⟨s, m, l, x, h⟩ := h
  exact ⟨h.sure.row, h.opn.row⟩
theorem LasR.rd (h : LasR w base g k lb S O SA sc SY OA oc OY) : RdY w SA SY := by
  have hB := h.base_le
  obtain ⟨s, m, l, x, h⟩ := h
  exact h.sure.rd hB
theorem LasR.add_val (h : LasR w base g k lb S O SA sc SY OA oc OY) (bA : Option Addr) (bc : Nat) (b : List UInt8) (hb : RdB w w.heap.size bA b) (hl : b.length ≤ 140737488355328) :
    Calls Tryz.prog 29 #[.pointer (some ⟨lb, 0, none⟩), .slice bA b.length bc] w fun e w' => ∃ n c : Int, e = .returned (.tuple #[.int .i64 n, .int .i64 c]) ∧ LasR w' base g (k + 1) lb S (if c = 0 then O ++ [b] else O) SA sc SY OA oc OY ∧ Below base w w' ∧ StepsKept w w' := by
  obtain ⟨s, m, l, x, h⟩ := h
  have h1 := add_any h.ls bA bc b hb hl
  rw [h.lbx] at h1
  refine h1.mono ?_
  rintro e w2 ⟨rfl, m2, x2, hls, haf⟩
  exact ⟨_, _, rfl, h.laft hls haf (h.las.add b)⟩
theorem LasR.commit_val (h : LasR w base g k lb S O SA sc SY OA oc OY) (ht : TabU base w) (hk : k ≤ 1000) :
    Calls Tryz.prog 30 #[.pointer (some ⟨lb, 0, none⟩)] w fun e w' => ∃ c : Int, e = .returned (.int .i64 c) ∧ LasR w' base g (k + 1) lb (if c = 0 then S ++ O else S) (if c = 0 then [] else O) SA sc SY OA oc OY ∧ Below base w w' ∧ StepsKept w w' := by
  obtain ⟨s, m, l, x, h⟩ := h
  have h1 := commit_any h.ls ht (by have := h.las.kp; omega) (by have := h.las.fl; omega) (by have := h.las.wt; omega)
  rw [h.lbx] at h1
  refine h1.mono ?_
  rintro e w2 ⟨x2, rfl, m2, hls, haf⟩
  exact ⟨_, rfl, h.laft hls haf (h.las.commit hk)⟩
theorem LasR.plan_val (h : LasR w base g k lb S O SA sc SY OA oc OY) (bA : Option Addr) (bc : Nat) (b : List UInt8) (hb : RdB w w.heap.size bA b) (hl : b.length ≤ 140737488355328) :
    Calls Tryz.prog 13 #[.pointer (some ⟨g, 0, none⟩), .slice bA b.length bc] w fun e w' => e = .returned (.tuple #[]) ∧ LasR w' base g (k + 1) lb S O SA sc SY OA oc OY ∧ Below base w w' ∧ StepsKept w w' := by
  obtain ⟨s, m, l, x, h⟩ := h
  refine (Sto.plan_any h.ls.st bA bc b hb hl).mono ?_
  rintro e w2 ⟨rfl, m2, hst, haf⟩
  exact ⟨rfl, h.laft (h.ls.store hst haf) (LAft.of_aft haf) (h.las.plan b)⟩
/-- One more in the open row. -/
theorem LasR.pushO {w1 : World} {A : Option Addr} {c : Nat} (v : Yv) (hv : RdB w base v.A v.b) (h : LasR w base g k lb S O SA sc SY OA oc OY) (hb : Below w.heap.size w w1) (hg : w1.grownBy w' (blk OA)) (ho : OwnS Yv.cells 1 w' base 23 A c (OY ++ [v])) (hat : blk A = blk OA ∨ blk A = some w1.heap.size) :
    LasR w' base g k lb S O SA sc SY A c (OY ++ [v]) ∧ Below base w w' ∧ StepsKept w w' := by
  obtain ⟨s, m, l, x, h⟩ := h
  have hB := h.base_le
  have hs : w.heap.size ≤ w'.heap.size := Nat.le_trans hb.size hg.size
  have hk : ∀ q, q < w.heap.size → blk OA ≠ some q → w'.heap[q]? = w.heap[q]? := fun q h1 h2 => (hg.block q (Nat.lt_of_lt_of_le h1 hb.size) (fun e => h2 e.symm)).trans (hb.block q h1)
  have hA : ∀ q, blk OA = some q → q < w.heap.size → base ≤ q ∧ Sto.Tag w q 23 := fun q e _ => ⟨(h.opn.row.blk_ge q e).1, Sto.ownTagS h.opn.row e⟩
  have hbl : Below base w w' := ⟨hg.os.trans hb.os, hg.tape.trans hb.tape, hg.output.trans hb.output, hs, fun q hq => hk q (by omega) (fun e => by have := (hA q e (by omega)).1; omega)⟩
  refine ⟨⟨s, m, l, x, h.ls.other hs hk hA, h.lbx, h.las, ⟨h.sure.row.keep (fun q e => hk q (h.sure.row.blk_ge q e).2 (h.apart q e)), fun u hu => yt_ok (h.sure.ok u hu) hs hk hA hbl⟩, ⟨ho, fun u hu => ?_⟩, fun q e1 e2 => ?_⟩, hbl, fun q hq => hk q hq.lt (fun e => (hA q e hq.lt).2.ne hq (by decide) rfl)⟩
  · rcases List.mem_append.1 hu with hu | hu
    · exact yt_ok (h.opn.ok u hu) hs hk hA hbl
    · rw [List.mem_singleton] at hu
      rw [hu]; exact .inr (hv.below hbl (Nat.le_refl _))
  · rcases hat with e | e
    · exact h.apart q e1 (e ▸ e2)
    · rw [e] at e2
      injection e2 with e2
      have := (h.sure.row.blk_ge q e1).2
      have := hb.size
      omega
/-- The open ones are sure. -/
theorem LasR.join {w1 : World} {A : Option Addr} {c : Nat} (h : LasR w base g k lb S O SA sc SY OA oc OY) (hb : Below w.heap.size w w1) (hg : w1.grownBy w' (blk SA)) (ho : OwnS Yv.cells 1 w' base 23 A c (SY ++ OY)) :
    LasR w' base g k lb S O A c (SY ++ OY) none 0 [] ∧ Below base w w' ∧ StepsKept w w' := by
  obtain ⟨s, m, l, x, h⟩ := h
  have hB := h.base_le
  have hs : w.heap.size ≤ w'.heap.size := Nat.le_trans hb.size hg.size
  have hk : ∀ q, q < w.heap.size → blk SA ≠ some q → w'.heap[q]? = w.heap[q]? := fun q h1 h2 => (hg.block q (Nat.lt_of_lt_of_le h1 hb.size) (fun e => h2 e.symm)).trans (hb.block q h1)
  have hA : ∀ q, blk SA = some q → q < w.heap.size → base ≤ q ∧ Sto.Tag w q 23 := fun q e _ => ⟨(h.sure.row.blk_ge q e).1, Sto.ownTagS h.sure.row e⟩
  have hbl : Below base w w' := ⟨hg.os.trans hb.os, hg.tape.trans hb.tape, hg.output.trans hb.output, hs, fun q hq => hk q (by omega) (fun e => by have := (hA q e (by omega)).1; omega)⟩
  refine ⟨⟨s, m, l, x, h.ls.other hs hk hA, h.lbx, h.las, ⟨ho, fun u hu => ?_⟩, Yt.nil _ _ _ _, fun q _ e => by cases e⟩, hbl, fun q hq => hk q hq.lt (fun e => (hA q e hq.lt).2.ne hq (by decide) rfl)⟩
  rcases List.mem_append.1 hu with hu | hu
  · exact yt_ok (h.sure.ok u hu) hs hk hA hbl
  · exact yt_ok (h.opn.ok u hu) hs hk hA hbl
/-- Behind a crash. -/
structure LasC (w : World) (base g k : Nat) (S O : List (List UInt8)) (SA : Option Addr) (sc : Nat) (SY : List Yv) (OA : Option Addr) (oc : Nat) (OY : List Yv) (s : Sto.St) (m : Sto.Mem) (c : Int) (keep : List Int) : Prop where
  st : Sto.StAt w base g (Sto.crash s c keep) m
  las : ∃ l, Las s l S O k
  sure : Yt w base g m SA sc SY
  opn : Yt w base g m OA oc OY
def LasD (w : World) (base g k : Nat) (S O : List (List UInt8)) (SA : Option Addr) (sc : Nat) (SY : List Yv) (OA : Option Addr) (oc : Nat) (OY : List Yv) : Prop := ∃ s m c keep, LasC w base g k S O SA sc SY OA oc OY s m c keep
theorem LasR.crash_val (h : LasR w base g k lb S O SA sc SY OA oc OY) (hn : k ≤ 1000) (changes : Int) (KA : Option Addr) (kc : Nat) (keep : List Int) (hk : RdS Sto.I1 1 w base KA keep) (hkl2 : keep.length ≤ 9223372036854775807) :
    Calls Tryz.prog 31 #[.pointer (some ⟨g, 0, none⟩), .int .i64 changes, .slice KA keep.length kc] w fun e w' => e = .returned (.tuple #[]) ∧ LasD w' base g k S O SA sc SY OA oc OY ∧ Below base w w' := by
  obtain ⟨s, m, l, x, h⟩ := h
  refine (Sto.crash_any h.ls.st changes KA kc keep hk hkl2 (by have := h.las.kp; omega) (by have := h.las.fl; omega)).mono ?_
  rintro e w2 ⟨rfl, m2, hst, haf⟩
  exact ⟨rfl, ⟨s, m2, changes, keep, hst, ⟨l, h.las⟩, h.sure.aft h.ls.st haf, h.opn.aft h.ls.st haf⟩, haf.below h.ls.st⟩
theorem LasD.open_val (h : LasD w base g k S O SA sc SY OA oc OY) (ht : TabU base w) (limit : Int) (h1 : 1 ≤ limit) (h2 : limit ≤ 65536) (hn : k ≤ 1000) :
    Calls Tryz.prog 15 #[.pointer (some ⟨g, 0, none⟩), .int .i64 limit] w fun e w' => ∃ lb2 A c Y j, e = .returned (.tuple #[.pointer (some ⟨lb2, 0, none⟩), .int .i64 (((if Y = [] then 0 else 1 : Nat)) : Int), .slice A Y.length c, .int .i64 0]) ∧
      Y.map Yv.b = S ++ O.take j ∧ LasR w' base g (k + 1) lb2 (Y.map Yv.b) [] A c Y none 0 [] ∧ RdY w' SA SY ∧ RdY w' OA OY ∧ Below base w w' := by
  obtain ⟨s, m, c, keep, h⟩ := h
  obtain ⟨l, hl⟩ := h.las
  obtain ⟨s', l', B, j, e, hB, hlas⟩ := hl.crash c keep limit h1 h2 hn
  have hkp : (Sto.crash s c keep).kept.length = 0 := rfl
  have hfl : (Sto.crash s c keep).files.length = s.files.length := Sto.cutAll_len _ _ _ _
  have h3 := opens_any h.st ht (by have := h.st.r.gb; have := h.st.r.gt.lt; omega) limit (by omega) (by have := hl.fl; omega)
  rw [e] at h3
  refine h3.mono ?_
  rintro e2 w2 (⟨q, _⟩ | ⟨l2, bs, lb, A, c2, Y, m2, q, _, rfl, hls, haf, hlb, hY, hYs⟩)
  · cases q
  injection q with q
  injection q with q1 q2
  subst q1 q2
  rw [numb_snd] at hY
  have hB2 : base ≤ w2.heap.size := by have := hls.lbb; have := hls.lb_tag.lt; omega
  refine ⟨lb, A, c2, Y, j, ?_, by rw [hY, hB], ⟨s', m2, l', _, hls, rfl, by rw [hY]; exact hlas, .of hYs, Yt.nil _ _ _ _, fun q _ e => by cases e⟩, (h.sure.aft h.st haf).rd hB2, (h.opn.aft h.st haf).rd hB2, haf.below h.st⟩
  have hz : ((numb 1 B).head?.map (·.1)).getD 0 = if Y = [] then 0 else 1 := by
    rcases B with _ | ⟨b, B⟩
    · have : Y = [] := by simpa using hY
      rw [this]; rfl
    · have : Y ≠ [] := by rintro rfl; cases hY
      rw [if_neg this]; rfl
  rw [hz]
end
end Wal
end Go.Proofs.YtaiokogbhfliiaaGreatDoor
