/- Parts of the proof, one behind the other: Files of tables in memory.; Contracts: within, rightFile, place.; Contracts of the reference: RightFile, ahead, before.; Contracts: slices.IndexFunc, ContainsFunc at files and at numbers; rightEdit.; Contracts of the reference: RightEdit.; Files of tables copied. -/
import Derived.Test.YtekbdedpombgcaaGreatDoorMrg19
import Derived.Test.YtekbdedpombgcaaGreatDoorMrg26
import Derived.Test.YtekbdedpombgcaaGreatDoorMrg15
import Derived.Deep.RegionWith
import Derived.Test.YtekbdedpombgcaaGreatDoorMrg44
import Derived.Test.YtekbdedpombgcaaGreatDoorMrg05
import Derived.Test.YtekbdedpombgcaaGreatDoorMrg07
import Derived.Test.YtekbdedpombgcaaGreatDoorMrg01
namespace Go.Proofs.YtekbdedpombgcaaGreatDoor
open Go.RowKit Go.Maps

/-- A file of a table in memory. -/
structure Vf where
  number : Int
  level : Int
  FA : Option Addr
  fc : Nat
  first : List UInt8
  LA : Option Addr
  lc : Nat
  last : List UInt8
  low : Int
  high : Int
def Vf.cells (v : Vf) : List Value := [.int .i64 v.number, .int .i64 v.level, .slice v.FA v.first.length v.fc, .slice v.LA v.last.length v.lc, .int .i64 v.low, .int .i64 v.high]
def Vf.fi (v : Vf) : Ver.Fi := ⟨v.number, v.level, v.first, v.last, v.low, v.high⟩
def Vf.val (v : Vf) : Value := .agg #[.int .i64 v.number, .int .i64 v.level, .slice v.FA v.first.length v.fc, .slice v.LA v.last.length v.lc, .int .i64 v.low, .int .i64 v.high]
theorem vfT : RT Tryz.prog 61 66 Vf.cells 6 80 (.agg #[.int .i64 0, .int .i64 0, .slice none 0 0, .slice none 0 0, .int .i64 0, .int .i64 0]) :=
  ⟨Tryz.underlying61, by kernel_rfl, fun _ => rfl, fun v u hu => by simp [Vf.cells] at hu; rcases hu with h | h | h | h | h | h <;> (subst h; rfl), by omega, rfl⟩
/-- A file that can be read. -/
structure VfOk (w : World) (B : Nat) (v : Vf) : Prop where
  f : RdB w B v.FA v.first
  l : RdB w B v.LA v.last
  fc : v.first.length ≤ v.fc
  lc : v.last.length ≤ v.lc
/-- A row of files that can be read. -/
structure RdV (w : World) (B : Nat) (A : Option Addr) (l : List Vf) : Prop where
  row : RdS Vf.cells 6 w B A l
  ok : ∀ v ∈ l, VfOk w B v
section
variable {w w' : World} {B B' D base c : Nat} {A : Option Addr} {l : List Vf} {v : Vf}
theorem VfOk.below (h : VfOk w B v) (hb : Below D w w') (hD : B ≤ D) : VfOk w' B v := ⟨h.f.below hb hD, h.l.below hb hD, h.fc, h.lc⟩
theorem VfOk.more (h : VfOk w B v) (hB : B ≤ B') : VfOk w B' v := ⟨h.f.more hB, h.l.more hB, h.fc, h.lc⟩
theorem RdV.below (h : RdV w B A l) (hb : Below D w w') (hD : B ≤ D) : RdV w' B A l := ⟨h.row.below hb hD, fun v hv => (h.ok v hv).below hb hD⟩
theorem RdV.more (h : RdV w B A l) (hB : B ≤ B') : RdV w B' A l := ⟨h.row.more hB, fun v hv => (h.ok v hv).more hB⟩
theorem RdV.keep (h : RdV w w.heap.size A l) (hb : Below w.heap.size w w') : RdV w' w'.heap.size A l := (h.below hb (Nat.le_refl _)).more hb.size
theorem RdV.nil : RdV w B none [] := ⟨RdS.nil, fun _ h => by cases h⟩
theorem RdV.cell (h : RdV w B A l) {k : Nat} (hk : k < l.length) : ∃ b off, A = some ⟨b, off, none⟩ ∧ b < B ∧ (∀ j u, (Vf.cells (l[k]))[j]? = some u → w.cell? ⟨b, off + k * 6 + j, none⟩ = some u) ∧ VfOk w B (l[k]) := by
  obtain ⟨b, off, hA, hb, hc⟩ := RdS.row (f := Vf.cells) (n := 6) (fun _ => rfl) (by omega) h.row (by omega)
  exact ⟨b, off, hA, hb, fun j u hu => hc k hk j u hu, h.ok _ (List.getElem_mem hk)⟩
/-- A file whose bytes are one's own. -/
structure VfOwn (w : World) (base : Nat) (v : Vf) : Prop where
  f : Ref.Rby w base v.FA v.first
  l : Ref.Rby w base v.LA v.last
  fc : v.first.length ≤ v.fc
  lc : v.last.length ≤ v.lc
theorem VfOwn.keep (h : VfOwn w base v) (hs : w.heap.size ≤ w'.heap.size) (hk : ∀ q, blk v.FA = some q ∨ blk v.LA = some q → w'.heap[q]? = w.heap[q]?) : VfOwn w' base v :=
  ⟨h.f.keep hs (fun q e => hk q (.inl e)), h.l.keep hs (fun q e => hk q (.inr e)), h.fc, h.lc⟩
theorem VfOwn.at_ (h : VfOwn w base v) {q : Nat} (e : blk v.FA = some q ∨ blk v.LA = some q) : base ≤ q ∧ Sto.Tag w q 5 := e.elim (h.f.at_ q) (h.l.at_ q)
theorem VfOwn.below (h : VfOwn w base v) (hb : Below w.heap.size w w') : VfOwn w' base v := h.keep hb.size (fun q e => hb.block q (h.at_ e).2.lt)
theorem VfOwn.rd (h : VfOwn w base v) : VfOk w w.heap.size v := ⟨h.f.rd, h.l.rd, h.fc, h.lc⟩
theorem VfOwn.mono (h : VfOwn w base v) {b' : Nat} (hb : b' ≤ base) : VfOwn w b' v := ⟨⟨h.f.rd, fun k e => ⟨Nat.le_trans hb (h.f.at_ k e).1, (h.f.at_ k e).2⟩⟩, ⟨h.l.rd, fun k e => ⟨Nat.le_trans hb (h.l.at_ k e).1, (h.l.at_ k e).2⟩⟩, h.fc, h.lc⟩
/-- A row of files of one's own. -/
structure OwV (w : World) (base : Nat) (A : Option Addr) (c : Nat) (l : List Vf) : Prop where
  row : OwnS Vf.cells 6 w base 66 A c l
  own : ∀ v ∈ l, VfOwn w base v
theorem OwV.nil (w : World) (base : Nat) : OwV w base none 0 [] := ⟨OwnS.nil _ _ _, fun _ h => by cases h⟩
theorem OwV.keep (h : OwV w base A c l) (hs : w.heap.size ≤ w'.heap.size) (hk : ∀ q, blk A = some q ∨ (∃ v ∈ l, blk v.FA = some q ∨ blk v.LA = some q) → w'.heap[q]? = w.heap[q]?) : OwV w' base A c l :=
  ⟨h.row.keep (fun q e => hk q (.inl e)), fun v hv => (h.own v hv).keep hs (fun q e => hk q (.inr ⟨v, hv, e⟩))⟩
theorem OwV.below (h : OwV w base A c l) (hb : Below w.heap.size w w') : OwV w' base A c l :=
  h.keep hb.size (fun q e => hb.block q (by
    rcases e with e | ⟨v, hv, e⟩
    · exact (h.row.blk_ge q e).2
    · exact ((h.own v hv).at_ e).2.lt))
theorem OwV.rd (h : OwV w base A c l) : RdV w w.heap.size A l := ⟨h.row.rd, fun v hv => (h.own v hv).rd⟩
theorem OwV.mono (h : OwV w base A c l) {b' : Nat} (hb : b' ≤ base) : OwV w b' A c l := ⟨h.row.mono hb, fun v hv => (h.own v hv).mono hb⟩
/-- The row is turned or is new: its files' bytes lie on. -/
theorem OwV.app {A' : Option Addr} {c' : Nat} {l' : List Vf} (h : OwV w base A c l) (hg : w.grownBy w' (blk A)) (ho : OwnS Vf.cells 6 w' base 66 A' c' (l ++ l')) (hl : ∀ v ∈ l', VfOwn w base v) : OwV w' base A' c' (l ++ l') := by
  have key : ∀ v, VfOwn w base v → VfOwn w' base v := fun v hv => hv.keep hg.size (fun q e => hg.block q (hv.at_ e).2.lt (fun e2 => (Sto.ownTagS h.row e2.symm).ne (hv.at_ e).2 (by decide) rfl))
  refine ⟨ho, fun v hv => ?_⟩
  rcases List.mem_append.1 hv with hv | hv
  · exact key v (h.own v hv)
  · exact key v (hl v hv)
end
end Go.Proofs.YtekbdedpombgcaaGreatDoor

namespace Go.Proofs.YtekbdedpombgcaaGreatDoor
open Go.RowKit Go.Maps

namespace Ver
theorem ret_q {a b : Bool} (h : a = b) : Ending.returned (.bool a) = .returned (.bool b) := by rw [h]
theorem within_any (n lo hi : Int) (w : World) : Calls Tryz.prog 36 #[.int .i64 n, .int .i64 lo, .int .i64 hi] w fun e w' => e = .returned (.bool (decide (lo ≤ n) && decide (n ≤ hi))) ∧ w' = w := by
  by_cases h1 : lo ≤ n
  · by_cases h2 : n ≤ hi
    · go_enter Tryz.func36, Tryz.ntmps36
      go_wp2
      go_ret
      exact ⟨ret_q (by simp [h1, h2]), rfl⟩
    · go_enter Tryz.func36, Tryz.ntmps36
      go_wp2
      go_ret
      exact ⟨ret_q (by simp; omega), rfl⟩
  · go_enter Tryz.func36, Tryz.ntmps36
    go_wp2
    go_ret
    exact ⟨ret_q (by simp; intro h; omega), rfl⟩
theorem key_any (A : Option Addr) (n c : Nat) (w : World) : Calls Tryz.prog 234 #[.slice A n c] w fun e w' => e = .returned (.bool (decide (1 ≤ (n : Int)) && decide ((n : Int) ≤ 512))) ∧ w' = w := by
  go_enter Tryz.func234, Tryz.ntmps234
  go_wp2_with fail
  refine (within_any _ _ _ _).mono ?_
  rintro e w' ⟨rfl, rfl⟩
  go_wp2_with fail
  go_ret
  exact ⟨rfl, rfl⟩
theorem okF_eq (f : Fi) : okF f = ((decide (1 ≤ f.number) && decide (f.number ≤ 999999)) && ((decide (0 ≤ f.level) && decide (f.level ≤ 3)) && ((decide (1 ≤ (f.first.length : Int)) && decide ((f.first.length : Int) ≤ 512)) && ((decide (1 ≤ (f.last.length : Int)) && decide ((f.last.length : Int) ≤ 512)) && (decide (Lib.compareBytes f.first f.last ≤ 0) && (decide (1 ≤ f.low) && (decide (f.low ≤ f.high) && decide (f.high ≤ 1099511627776)))))))) := by
  have hc := compareBytes_le f.first f.last
  have e1 : decide (Lib.compareBytes f.first f.last ≤ 0) = !(Op.bytesLess f.last f.first) := by
    cases h : Op.bytesLess f.last f.first with
    | true => rw [decide_eq_false]; rfl; rw [hc, h]; simp
    | false => rw [decide_eq_true (hc.2 h)]; rfl
  rw [e1]
  unfold okF
  cases Op.bytesLess f.last f.first with
  | true => simp
  | false =>
    simp only [Bool.not_false, Bool.and_true, Bool.true_and]
    simp only [← Bool.decide_and]
    apply decide_eq_decide.2
    omega
set_option maxHeartbeats 2000000 in
set_option maxRecDepth 100000 in
theorem rightFile_any (v : Vf) (w : World) (h : VfOk w w.heap.size v) : Calls Tryz.prog 201 #[v.val] w fun e w' => e = .returned (.bool (okF v.fi)) ∧ Below w.heap.size w w' := by
  obtain ⟨n, lv, FA, fc, f, LA, lc, l, lo, hi⟩ := v
  unfold Vf.val
  rw [okF_eq]
  unfold Vf.fi
  simp only
  obtain ⟨O, hO⟩ : ∃ O : Obj, Obj.cells #[.int .i64 n, .int .i64 lv, .slice FA f.length fc, .slice LA l.length lc, .int .i64 lo, .int .i64 hi] 66 = O := ⟨_, rfl⟩
  have hb : Below w.heap.size w (w.alloc O) := (Below.refl _ _).alloc (Nat.le_refl _) O
  have KB := Lib.hid (bcmp_any (w.alloc O).heap.size FA fc f (w.alloc O).heap.size LA lc l (w.alloc O) ((h.below hb (Nat.le_refl _)).more hb.size).f ((h.below hb (Nat.le_refl _)).more hb.size).l)
  have HB := Lib.hid hb
  rw [← hO] at KB HB
  obtain ⟨cm, hcm⟩ : ∃ cm, cm = Lib.compareBytes f l := ⟨_, rfl⟩
  rw [← hcm] at KB ⊢
  clear hO h hb hcm
  obtain ⟨q1, hq1⟩ : ∃ q, (decide (1 ≤ n) && decide (n ≤ 999999)) = q := ⟨_, rfl⟩
  obtain ⟨q2, hq2⟩ : ∃ q, (decide (0 ≤ lv) && decide (lv ≤ 3)) = q := ⟨_, rfl⟩
  obtain ⟨q3, hq3⟩ : ∃ q, (decide (1 ≤ (f.length : Int)) && decide ((f.length : Int) ≤ 512)) = q := ⟨_, rfl⟩
  obtain ⟨q4, hq4⟩ : ∃ q, (decide (1 ≤ (l.length : Int)) && decide ((l.length : Int) ≤ 512)) = q := ⟨_, rfl⟩
  obtain ⟨q7, hq7⟩ : ∃ q, (decide (lo ≤ hi) && decide (hi ≤ 1099511627776)) = q := ⟨_, rfl⟩
  have K1 := Lib.hid (fun w => within_any n 1 999999 w)
  have K2 := Lib.hid (fun w => within_any lv 0 3 w)
  have K3 := Lib.hid (fun w => key_any FA f.length fc w)
  have K4 := Lib.hid (fun w => key_any LA l.length lc w)
  have K7 := Lib.hid (fun w => within_any hi lo 1099511627776 w)
  rw [hq1] at K1 ⊢
  rw [hq2] at K2 ⊢
  rw [hq3] at K3 ⊢
  rw [hq4] at K4 ⊢
  rw [hq7] at K7 ⊢
  clear hq1 hq2 hq3 hq4 hq7
  go_enter Tryz.func201, Tryz.ntmps201
  go_wp2_with fail
  refine (K1.out _).mono ?_
  rintro e w1 ⟨rfl, rfl⟩
  rcases q1 with _ | _
  · go_wp2_with fail
    go_ret
    exact ⟨rfl, HB.out⟩
  go_wp2_with fail
  refine (K2.out _).mono ?_
  rintro e w1 ⟨rfl, rfl⟩
  rcases q2 with _ | _
  · go_wp2_with fail
    go_ret
    exact ⟨rfl, HB.out⟩
  go_wp2_with fail
  refine (K3.out _).mono ?_
  rintro e w1 ⟨rfl, rfl⟩
  rcases q3 with _ | _
  · go_wp2_with fail
    go_ret
    exact ⟨rfl, HB.out⟩
  go_wp2_with fail
  refine (K4.out _).mono ?_
  rintro e w1 ⟨rfl, rfl⟩
  rcases q4 with _ | _
  · go_wp2_with fail
    go_ret
    exact ⟨rfl, HB.out⟩
  go_wp2_with fail
  refine KB.out.mono ?_
  rintro e w1 ⟨rfl, rfl⟩
  by_cases h5 : cm ≤ 0
  · by_cases h6 : 1 ≤ lo
    · go_wp2_with fail
      refine (K7.out _).mono ?_
      rintro e w1 ⟨rfl, rfl⟩
      go_wp2_with fail
      go_ret
      exact ⟨ret_q (by simp [h5, h6]), HB.out⟩
    · go_wp2_with fail
      go_ret
      exact ⟨ret_q (by simp; intro h; omega), HB.out⟩
  · go_wp2_with fail
    go_ret
    exact ⟨ret_q (by simp; intro h; omega), HB.out⟩
end Ver
end Go.Proofs.YtekbdedpombgcaaGreatDoor

namespace Go.Proofs.YtekbdedpombgcaaGreatDoor
open Go.RowKit Go.Maps

namespace Ver
end Ver
end Go.Proofs.YtekbdedpombgcaaGreatDoor

namespace Go.Proofs.YtekbdedpombgcaaGreatDoor
open Go.RowKit Go.Maps

namespace Ver
/-- The first place where that holds; -1: nowhere. -/
def idx {α : Type} (q : α → Bool) (l : List α) : Int := match l.findIdx? q with | some i => (i : Int) | none => -1
theorem idx_at {α : Type} {q : α → Bool} {l : List α} {k : Nat} (h : ∀ x ∈ l.take k, q x = false) (hk : k < l.length) (hq : q l[k] = true) : idx q l = (k : Int) := by
  have e : l.findIdx? q = some k := by
    rw [List.findIdx?_eq_some_iff_getElem]
    refine ⟨hk, hq, fun j hj => ?_⟩
    have := h l[j] (List.mem_take_iff_getElem.2 ⟨j, by omega, rfl⟩)
    simp [this]
  unfold idx
  rw [e]
theorem idx_no {α : Type} {q : α → Bool} {l : List α} (h : ∀ x ∈ l, q x = false) : idx q l = -1 := by
  have e : l.findIdx? q = none := List.findIdx?_eq_none_iff.2 h
  unfold idx
  rw [e]
theorem idx_any {α : Type} (q : α → Bool) (l : List α) : decide (0 ≤ idx q l) = l.any q := by
  unfold idx
  cases h : l.findIdx? q with
  | some i =>
    obtain ⟨h1, h2, _⟩ := List.findIdx?_eq_some_iff_getElem.1 h
    rw [List.any_eq_true.2 ⟨l[i], List.getElem_mem h1, h2⟩]
    exact decide_eq_true (by simp only; omega)
  | none =>
    have h2 := List.findIdx?_eq_none_iff.1 h
    rw [List.any_eq_false.2 (fun x hx => by rw [h2 x hx]; simp)]
    exact decide_eq_false (by simp only; omega)
set_option maxHeartbeats 2000000 in
set_option maxRecDepth 100000 in
theorem index_any (g : Nat) (cb : List Value) (q : Vf → Bool) (A : Option Addr) (c : Nat) (l : List Vf) (w : World) (h : RdV w w.heap.size A l) (hl : l.length ≤ 1000000)
    (hc : ∀ v ∈ l, ∀ W, Below w.heap.size w W → Calls Tryz.prog g (v.val :: cb).toArray W fun e w' => e = .returned (.bool (q v)) ∧ Below W.heap.size W w') (hen : ∀ args w, (callFunc g args).run Tryz.prog w = .ok (.enter g args) w) :
    Calls Tryz.prog 142 #[.slice A l.length c, .func (.func g) #[] cb.toArray] w fun e w' => e = .returned (.int .i64 (idx q l)) ∧ Below w.heap.size w w' := by
  have H := Lib.hid h
  have HC := Lib.hid hc
  clear h hc
  go_enter Tryz.func142, Tryz.ntmps142
  go_wp2_with fail
  go_loopw [8] (fun i wr => ∃ k : Nat, k ≤ l.length ∧ i = .int .i64 (k : Int) ∧ Hid (Below w.heap.size w wr) ∧ Hid (∀ x ∈ l.take k, q x = false)) (fun i _ => l.length - (intOf i).toNat)
  case atStart => exact ⟨0, by omega, rfl, Lib.hid (Below.refl _ _), Lib.hid (by simp)⟩
  case round =>
    obtain ⟨k, hk, rfl, HB, HN⟩ := hrel
    by_cases hlt : k < l.length
    · have hlt' : (k : Int) < (l.length : Int) := by omega
      have hk0 : (0 : Int) ≤ (k : Int) := by omega
      obtain ⟨b, off, hA, hbb, hcell, _⟩ := H.out.cell hlt
      have KC := Lib.hid (HC.out _ (List.getElem_mem hlt) wr HB.out)
      have HQ : Hid (∀ q', q' = q l[k] → (q' = true → idx q l = (k : Int)) ∧ (q' = false → ∀ x ∈ l.take (k + 1), q x = false)) := Lib.hid (fun q' hq' => ⟨fun h => idx_at HN.out hlt (hq'.symm.trans h), fun h x hx => by
        rw [List.take_succ_eq_append_getElem hlt] at hx
        rcases List.mem_append.1 hx with hx | hx
        · exact HN.out x hx
        · rw [List.mem_singleton] at hx; rw [hx]; exact hq'.symm.trans h⟩)
      obtain ⟨q', hq'⟩ : ∃ q', q' = q l[k] := ⟨_, rfl⟩
      have HQ := Lib.hid (HQ.out q' hq')
      rw [← hq'] at KC
      obtain ⟨v, hv⟩ : ∃ v, v = l[k] := ⟨_, rfl⟩
      rw [← hv] at hcell KC
      have hcc : ∀ j u, (Vf.cells v)[j]? = some u → wr.cell? ⟨b, off + k * 6 + j, none⟩ = some u := fun j u hu => (HB.out.cell (p := ⟨b, off + k * 6 + j, none⟩) hbb).trans (hcell j u hu)
      obtain ⟨n, lv, FA, fc, f, LA, lc, t, lo, hi⟩ := v
      unfold Vf.val at KC
      simp only at KC
      have r0 := hcc 0 _ rfl
      have r1 := hcc 1 _ rfl
      have r2 := hcc 2 _ rfl
      have r3 := hcc 3 _ rfl
      have r4 := hcc 4 _ rfl
      have r5 := hcc 5 _ rfl
      rw [Nat.add_zero] at r0
      subst hA
      clear hcell hcc hv hq'
      go_wp2_with fail
      refine KC.out.mono ?_
      rintro e w2 ⟨rfl, hb2⟩
      have HB2 := Lib.hid (HB.out.trans (hb2.mono HB.out.size))
      clear hb2
      rcases q' with _ | _
      · have HN2 := Lib.hid (HQ.out.2 rfl)
        go_wp2_with fail
        exact ⟨⟨k + 1, hlt, by simp, HB2, HN2⟩, by simp only [intOf]; omega⟩
      · have HE := Lib.hid (HQ.out.1 rfl)
        go_wp2_with fail
        go_ret
        rw [HE.out]
        exact ⟨rfl, HB2.out⟩
    · have hlt' : ¬ (k : Int) < (l.length : Int) := by omega
      have HE : Hid (idx q l = -1) := Lib.hid (idx_no (fun x hx => HN.out x (by rw [List.take_of_length_le (by omega)]; exact hx)))
      go_wp2_with fail
      go_ret
      rw [HE.out]
      exact ⟨rfl, HB.out⟩
set_option maxRecDepth 100000 in
theorem contains_any (g : Nat) (cb : List Value) (q : Vf → Bool) (A : Option Addr) (c : Nat) (l : List Vf) (w : World) (h : RdV w w.heap.size A l) (hl : l.length ≤ 1000000)
    (hc : ∀ v ∈ l, ∀ W, Below w.heap.size w W → Calls Tryz.prog g (v.val :: cb).toArray W fun e w' => e = .returned (.bool (q v)) ∧ Below W.heap.size W w') (hen : ∀ args w, (callFunc g args).run Tryz.prog w = .ok (.enter g args) w) :
    Calls Tryz.prog 79 #[.slice A l.length c, .func (.func g) #[] cb.toArray] w fun e w' => e = .returned (.bool (l.any q)) ∧ Below w.heap.size w w' := by
  have K := Lib.hid (index_any g cb q A c l w h hl hc hen)
  have HE := Lib.hid (idx_any q l)
  obtain ⟨x, hx⟩ : ∃ x, x = idx q l := ⟨_, rfl⟩
  rw [← hx] at K HE
  clear h hc hx
  go_enter Tryz.func79, Tryz.ntmps79
  go_wp2_with fail
  refine K.out.mono ?_
  rintro e w2 ⟨rfl, hb2⟩
  go_wp2_with fail
  go_ret
  exact ⟨ret_q HE.out, hb2⟩
set_option maxHeartbeats 2000000 in
set_option maxRecDepth 100000 in
theorem indexI_any (g : Nat) (cb : List Value) (q : Int → Bool) (A : Option Addr) (c : Nat) (l : List Int) (w : World) (h : RdS Sto.I1 1 w w.heap.size A l) (hl : l.length ≤ 1000000)
    (hc : ∀ v ∈ l, ∀ W, Below w.heap.size w W → Calls Tryz.prog g (Value.int .i64 v :: cb).toArray W fun e w' => e = .returned (.bool (q v)) ∧ Below W.heap.size W w') (hen : ∀ args w, (callFunc g args).run Tryz.prog w = .ok (.enter g args) w) :
    Calls Tryz.prog 235 #[.slice A l.length c, .func (.func g) #[] cb.toArray] w fun e w' => e = .returned (.int .i64 (idx q l)) ∧ Below w.heap.size w w' := by
  have H := Lib.hid h
  have HC := Lib.hid hc
  clear h hc
  go_enter Tryz.func235, Tryz.ntmps235
  go_wp2_with fail
  go_loopw [8] (fun i wr => ∃ k : Nat, k ≤ l.length ∧ i = .int .i64 (k : Int) ∧ Hid (Below w.heap.size w wr) ∧ Hid (∀ x ∈ l.take k, q x = false)) (fun i _ => l.length - (intOf i).toNat)
  case atStart => exact ⟨0, by omega, rfl, Lib.hid (Below.refl _ _), Lib.hid (by simp)⟩
  case round =>
    obtain ⟨k, hk, rfl, HB, HN⟩ := hrel
    by_cases hlt : k < l.length
    · have hlt' : (k : Int) < (l.length : Int) := by omega
      have hk0 : (0 : Int) ≤ (k : Int) := by omega
      obtain ⟨b, off, hA, hbb, hcell⟩ := RdS.row (f := Sto.I1) (n := 1) (fun _ => rfl) (by omega) H.out (by omega)
      have KC := Lib.hid (HC.out _ (List.getElem_mem hlt) wr HB.out)
      have HQ : Hid (∀ q', q' = q l[k] → (q' = true → idx q l = (k : Int)) ∧ (q' = false → ∀ x ∈ l.take (k + 1), q x = false)) := Lib.hid (fun q' hq' => ⟨fun h => idx_at HN.out hlt (hq'.symm.trans h), fun h x hx => by
        rw [List.take_succ_eq_append_getElem hlt] at hx
        rcases List.mem_append.1 hx with hx | hx
        · exact HN.out x hx
        · rw [List.mem_singleton] at hx; rw [hx]; exact hq'.symm.trans h⟩)
      obtain ⟨q', hq'⟩ : ∃ q', q' = q l[k] := ⟨_, rfl⟩
      have HQ := Lib.hid (HQ.out q' hq')
      rw [← hq'] at KC
      have r0 := (HB.out.cell (p := ⟨b, off + k * 1 + 0, none⟩) hbb).trans (hcell k hlt 0 _ rfl)
      rw [Nat.add_zero, Nat.mul_one] at r0
      obtain ⟨v, hv⟩ : ∃ v, v = l[k] := ⟨_, rfl⟩
      rw [← hv] at r0 KC
      subst hA
      clear hcell hv hq'
      go_wp2_with fail
      refine KC.out.mono ?_
      rintro e w2 ⟨rfl, hb2⟩
      have HB2 := Lib.hid (HB.out.trans (hb2.mono HB.out.size))
      clear hb2
      rcases q' with _ | _
      · have HN2 := Lib.hid (HQ.out.2 rfl)
        go_wp2_with fail
        exact ⟨⟨k + 1, hlt, by simp, HB2, HN2⟩, by simp only [intOf]; omega⟩
      · have HE := Lib.hid (HQ.out.1 rfl)
        go_wp2_with fail
        go_ret
        rw [HE.out]
        exact ⟨rfl, HB2.out⟩
    · have hlt' : ¬ (k : Int) < (l.length : Int) := by omega
      have HE : Hid (idx q l = -1) := Lib.hid (idx_no (fun x hx => HN.out x (by rw [List.take_of_length_le (by omega)]; exact hx)))
      go_wp2_with fail
      go_ret
      rw [HE.out]
      exact ⟨rfl, HB.out⟩
set_option maxRecDepth 100000 in
theorem containsI_any (g : Nat) (cb : List Value) (q : Int → Bool) (A : Option Addr) (c : Nat) (l : List Int) (w : World) (h : RdS Sto.I1 1 w w.heap.size A l) (hl : l.length ≤ 1000000)
    (hc : ∀ v ∈ l, ∀ W, Below w.heap.size w W → Calls Tryz.prog g (Value.int .i64 v :: cb).toArray W fun e w' => e = .returned (.bool (q v)) ∧ Below W.heap.size W w') (hen : ∀ args w, (callFunc g args).run Tryz.prog w = .ok (.enter g args) w) :
    Calls Tryz.prog 203 #[.slice A l.length c, .func (.func g) #[] cb.toArray] w fun e w' => e = .returned (.bool (l.any q)) ∧ Below w.heap.size w w' := by
  have K := Lib.hid (indexI_any g cb q A c l w h hl hc hen)
  have HE := Lib.hid (idx_any q l)
  obtain ⟨x, hx⟩ : ∃ x, x = idx q l := ⟨_, rfl⟩
  rw [← hx] at K HE
  clear h hc hx
  go_enter Tryz.func203, Tryz.ntmps203
  go_wp2_with fail
  refine K.out.mono ?_
  rintro e w2 ⟨rfl, hb2⟩
  go_wp2_with fail
  go_ret
  exact ⟨ret_q HE.out, hb2⟩
set_option maxRecDepth 100000 in
theorem oddF_any (v : Vf) (w : World) (h : VfOk w w.heap.size v) : Calls Tryz.prog 200 #[v.val] w fun e w' => e = .returned (.bool (!(okF v.fi))) ∧ Below w.heap.size w w' := by
  obtain ⟨O, hO⟩ : ∃ O : Obj, O = .cells #[.int .i64 v.number, .int .i64 v.level, .slice v.FA v.first.length v.fc, .slice v.LA v.last.length v.lc, .int .i64 v.low, .int .i64 v.high] 66 := ⟨_, rfl⟩
  have hb : Below w.heap.size w (w.alloc O) := (Below.refl _ _).alloc (Nat.le_refl _) O
  have K := Lib.hid (rightFile_any v (w.alloc O) ((h.below hb (Nat.le_refl _)).more hb.size))
  have HB := Lib.hid hb
  obtain ⟨q, hq⟩ : ∃ q, q = okF v.fi := ⟨_, rfl⟩
  rw [← hq] at K ⊢
  rw [hO] at K HB
  obtain ⟨n, lv, FA, fc, f, LA, lc, t, lo, hi⟩ := v
  unfold Vf.val at K ⊢
  simp only at K HB ⊢
  clear h hb hq hO
  go_enter Tryz.func200, Tryz.ntmps200
  go_wp2_with fail
  refine K.out.mono ?_
  rintro e w2 ⟨rfl, hb2⟩
  have HB2 := Lib.hid (HB.out.trans (hb2.mono HB.out.size))
  clear hb2
  go_wp2_with fail
  go_ret
  exact ⟨rfl, HB2.out⟩
set_option maxRecDepth 100000 in
theorem oddN_any (n : Int) (w : World) : Calls Tryz.prog 202 #[.int .i64 n] w fun e w' => e = .returned (.bool (!(okN n))) ∧ Below w.heap.size w w' := by
  have K := Lib.hid (fun w => within_any n 1 999999 w)
  obtain ⟨q, hq⟩ : ∃ q, (decide (1 ≤ n) && decide (n ≤ 999999)) = q := ⟨_, rfl⟩
  have e : okN n = q := by rw [← hq]; unfold okN; simp
  rw [hq] at K
  rw [e]
  clear hq e
  go_enter Tryz.func202, Tryz.ntmps202
  go_wp2_with fail
  refine (K.out _).mono ?_
  rintro e w2 ⟨rfl, rfl⟩
  go_wp2_with fail
  go_ret
  exact ⟨rfl, Below.refl _ _⟩
/-- An edit's value. -/
structure Ev where
  A : Option Addr
  c : Nat
  add : List Vf
  DA : Option Addr
  dc : Nat
  drop : List Int
  log : Int
  next : Int
def Ev.val (e : Ev) : Value := .agg #[.slice e.A e.add.length e.c, .slice e.DA e.drop.length e.dc, .int .i64 e.log, .int .i64 e.next]
def Ev.ed (e : Ev) : Ed := ⟨e.add.map Vf.fi, e.drop, e.log, e.next⟩
structure EvOk (w : World) (B : Nat) (e : Ev) : Prop where
  add : RdV w B e.A e.add
  drop : RdS Sto.I1 1 w B e.DA e.drop
theorem EvOk.below {w w' : World} {B D : Nat} {e : Ev} (h : EvOk w B e) (hb : Below D w w') (hD : B ≤ D) : EvOk w' B e := ⟨h.add.below hb hD, h.drop.below hb hD⟩
theorem EvOk.more {w : World} {B B' : Nat} {e : Ev} (h : EvOk w B e) (hB : B ≤ B') : EvOk w B' e := ⟨h.add.more hB, h.drop.more hB⟩
theorem EvOk.keep {w w' : World} {e : Ev} (h : EvOk w w.heap.size e) (hb : Below w.heap.size w w') : EvOk w' w'.heap.size e := (h.below hb (Nat.le_refl _)).more hb.size
set_option maxHeartbeats 4000000 in
set_option maxRecDepth 100000 in
theorem rightEdit_any (e : Ev) (w : World) (h : EvOk w w.heap.size e) (hl : e.add.length ≤ 1000000) (hd : e.drop.length ≤ 1000000) :
    Calls Tryz.prog 140 #[e.val] w fun r w' => r = .returned (.bool (okE e.ed)) ∧ Below w.heap.size w w' := by
  obtain ⟨A, c, add, DA, dc, drop, log, next⟩ := e
  simp only at hl hd
  obtain ⟨qq, hqq⟩ : ∃ qq, qq = okE (Ev.ed ⟨A, c, add, DA, dc, drop, log, next⟩) := ⟨_, rfl⟩
  rw [← hqq]
  have HE : Hid (qq = (decide (add.length ≤ 50) && (decide (drop.length ≤ 50) && ((decide (0 ≤ log) && decide (log ≤ 1099511627776)) && ((decide (0 ≤ next) && decide (next ≤ 1099511627776)) && (!(add.any (fun v => !(okF v.fi))) && !(drop.any (fun n => !(okN n))))))))) := Lib.hid (by
    rw [hqq]; unfold okE Ev.ed
    simp only [List.length_map, List.all_map, List.not_any_eq_all_not, Bool.not_not, Bool.decide_and, Bool.and_assoc]
    rfl)
  obtain ⟨O, hO⟩ : ∃ O : Obj, O = .cells #[.slice A add.length c, .slice DA drop.length dc, .int .i64 log, .int .i64 next] 186 := ⟨_, rfl⟩
  have hb : Below w.heap.size w (w.alloc O) := (Below.refl _ _).alloc (Nat.le_refl _) O
  have h2 := h.keep hb
  have K1 := Lib.hid (fun w => within_any log 0 1099511627776 w)
  have K2 := Lib.hid (fun w => within_any next 0 1099511627776 w)
  have K3 := Lib.hid (contains_any 200 [] (fun v => !(okF v.fi)) A c add (w.alloc O) h2.add hl (fun v hv W hW => oddF_any v W (((h2.add.ok v hv).below hW (Nat.le_refl _)).more hW.size)) (fun _ _ => rfl))
  have K4 := Lib.hid (fun W (hW : Below (w.alloc O).heap.size (w.alloc O) W) => containsI_any 202 [] (fun n => !(okN n)) DA dc drop W ((h2.drop.below hW (Nat.le_refl _)).more hW.size) hd (fun v _ W _ => oddN_any v W) (fun _ _ => rfl))
  have HB := Lib.hid hb
  have HBX : Hid (∀ W, Below (w.alloc O).heap.size (w.alloc O) W → W.heap[w.heap.size]? = some O) := Lib.hid (fun W hW => (hW.block _ (by simp)).trans (heap_alloc_new w O))
  obtain ⟨q1, hq1⟩ : ∃ q, (decide (0 ≤ log) && decide (log ≤ 1099511627776)) = q := ⟨_, rfl⟩
  obtain ⟨q2, hq2⟩ : ∃ q, (decide (0 ≤ next) && decide (next ≤ 1099511627776)) = q := ⟨_, rfl⟩
  obtain ⟨q3, hq3⟩ : ∃ q, add.any (fun v => !(okF v.fi)) = q := ⟨_, rfl⟩
  obtain ⟨q4, hq4⟩ : ∃ q, drop.any (fun n => !(okN n)) = q := ⟨_, rfl⟩
  rw [hq1] at K1 HE
  rw [hq2] at K2 HE
  rw [hq3] at K3 HE
  rw [hq4] at K4 HE
  have HO := Lib.hid hO
  rw [hO] at HB K3
  unfold Ev.val
  simp only
  clear h hqq hO hb h2 hq1 hq2 hq3 hq4
  go_enter Tryz.func140, Tryz.ntmps140
  by_cases h1 : add.length ≤ 50
  rotate_left
  · have g1 : ¬ (add.length : Int) ≤ 50 := by omega
    go_wp2_with fail
    go_ret
    exact ⟨ret_q (by rw [HE.out, decide_eq_false h1]; rfl), HB.out⟩
  have g1 : (add.length : Int) ≤ 50 := by omega
  by_cases h2 : drop.length ≤ 50
  rotate_left
  · have g2 : ¬ (drop.length : Int) ≤ 50 := by omega
    go_wp2_with fail
    go_ret
    exact ⟨ret_q (by rw [HE.out, decide_eq_false h2, Bool.and_comm]; rfl), HB.out⟩
  have g2 : (drop.length : Int) ≤ 50 := by omega
  have HE2 : Hid (qq = (q1 && (q2 && (!q3 && !q4)))) := Lib.hid (by rw [HE.out, decide_eq_true h1, decide_eq_true h2]; rfl)
  clear HE
  go_wp2_with fail
  refine (K1.out _).mono ?_
  rintro e w1 ⟨rfl, rfl⟩
  rcases q1 with _ | _
  · go_wp2_with fail
    go_ret
    exact ⟨ret_q (by rw [HE2.out]; rfl), HB.out⟩
  go_wp2_with fail
  refine (K2.out _).mono ?_
  rintro e w1 ⟨rfl, rfl⟩
  rcases q2 with _ | _
  · go_wp2_with fail
    go_ret
    exact ⟨ret_q (by rw [HE2.out]; rfl), HB.out⟩
  go_wp2_with fail
  refine K3.out.mono ?_
  rintro e w3 ⟨rfl, hb3⟩
  rw [← HO.out] at hb3
  have HB3 := Lib.hid (HB.out.trans (by rw [← HO.out]; exact hb3.mono (by simp)))
  have o1 : w3.cell? ⟨w.heap.size, 1, none⟩ = some (.slice DA drop.length dc) := by rw [cell_of_row w3 _ 1 _ _ (0, 0) ((HBX.out w3 hb3).trans (by rw [HO.out]))]; rfl
  have K5 := Lib.hid (K4.out w3 hb3)
  clear hb3
  rcases q3 with _ | _
  · go_wp2_with fail
    refine K5.out.mono ?_
    rintro e w4 ⟨rfl, hb4⟩
    have HB4 := Lib.hid (HB3.out.trans (hb4.mono HB3.out.size))
    clear hb4
    go_wp2_with fail
    go_ret
    exact ⟨ret_q (by rw [HE2.out]; rfl), HB4.out⟩
  · go_wp2_with fail
    go_ret
    exact ⟨ret_q (by rw [HE2.out]; rfl), HB3.out⟩
end Ver
end Go.Proofs.YtekbdedpombgcaaGreatDoor

namespace Go.Proofs.YtekbdedpombgcaaGreatDoor
open Go.RowKit Go.Maps

namespace Ver
end Ver
end Go.Proofs.YtekbdedpombgcaaGreatDoor

namespace Go.Proofs.YtekbdedpombgcaaGreatDoor
open Go.RowKit Go.Maps

theorem rd_vf_new (w : World) (v : Vf) : RdS Vf.cells 6 (w.alloc (.cells v.cells.toArray 66)) (w.heap.size + 1) (some ⟨w.heap.size, 0, none⟩) [v] := by
  refine RdS.of (f := Vf.cells) (n := 6) (l := [v]) (fun _ => rfl) _ 0 (by omega) (fun k hk j u hj => ?_)
  obtain rfl : k = 0 := by simp at hk; exact hk
  have hj' : (Vf.cells v)[j]? = some u := hj
  rw [cell_of_row _ w.heap.size _ _ _ (0, 0) (heap_alloc_new w _)]
  simpa using hj'
theorem step_call1_dv {P : Program} {w : World} {ops : Array Oper} {o : Oper} {a : Act} {K : Act → World → Prop} {Q : Exit → Act → World → Prop} {E : Prop} (hgd : o.guard = none) (d : Option Tmp) (hd : o.dst = d) {f : Nat} (x : Operand) {ats : Array TypeId}
    (ho : o.op = .call { callee := .value (.func f), args := #[x], argTypes := ats }) (vx : Value) (hx : a.eval x = vx) (hen : ∀ args w, (callFunc f args).run P w = .ok (.enter f args) w) (R : Ending → World → Prop) (hc : Calls P f #[vx] w R)
    (h : ∀ e w', R e w' → ∃ v, e = .returned v ∧ K (a.put d v) w') : if Region.wanted o (yielded ops a.tmps) = true then Oper.wp P o a w K Q else E := by
  subst hd hx
  have hw : Region.wanted o (yielded ops a.tmps) = true := by simp [Region.wanted, hgd]
  rw [if_pos hw]
  unfold Oper.wp execOp
  have e1 : a.eval (.func f) = .func (.func f) #[] #[] := rfl
  simp [ho, resolve, invoke, Deferred.ofValue, e1, hen]
  rw [Oper.upon_enter]
  refine hc.mono ?_
  intro e w' hr
  obtain ⟨v, rfl, hk⟩ := h e w' hr
  exact hk
set_option maxHeartbeats 2000000 in
set_option maxRecDepth 100000 in
theorem vcopied_any (l : List Vf) (A : Option Addr) (c : Nat) (w : World) (h : RdV w w.heap.size A l) (hl : l.length ≤ 1000000) (hb : ∀ v ∈ l, v.first.length ≤ 1000000 ∧ v.last.length ≤ 1000000) :
    Calls Tryz.prog 33 #[.slice A l.length c] w fun e w' => ∃ (A' : Option Addr) (c' : Nat) (l' : List Vf), e = .returned (.slice A' l'.length c') ∧ l'.map Vf.fi = l.map Vf.fi ∧ OwV w' w.heap.size A' c' l' ∧ Below w.heap.size w w' := by
  have HB0 := Lib.hid hb
  have HR0 := Lib.hid h
  clear h hb
  go_enter Tryz.func33, Tryz.ntmps33
  go_wp2_with fail
  go_loopw [3, 8] (fun o i wr => ∃ (k oc : Nat) (OA : Option Addr) (L : List Vf), k ≤ l.length ∧ i = .int .i64 (k : Int) ∧ o = .slice OA L.length oc ∧ Hid (L.length = k) ∧ Hid (L.map Vf.fi = (l.take k).map Vf.fi) ∧ Hid (OwV wr w.heap.size OA oc L) ∧ Hid (Below w.heap.size w wr)) (fun _ i _ => l.length - (intOf i).toNat)
  case atStart => exact ⟨0, 0, none, [], by omega, rfl, rfl, Lib.hid rfl, Lib.hid rfl, Lib.hid (OwV.nil _ _), Lib.hid (Below.refl _ _)⟩
  case round =>
    obtain ⟨k, oc, OA, L, hk, rfl, rfl, hLk, HL, HOL, HB⟩ := hrel
    by_cases hlt : k < l.length
    · obtain ⟨b, off, hA, hbb, hc, hok⟩ := (HR0.out.below HB.out (Nat.le_refl _)).cell hlt
      obtain ⟨hfl, hll⟩ := HB0.out _ (List.getElem_mem hlt)
      have hTK : Hid (l.take (k + 1) = l.take k ++ [l[k]]) := Lib.hid (List.take_succ_eq_append_getElem hlt)
      obtain ⟨v, hv⟩ : ∃ v, v = l[k] := ⟨_, rfl⟩
      rw [← hv] at hc hok hfl hll hTK
      obtain ⟨nu, lv, FA, fc, fi, LA, lc, la, lo, hi⟩ := v
      have c0 := hc 0 _ rfl
      have c1 := hc 1 _ rfl
      have c2 := hc 2 _ rfl
      have c3 := hc 3 _ rfl
      have c4 := hc 4 _ rfl
      have c5 := hc 5 _ rfl
      rw [Nat.add_zero] at c0
      simp only at c0 c1 c2 c3 c4 c5 hfl hll
      subst hA
      have HOK := Lib.hid hok
      clear hc hv hok
      go_wp2_with fail
      have hba : Below w.heap.size w (wr.alloc (.cells #[.int .i64 nu, .int .i64 lv, .slice FA fi.length fc, .slice LA la.length lc, .int .i64 lo, .int .i64 hi] 66)) := HB.out.alloc HB.out.size _
      obtain ⟨n, hn⟩ : ∃ n, n = wr.heap.size := ⟨_, rfl⟩
      obtain ⟨V, hV⟩ : ∃ V, (wr.alloc (.cells #[.int .i64 nu, .int .i64 lv, .slice FA fi.length fc, .slice LA la.length lc, .int .i64 lo, .int .i64 hi] 66)).drew = V := ⟨_, rfl⟩
      have HBV : Hid (Below w.heap.size w V) := Lib.hid (by rw [← hV]; exact hba.drew)
      have HBW : Hid (Below wr.heap.size wr V) := Lib.hid (by rw [← hV]; exact ((Below.refl _ _).alloc (Nat.le_refl _) _).drew)
      have hz : V.heap.size = n + 1 := by rw [← hV, hn]; simp
      have HX0 : Hid (V.heap[n]? = some (.cells #[.int .i64 nu, .int .i64 lv, .slice FA fi.length fc, .slice LA la.length lc, .int .i64 lo, .int .i64 hi] 66)) := Lib.hid (by
        rw [← hV, hn]
        exact heap_alloc_new wr _)
      have HSV : V.cell? ⟨n, 3, none⟩ = some (.slice LA la.length lc) := by rw [cell_of_row V n 3 _ _ (0, 0) HX0.out]; rfl
      have d0 : V.cell? ⟨n, 2, none⟩ = some (.slice FA fi.length fc) := by rw [cell_of_row V n 2 _ _ (0, 0) HX0.out]; rfl
      have hwr := HB.out.size
      have HKR : Hid (∀ X, Below wr.heap.size wr X → Calls Tryz.prog 35 #[.slice FA fi.length fc] X (GivesB X fi)) := Lib.hid (fun X hX => clone_any FA fc fi X ((HOK.out.f.below hX hwr).more (Nat.le_trans hwr hX.size)) (by omega))
      have HVR : Hid (∀ X, Below wr.heap.size wr X → Calls Tryz.prog 35 #[.slice LA la.length lc] X (GivesB X la)) := Lib.hid (fun X hX => clone_any LA lc la X ((HOK.out.l.below hX hwr).more (Nat.le_trans hwr hX.size)) (by omega))
      have HN : Hid (n = wr.heap.size) := Lib.hid hn
      have HZ := Lib.hid hz
      have HLT : Hid (∀ q, blk OA = some q ∨ (∃ v ∈ L, blk v.FA = some q ∨ blk v.LA = some q) → q < wr.heap.size) := Lib.hid (fun q e => by
        rcases e with e | ⟨v, hv, e⟩
        · exact (HOL.out.row.blk_ge q e).2
        · exact ((HOL.out.own v hv).at_ e).2.lt)
      have HOV := Lib.hid (HOL.out.below HBW.out)
      rw [← hn]
      clear hba hn hz HOL HB HOK c0 c1 c2 c3 c4 c5
      refine wp_region_E 9 (fun w' => w'.cell? ⟨n, 3, none⟩ = some (.slice LA la.length lc)) (by kernel_rfl) ?_
      rw [hV]
      clear hV
      refine wpAnyE_take (i := 0) (v := ?_) rfl (by kernel_rfl) (by kernel_rfl) (by kernel_rfl) (by kernel_rfl) (fun _ _ _ h => h) (Or.inl ⟨by rfl, ?_⟩) HSV ?_
      rotate_left
      · (intro wy hSw; go_simp; try with_reducible rfl)
      try simp only [Act.put, List.setIfInBounds_toArray]
      refine wpAnyE_take (i := 3) (v := ?_) rfl (by kernel_rfl) (by kernel_rfl) (by kernel_rfl) (by kernel_rfl) (fun _ _ _ h => h) (Or.inl ⟨by rfl, ?_⟩) HSV ?_
      rotate_left
      · (intro wy hSw; go_simp; try with_reducible rfl)
      try simp only [Act.put]
      refine wpAnyE_take (i := 4) (v := ?_) rfl (by kernel_rfl) (by kernel_rfl) (by kernel_rfl) (by kernel_rfl) (fun _ _ _ h => h) (Or.inl ⟨by rfl, ?_⟩) HSV ?_
      rotate_left
      · (intro wy hSw; go_simp; try with_reducible rfl)
      try simp only [Act.put]
      refine wpAnyE_one (i := 1) (by kernel_rfl) rfl (fun K hK => ?_)
      go_simp
      refine hK _ _ HSV ?_
      try simp only [Act.put, List.setIfInBounds_toArray]
      refine wpAnyE_one (i := 2) (by kernel_rfl) rfl (fun K hK => ?_)
      refine step_call1_dv (by rfl) (some 14) (by rfl) (.tmp 13) (by rfl) (.slice FA fi.length fc) rfl (enters_of Tryz.func35 (by kernel_rfl) rfl) _ (HKR.out V HBW.out) ?_
      rintro e w1 ⟨A1, c1, rfl, ho1, hb1⟩
      refine ⟨_, rfl, ?_⟩
      have hS1 : w1.cell? ⟨n, 3, none⟩ = some (.slice LA la.length lc) := (hb1.cell (p := ⟨n, 3, none⟩) (by have := HZ.out; simp; omega)).trans HSV
      refine hK _ _ hS1 ?_
      try simp only [Act.put, List.setIfInBounds_toArray]
      refine wpAnyE_take (i := 6) (v := ?_) rfl (by kernel_rfl) (by kernel_rfl) (by kernel_rfl) (by kernel_rfl) (fun _ _ _ h => h) (Or.inl ⟨by rfl, ?_⟩) hS1 ?_
      rotate_left
      · (intro wy hSw; go_simp; try with_reducible rfl)
      try simp only [Act.put, List.setIfInBounds_toArray]
      refine wpAnyE_one (i := 5) (by kernel_rfl) rfl (fun K hK => ?_)
      refine step_call1_dv (by rfl) (some 17) (by rfl) (.tmp 16) (by rfl) (.slice LA la.length lc) rfl (enters_of Tryz.func35 (by kernel_rfl) rfl) _ (HVR.out w1 (HBW.out.trans (hb1.mono HBW.out.size))) ?_
      rintro e w2 ⟨A2, c2, rfl, ho2, hb2⟩
      refine ⟨_, rfl, ?_⟩
      have hS2 : w2.cell? ⟨n, 3, none⟩ = some (.slice LA la.length lc) := (hb2.cell (p := ⟨n, 3, none⟩) (by have := HZ.out; have := hb1.size; simp; omega)).trans hS1
      refine hK _ _ hS2 ?_
      try simp only [Act.put]
      have hz1 := hb1.size
      have hz2 := hb2.size
      have hzV := HZ.out
      have hnr := HN.out
      have hwV := HBV.out.size
      have HX2 : Hid (w2.heap[n]? = some (.cells #[.int .i64 nu, .int .i64 lv, .slice FA fi.length fc, .slice LA la.length lc, .int .i64 lo, .int .i64 hi] 66)) := Lib.hid ((hb2.block _ (by omega)).trans ((hb1.block _ (by omega)).trans HX0.out))
      have HO1 : Hid (Ref.Rby w2 w.heap.size A1 fi) := Lib.hid ((Ref.Rby.own ho1 (by omega)).below hb2)
      have HO2 : Hid (Ref.Rby w2 w.heap.size A2 la) := Lib.hid (Ref.Rby.own ho2 (by omega))
      have HCP : Hid (fi.length ≤ c1 ∧ la.length ≤ c2) := Lib.hid ⟨ho1.cap, ho2.cap⟩
      have HB2 : Hid (Below w.heap.size w w2) := Lib.hid ((HBV.out.trans (hb1.mono hwV)).trans (hb2.mono (by omega)))
      have HOV2 := Lib.hid ((HOV.out.below hb1).below hb2)
      have HNB : Hid (∀ q, blk OA = some q ∨ (∃ v ∈ L, blk v.FA = some q ∨ blk v.LA = some q) → q ≠ n) := Lib.hid (fun q e e2 => by
        subst e2
        have h1 : q < wr.heap.size := HLT.out q e
        omega)
      have hwn : Hid (w.heap.size ≤ n) := Lib.hid (by omega)
      clear HBW hwr ho1 ho2 hb1 hb2 HSV d0 hzV hnr hwV HOV HBV HKR HVR hS1
      have f0 := frozen_of_row w2 n 2 _ _ HX2.out
      have e0 : w2.cell? ⟨n, 2, none⟩ = some (.slice FA fi.length fc) := by rw [cell_of_row w2 n 2 _ _ (0, 0) HX2.out]; rfl
      refine wpAnyE_one (i := 7) (by kernel_rfl) rfl (fun K hK => ?_)
      go_simp
      have hx3 : (w2.setCell ⟨n, 2, none⟩ (.slice A1 fi.length c1)).heap[n]? = some (.cells #[.int .i64 nu, .int .i64 lv, .slice A1 fi.length c1, .slice LA la.length lc, .int .i64 lo, .int .i64 hi] 66) := by
        have := heap_setCell_same w2 n 2 _ _ (.slice A1 fi.length c1) HX2.out
        simpa using this
      have hS3 : (w2.setCell ⟨n, 2, none⟩ (.slice A1 fi.length c1)).cell? ⟨n, 3, none⟩ = some (.slice LA la.length lc) := by rw [cell_of_row _ n 3 _ _ (0, 0) hx3]; rfl
      refine hK _ _ hS3 ?_
      try simp only [Act.put, List.setIfInBounds_toArray]
      refine wpAnyE_one (i := 8) (by kernel_rfl) rfl (fun K hK => ?_)
      go_simp
      refine hK _ _ hS3 ?_
      try simp only [Act.put, List.setIfInBounds_toArray]
      have f3 := frozen_of_row _ n 3 _ _ hx3
      refine wpAnyE_last (by kernel_rfl) (by kernel_rfl) rfl (fun K hK => ?_)
      go_simp
      refine hK _ _ ?_
      have HX4 : Hid (((w2.setCell ⟨n, 2, none⟩ (.slice A1 fi.length c1)).setCell ⟨n, 3, none⟩ (.slice A2 la.length c2)).heap[n]? = some (.cells #[.int .i64 nu, .int .i64 lv, .slice A1 fi.length c1, .slice A2 la.length c2, .int .i64 lo, .int .i64 hi] 66)) := Lib.hid (by
        have := heap_setCell_same _ n 3 _ _ (.slice A2 la.length c2) hx3
        simpa using this)
      have htn : Sto.Tag w2 n 66 := ⟨_, _, HX2.out⟩
      have hoth : ∀ q, q ≠ n → ((w2.setCell ⟨n, 2, none⟩ (.slice A1 fi.length c1)).setCell ⟨n, 3, none⟩ (.slice A2 la.length c2)).heap[q]? = w2.heap[q]? := fun q hq => (heap_setCell_other _ ⟨n, 3, none⟩ q _ hq).trans (heap_setCell_other _ ⟨n, 2, none⟩ q _ hq)
      have HB4 : Hid (Below w.heap.size w ((w2.setCell ⟨n, 2, none⟩ (.slice A1 fi.length c1)).setCell ⟨n, 3, none⟩ (.slice A2 la.length c2))) := Lib.hid ((HB2.out.setCell hwn.out _).setCell hwn.out _)
      obtain ⟨W4, hW4⟩ : ∃ W4, (w2.setCell ⟨n, 2, none⟩ (.slice A1 fi.length c1)).setCell ⟨n, 3, none⟩ (.slice A2 la.length c2) = W4 := ⟨_, rfl⟩
      have hz4 : W4.heap.size = w2.heap.size := by rw [← hW4]; simp
      rw [hW4] at HX4 HB4 hoth ⊢
      have HO14 : Hid (Ref.Rby W4 w.heap.size A1 fi) := Lib.hid (HO1.out.keep (by omega) (fun q e => hoth q ((HO1.out.at_ q e).2.ne htn (by decide))))
      have HO24 : Hid (Ref.Rby W4 w.heap.size A2 la) := Lib.hid (HO2.out.keep (by omega) (fun q e => hoth q ((HO2.out.at_ q e).2.ne htn (by decide))))
      have HOV4 : Hid (OwV W4 w.heap.size OA oc L) := Lib.hid (HOV2.out.keep (by omega) (fun q e => hoth q (HNB.out q e)))
      clear hz4 hW4 hx3 hS3 hS2 f0 f3 e0 HO1 HO2 HOV2 HX2 htn hoth HX0
      have g0 := cell_of_row W4 n 0 _ _ (0, 0) HX4.out
      have g1 := cell_of_row W4 n 1 _ _ (0, 0) HX4.out
      have g2 := cell_of_row W4 n 2 _ _ (0, 0) HX4.out
      have g3 := cell_of_row W4 n 3 _ _ (0, 0) HX4.out
      have g4 := cell_of_row W4 n 4 _ _ (0, 0) HX4.out
      have g5 := cell_of_row W4 n 5 _ _ (0, 0) HX4.out
      simp only [List.getElem?_toArray, List.getElem?_cons_zero, List.getElem?_cons_succ] at g0 g1 g2 g3 g4 g5
      have hlk := hLk.out
      have hwz := HB4.out.size
      go_wp2_with (at_builtin; (refine wpList_append_s _ rfl _ _ vfT rfl w.heap.size OA oc L rfl (HOV4.out.row.alloc _) (W4.heap.size + 1) (some ⟨W4.heap.size, 0, none⟩) 1 1 [⟨nu, lv, A1, c1, fi, A2, c2, la, lo, hi⟩] rfl rfl (rd_vf_new W4 ⟨nu, lv, A1, c1, fi, A2, c2, la, lo, hi⟩) (by simp; omega) (by unfold maxLen; simp; omega) (by simp; omega) ?_; intro A3 c3 L3 w8 hl3 ho3 hg3 hat3))
      have hl3 : L3 = L ++ [⟨nu, lv, A1, c1, fi, A2, c2, la, lo, hi⟩] := hl3
      subst hl3
      have hba : Below W4.heap.size W4 (W4.alloc (.cells #[.int .i64 nu, .int .i64 lv, .slice A1 fi.length c1, .slice A2 la.length c2, .int .i64 lo, .int .i64 hi] 66)) := (Below.refl _ _).alloc (Nat.le_refl _) _
      have HON : Hid (OwV w8 w.heap.size A3 c3 (L ++ [⟨nu, lv, A1, c1, fi, A2, c2, la, lo, hi⟩])) := Lib.hid ((HOV4.out.below hba).app hg3 ho3 (fun v hv => by
        rw [List.mem_singleton] at hv
        subst hv
        exact ⟨HO14.out.below hba, HO24.out.below hba, HCP.out.1, HCP.out.2⟩))
      have HBN : Hid (Below w.heap.size w w8) := Lib.hid ((HB4.out.alloc hwz _).grown hg3 (by simp; omega) (fun g e => (HOV4.out.row.blk_ge g e).1))
      exact ⟨⟨k + 1, c3, A3, L ++ [⟨nu, lv, A1, c1, fi, A2, c2, la, lo, hi⟩], hlt, by simp; try omega, by simp; try omega, Lib.hid (by simp; omega), Lib.hid (by rw [hTK.out, List.map_append, List.map_append, HL.out]; rfl), HON, HBN⟩, by simp only [intOf]; omega⟩
    · have hke : k = l.length := by omega
      subst hke
      have HLE : Hid (L.map Vf.fi = l.map Vf.fi) := Lib.hid (by rw [HL.out, List.take_length])
      go_wp2_with fail
      go_ret
      exact ⟨OA, oc, L, rfl, HLE.out, HOL.out, HB.out⟩
end Go.Proofs.YtekbdedpombgcaaGreatDoor
