/- Parts of the proof, one behind the other: Files of tables in memory.; Contracts: within, rightFile, place.; Contracts: slices.IndexFunc, ContainsFunc at files and at numbers; rightEdit.; Contracts of the reference: RightFile, ahead, before.; Contracts of the reference: RightEdit. -/
import Derived.Test.YtgmnhdkdicgkcaaGreatDoorOrg16
import Derived.Test.YtgmnhdkdicgkcaaGreatDoorOrg23
import Derived.Deep.RegionWith
namespace Go.Proofs.YtgmnhdkdicgkcaaGreatDoor
open Go.RowKit Go.Maps
open Lib (hid)
structure Vf where
 number : Int
 level : Int
 FA : Option Addr
 fc : Nat
 first : List UInt8
 LA : Option Addr
 lc : Nat
 last : List UInt8
 low : Int
 high : Int
def Vf.cells (v : Vf) : List Value := [.int .i64 v.number, .int .i64 v.level, .slice v.FA v.first.length v.fc, .slice v.LA v.last.length v.lc, .int .i64 v.low, .int .i64 v.high]
def Vf.fi (v : Vf) : Ver.Fi := ⟨v.number, v.level, v.first, v.last, v.low, v.high⟩
def Vf.val (v : Vf) : Value := .agg #[.int .i64 v.number, .int .i64 v.level, .slice v.FA v.first.length v.fc, .slice v.LA v.last.length v.lc, .int .i64 v.low, .int .i64 v.high]
theorem vfT : RT Tryz.prog 22 43 Vf.cells 6 80 (.agg #[.int .i64 0, .int .i64 0, .slice none 0 0, .slice none 0 0, .int .i64 0, .int .i64 0]) :=
 ⟨Tryz.underlying22, by kernel_rfl, fun _ => rfl, fun v u hu => by simp [Vf.cells] at hu; rcases hu with h | h | h | h | h | h <;> (subst h; rfl), by omega, rfl⟩
theorem intT : RT Tryz.prog 25 3 Sto.I1 1 8 (.int .i64 0) :=
 ⟨Tryz.underlying25, by kernel_rfl, fun _ => rfl, fun v u hu => by simp [Sto.I1] at hu; subst hu; rfl, by omega, rfl⟩
structure VfOk (w : World) (B : Nat) (v : Vf) : Prop where
 f : RdB w B v.FA v.first
 l : RdB w B v.LA v.last
 fc : v.first.length ≤ v.fc
 lc : v.last.length ≤ v.lc
structure RdV (w : World) (B : Nat) (A : Option Addr) (l : List Vf) : Prop where
 row : RdS Vf.cells 6 w B A l
 ok : ∀ v ∈ l, VfOk w B v
section
variable {w w' : World} {B B' D base c : Nat} {A : Option Addr} {l : List Vf} {v : Vf}
theorem VfOk.below (h : VfOk w B v) (hb : Below D w w') (hD : B ≤ D) : VfOk w' B v := ⟨h.f.below hb hD, h.l.below hb hD, h.fc, h.lc⟩
theorem VfOk.more (h : VfOk w B v) (hB : B ≤ B') : VfOk w B' v := ⟨h.f.more hB, h.l.more hB, h.fc, h.lc⟩
theorem RdV.below (h : RdV w B A l) (hb : Below D w w') (hD : B ≤ D) : RdV w' B A l := ⟨h.row.below hb hD, fun v hv => (h.ok v hv).below hb hD⟩
theorem RdV.more (h : RdV w B A l) (hB : B ≤ B') : RdV w B' A l := ⟨h.row.more hB, fun v hv => (h.ok v hv).more hB⟩
theorem RdV.keep (h : RdV w w.heap.size A l) (hb : Below w.heap.size w w') : RdV w' w'.heap.size A l := (h.below hb (Nat.le_refl _)).more hb.size
theorem RdV.nil : RdV w B none [] := ⟨RdS.nil, fun _ h => by cases h⟩
theorem RdV.cell (h : RdV w B A l) {k : Nat} (hk : k < l.length) : ∃ b off, A = some ⟨b, off, none⟩ ∧ b < B ∧ (∀ j u, (Vf.cells (l[k]))[j]? = some u → w.cell? ⟨b, off + k * 6 + j, none⟩ = some u) ∧ VfOk w B (l[k]) := by
 obtain ⟨b, off, hA, hb, hc⟩ := RdS.row (f := Vf.cells) (n := 6) (fun _ => rfl) (by omega) h.row (by omega)
 exact ⟨b, off, hA, hb, fun j u hu => hc k hk j u hu, h.ok _ (List.getElem_mem hk)⟩
structure VfOwn (w : World) (base : Nat) (v : Vf) : Prop where
 f : Ref.Rby w base v.FA v.first
 l : Ref.Rby w base v.LA v.last
 fc : v.first.length ≤ v.fc
 lc : v.last.length ≤ v.lc
theorem VfOwn.keep (h : VfOwn w base v) (hs : w.heap.size ≤ w'.heap.size) (hk : ∀ q, blk v.FA = some q ∨ blk v.LA = some q → w'.heap[q]? = w.heap[q]?) : VfOwn w' base v :=
 ⟨h.f.keep hs (fun q e => hk q (.inl e)), h.l.keep hs (fun q e => hk q (.inr e)), h.fc, h.lc⟩
theorem VfOwn.at_ (h : VfOwn w base v) {q : Nat} (e : blk v.FA = some q ∨ blk v.LA = some q) : base ≤ q ∧ Sto.Tag w q 5 := e.elim (h.f.at_ q) (h.l.at_ q)
theorem VfOwn.below (h : VfOwn w base v) (hb : Below w.heap.size w w') : VfOwn w' base v := h.keep hb.size (fun q e => hb.block q (h.at_ e).2.lt)
theorem VfOwn.rd (h : VfOwn w base v) : VfOk w w.heap.size v := ⟨h.f.rd, h.l.rd, h.fc, h.lc⟩
theorem VfOwn.mono (h : VfOwn w base v) {b' : Nat} (hb : b' ≤ base) : VfOwn w b' v := ⟨⟨h.f.rd, fun k e => ⟨Nat.le_trans hb (h.f.at_ k e).1, (h.f.at_ k e).2⟩⟩, ⟨h.l.rd, fun k e => ⟨Nat.le_trans hb (h.l.at_ k e).1, (h.l.at_ k e).2⟩⟩, h.fc, h.lc⟩
structure OwV (w : World) (base : Nat) (A : Option Addr) (c : Nat) (l : List Vf) : Prop where
 row : OwnS Vf.cells 6 w base 43 A c l
 own : ∀ v ∈ l, VfOwn w base v
theorem OwV.nil (w : World) (base : Nat) : OwV w base none 0 [] := ⟨OwnS.nil _ _ _, fun _ h => by cases h⟩
theorem OwV.keep (h : OwV w base A c l) (hs : w.heap.size ≤ w'.heap.size) (hk : ∀ q, blk A = some q ∨ (∃ v ∈ l, blk v.FA = some q ∨ blk v.LA = some q) → w'.heap[q]? = w.heap[q]?) : OwV w' base A c l :=
 ⟨h.row.keep (fun q e => hk q (.inl e)), fun v hv => (h.own v hv).keep hs (fun q e => hk q (.inr ⟨v, hv, e⟩))⟩
theorem OwV.below (h : OwV w base A c l) (hb : Below w.heap.size w w') : OwV w' base A c l :=
 h.keep hb.size (fun q e => hb.block q (by
   rcases e with e | ⟨v, hv, e⟩
   · exact (h.row.blk_ge q e).2
   · exact ((h.own v hv).at_ e).2.lt))
theorem OwV.rd (h : OwV w base A c l) : RdV w w.heap.size A l := ⟨h.row.rd, fun v hv => (h.own v hv).rd⟩
theorem OwV.mono (h : OwV w base A c l) {b' : Nat} (hb : b' ≤ base) : OwV w b' A c l := ⟨h.row.mono hb, fun v hv => (h.own v hv).mono hb⟩
theorem OwV.app {A' : Option Addr} {c' : Nat} {l' : List Vf} (h : OwV w base A c l) (hg : w.grownBy w' (blk A)) (ho : OwnS Vf.cells 6 w' base 43 A' c' (l ++ l')) (hl : ∀ v ∈ l', VfOwn w base v) : OwV w' base A' c' (l ++ l') := by
 have key : ∀ v, VfOwn w base v → VfOwn w' base v := fun v hv => hv.keep hg.size (fun q e => hg.block q (hv.at_ e).2.lt (fun e2 => (Sto.ownTagS h.row e2.symm).ne (hv.at_ e).2 (by decide) rfl))
 refine ⟨ho, fun v hv => ?_⟩
 rcases List.mem_append.1 hv with hv | hv
 · exact key v (h.own v hv)
 · exact key v (hl v hv)
end
namespace Ver
theorem ret_q {a b : Bool} (h : a = b) : Ending.returned (.bool a) = .returned (.bool b) := by rw [h]
theorem within_any (n lo hi : Int) (w : World) : Calls Tryz.prog 47 #[.int .i64 n, .int .i64 lo, .int .i64 hi] w fun e w' => e = .returned (.bool (decide (lo ≤ n) && decide (n ≤ hi))) ∧ w' = w := by
 by_cases h1 : lo ≤ n
 · by_cases h2 : n ≤ hi
   · go_enter Tryz.func47, Tryz.ntmps47
     go_wp2
     go_ret
     exact ⟨ret_q (by simp [h1, h2]), rfl⟩
   · go_enter Tryz.func47, Tryz.ntmps47
     go_wp2
     go_ret
     exact ⟨ret_q (by simp; omega), rfl⟩
 · go_enter Tryz.func47, Tryz.ntmps47
   go_wp2
   go_ret
   exact ⟨ret_q (by simp; intro h; omega), rfl⟩
theorem key_any (A : Option Addr) (n c : Nat) (w : World) : Calls Tryz.prog 106 #[.slice A n c] w fun e w' => e = .returned (.bool (decide (1 ≤ (n : Int)) && decide ((n : Int) ≤ 512))) ∧ w' = w := by
 go_enter Tryz.func106, Tryz.ntmps106
 go_wp2_with fail
 refine (within_any _ _ _ _).mono ?_
 rintro e w' ⟨rfl, rfl⟩
 go_wp2_with fail
 go_ret
 exact ⟨rfl, rfl⟩
theorem okF_eq (f : Fi) : okF f = ((decide (1 ≤ f.number) && decide (f.number ≤ 999999)) && ((decide (0 ≤ f.level) && decide (f.level ≤ 3)) && ((decide (1 ≤ (f.first.length : Int)) && decide ((f.first.length : Int) ≤ 512)) && ((decide (1 ≤ (f.last.length : Int)) && decide ((f.last.length : Int) ≤ 512)) && (decide (Lib.compareBytes f.first f.last ≤ 0) && (decide (1 ≤ f.low) && (decide (f.low ≤ f.high) && decide (f.high ≤ 1099511627776)))))))) := by
 have hc := compareBytes_le f.first f.last
 have e1 : decide (Lib.compareBytes f.first f.last ≤ 0) = !(Op.bytesLess f.last f.first) := by
   cases h : Op.bytesLess f.last f.first with
   | true => rw [decide_eq_false]; rfl; rw [hc, h]; simp
   | false => rw [decide_eq_true (hc.2 h)]; rfl
 rw [e1]
 unfold okF
 cases Op.bytesLess f.last f.first with
 | true => simp
 | false =>
   simp only [Bool.not_false, Bool.and_true, Bool.true_and]
   simp only [← Bool.decide_and]
   apply decide_eq_decide.2
   omega
set_option maxHeartbeats 2000000 in
set_option maxRecDepth 100000 in
theorem rightFile_any (v : Vf) (w : World) (h : VfOk w w.heap.size v) : Calls Tryz.prog 48 #[v.val] w fun e w' => e = .returned (.bool (okF v.fi)) ∧ Below w.heap.size w w' := by
 obtain ⟨n, lv, FA, fc, f, LA, lc, l, lo, hi⟩ := v
 unfold Vf.val
 rw [okF_eq]
 unfold Vf.fi
 simp only
 obtain ⟨O, hO⟩ : ∃ O : Obj, Obj.cells #[.int .i64 n, .int .i64 lv, .slice FA f.length fc, .slice LA l.length lc, .int .i64 lo, .int .i64 hi] 43 = O := ⟨_, rfl⟩
 have hb : Below w.heap.size w (w.alloc O) := (Below.refl _ _).alloc (Nat.le_refl _) O
 have KB := hid (bcmp_any (w.alloc O).heap.size FA fc f (w.alloc O).heap.size LA lc l (w.alloc O) ((h.below hb (Nat.le_refl _)).more hb.size).f ((h.below hb (Nat.le_refl _)).more hb.size).l)
 have HB := hid hb
 rw [← hO] at KB HB
 obtain ⟨cm, hcm⟩ : ∃ cm, cm = Lib.compareBytes f l := ⟨_, rfl⟩
 rw [← hcm] at KB ⊢
 clear hO h hb hcm
 obtain ⟨q1, hq1⟩ : ∃ q, (decide (1 ≤ n) && decide (n ≤ 999999)) = q := ⟨_, rfl⟩
 obtain ⟨q2, hq2⟩ : ∃ q, (decide (0 ≤ lv) && decide (lv ≤ 3)) = q := ⟨_, rfl⟩
 obtain ⟨q3, hq3⟩ : ∃ q, (decide (1 ≤ (f.length : Int)) && decide ((f.length : Int) ≤ 512)) = q := ⟨_, rfl⟩
 obtain ⟨q4, hq4⟩ : ∃ q, (decide (1 ≤ (l.length : Int)) && decide ((l.length : Int) ≤ 512)) = q := ⟨_, rfl⟩
 obtain ⟨q7, hq7⟩ : ∃ q, (decide (lo ≤ hi) && decide (hi ≤ 1099511627776)) = q := ⟨_, rfl⟩
 have K1 := hid (fun w => within_any n 1 999999 w)
 have K2 := hid (fun w => within_any lv 0 3 w)
 have K3 := hid (fun w => key_any FA f.length fc w)
 have K4 := hid (fun w => key_any LA l.length lc w)
 have K7 := hid (fun w => within_any hi lo 1099511627776 w)
 rw [hq1] at K1 ⊢
 rw [hq2] at K2 ⊢
 rw [hq3] at K3 ⊢
 rw [hq4] at K4 ⊢
 rw [hq7] at K7 ⊢
 clear hq1 hq2 hq3 hq4 hq7
 go_enter Tryz.func48, Tryz.ntmps48
 go_wp2_with fail
 refine (K1.out _).mono ?_
 rintro e w1 ⟨rfl, rfl⟩
 rcases q1 with _ | _
 · go_wp2_with fail
   go_ret
   exact ⟨rfl, HB.out⟩
 go_wp2_with fail
 refine (K2.out _).mono ?_
 rintro e w1 ⟨rfl, rfl⟩
 rcases q2 with _ | _
 · go_wp2_with fail
   go_ret
   exact ⟨rfl, HB.out⟩
 go_wp2_with fail
 refine (K3.out _).mono ?_
 rintro e w1 ⟨rfl, rfl⟩
 rcases q3 with _ | _
 · go_wp2_with fail
   go_ret
   exact ⟨rfl, HB.out⟩
 go_wp2_with fail
 refine (K4.out _).mono ?_
 rintro e w1 ⟨rfl, rfl⟩
 rcases q4 with _ | _
 · go_wp2_with fail
   go_ret
   exact ⟨rfl, HB.out⟩
 go_wp2_with fail
 refine KB.out.mono ?_
 rintro e w1 ⟨rfl, rfl⟩
 by_cases h5 : cm ≤ 0
 · by_cases h6 : 1 ≤ lo
   · go_wp2_with fail
     refine (K7.out _).mono ?_
     rintro e w1 ⟨rfl, rfl⟩
     go_wp2_with fail
     go_ret
     exact ⟨ret_q (by simp [h5, h6]), HB.out⟩
   · go_wp2_with fail
     go_ret
     exact ⟨ret_q (by simp; intro h; omega), HB.out⟩
 · go_wp2_with fail
   go_ret
   exact ⟨ret_q (by simp; intro h; omega), HB.out⟩
end Ver
namespace Ver
def idx {α : Type} (q : α → Bool) (l : List α) : Int := match l.findIdx? q with | some i => (i : Int) | none => -1
theorem idx_at {α : Type} {q : α → Bool} {l : List α} {k : Nat} (h : ∀ x ∈ l.take k, q x = false) (hk : k < l.length) (hq : q l[k] = true) : idx q l = (k : Int) := by
 have e : l.findIdx? q = some k := by
   rw [List.findIdx?_eq_some_iff_getElem]
   refine ⟨hk, hq, fun j hj => ?_⟩
   have := h l[j] (List.mem_take_iff_getElem.2 ⟨j, by omega, rfl⟩)
   simp [this]
 unfold idx
 rw [e]
theorem idx_no {α : Type} {q : α → Bool} {l : List α} (h : ∀ x ∈ l, q x = false) : idx q l = -1 := by
 have e : l.findIdx? q = none := List.findIdx?_eq_none_iff.2 h
 unfold idx
 rw [e]
theorem idx_any {α : Type} (q : α → Bool) (l : List α) : decide (0 ≤ idx q l) = l.any q := by
 unfold idx
 cases h : l.findIdx? q with
 | some i =>
   obtain ⟨h1, h2, _⟩ := List.findIdx?_eq_some_iff_getElem.1 h
   rw [List.any_eq_true.2 ⟨l[i], List.getElem_mem h1, h2⟩]
   exact decide_eq_true (by simp only; omega)
 | none =>
   have h2 := List.findIdx?_eq_none_iff.1 h
   rw [List.any_eq_false.2 (fun x hx => by rw [h2 x hx]; simp)]
   exact decide_eq_false (by simp only; omega)
theorem idx_bd {α : Type} (q : α → Bool) (l : List α) : -1 ≤ idx q l ∧ idx q l < l.length := by
 unfold idx
 cases h : l.findIdx? q with
 | some i =>
   obtain ⟨h1, _⟩ := List.findIdx?_eq_some_iff_getElem.1 h
   simp only; omega
 | none => simp only; omega
set_option maxHeartbeats 2000000 in
set_option maxRecDepth 100000 in
theorem index_any (g : Nat) (cb : List Value) (q : Vf → Bool) (A : Option Addr) (c : Nat) (l : List Vf) (w : World) (h : RdV w w.heap.size A l) (hl : l.length ≤ 1000000)
   (hc : ∀ v ∈ l, ∀ W, Below w.heap.size w W → Calls Tryz.prog g (v.val :: cb).toArray W fun e w' => e = .returned (.bool (q v)) ∧ Below W.heap.size W w') (hen : ∀ args w, (callFunc g args).run Tryz.prog w = .ok (.enter g args) w) :
   Calls Tryz.prog 39 #[.slice A l.length c, .func (.func g) #[] cb.toArray] w fun e w' => e = .returned (.int .i64 (idx q l)) ∧ Below w.heap.size w w' := by
 have H := hid h
 have HC := hid hc
 clear h hc
 go_enter Tryz.func39, Tryz.ntmps39
 go_wp2_with fail
 go_loopw [8] (fun i wr => ∃ k : Nat, k ≤ l.length ∧ i = .int .i64 (k : Int) ∧ Hid (Below w.heap.size w wr) ∧ Hid (∀ x ∈ l.take k, q x = false)) (fun i _ => l.length - (intOf i).toNat)
 case atStart => exact ⟨0, by omega, rfl, hid (Below.refl _ _), hid (by simp)⟩
 case round =>
   obtain ⟨k, hk, rfl, HB, HN⟩ := hrel
   by_cases hlt : k < l.length
   · have hlt' : (k : Int) < (l.length : Int) := by omega
     have hk0 : (0 : Int) ≤ (k : Int) := by omega
     obtain ⟨b, off, hA, hbb, hcell, _⟩ := H.out.cell hlt
     have KC := hid (HC.out _ (List.getElem_mem hlt) wr HB.out)
     have HQ : Hid (∀ q', q' = q l[k] → (q' = true → idx q l = (k : Int)) ∧ (q' = false → ∀ x ∈ l.take (k + 1), q x = false)) := hid (fun q' hq' => ⟨fun h => idx_at HN.out hlt (hq'.symm.trans h), fun h x hx => by
       rw [List.take_succ_eq_append_getElem hlt] at hx
       rcases List.mem_append.1 hx with hx | hx
       · exact HN.out x hx
       · rw [List.mem_singleton] at hx; rw [hx]; exact hq'.symm.trans h⟩)
     obtain ⟨q', hq'⟩ : ∃ q', q' = q l[k] := ⟨_, rfl⟩
     have HQ := hid (HQ.out q' hq')
     rw [← hq'] at KC
     obtain ⟨v, hv⟩ : ∃ v, v = l[k] := ⟨_, rfl⟩
     rw [← hv] at hcell KC
     have hcc : ∀ j u, (Vf.cells v)[j]? = some u → wr.cell? ⟨b, off + k * 6 + j, none⟩ = some u := fun j u hu => (HB.out.cell (p := ⟨b, off + k * 6 + j, none⟩) hbb).trans (hcell j u hu)
     obtain ⟨n, lv, FA, fc, f, LA, lc, t, lo, hi⟩ := v
     unfold Vf.val at KC
     simp only at KC
     have r0 := hcc 0 _ rfl
     have r1 := hcc 1 _ rfl
     have r2 := hcc 2 _ rfl
     have r3 := hcc 3 _ rfl
     have r4 := hcc 4 _ rfl
     have r5 := hcc 5 _ rfl
     rw [Nat.add_zero] at r0
     subst hA
     clear hcell hcc hv hq'
     go_wp2_with fail
     refine KC.out.mono ?_
     rintro e w2 ⟨rfl, hb2⟩
     have HB2 := hid (HB.out.trans (hb2.mono HB.out.size))
     clear hb2
     rcases q' with _ | _
     · have HN2 := hid (HQ.out.2 rfl)
       go_wp2_with fail
       exact ⟨⟨k + 1, hlt, by simp, HB2, HN2⟩, by simp only [intOf]; omega⟩
     · have HE := hid (HQ.out.1 rfl)
       go_wp2_with fail
       go_ret
       rw [HE.out]
       exact ⟨rfl, HB2.out⟩
   · have hlt' : ¬ (k : Int) < (l.length : Int) := by omega
     have HE : Hid (idx q l = -1) := hid (idx_no (fun x hx => HN.out x (by rw [List.take_of_length_le (by omega)]; exact hx)))
     go_wp2_with fail
     go_ret
     rw [HE.out]
     exact ⟨rfl, HB.out⟩
set_option maxRecDepth 100000 in
theorem contains_any (g : Nat) (cb : List Value) (q : Vf → Bool) (A : Option Addr) (c : Nat) (l : List Vf) (w : World) (h : RdV w w.heap.size A l) (hl : l.length ≤ 1000000)
   (hc : ∀ v ∈ l, ∀ W, Below w.heap.size w W → Calls Tryz.prog g (v.val :: cb).toArray W fun e w' => e = .returned (.bool (q v)) ∧ Below W.heap.size W w') (hen : ∀ args w, (callFunc g args).run Tryz.prog w = .ok (.enter g args) w) :
   Calls Tryz.prog 101 #[.slice A l.length c, .func (.func g) #[] cb.toArray] w fun e w' => e = .returned (.bool (l.any q)) ∧ Below w.heap.size w w' := by
 have K := hid (index_any g cb q A c l w h hl hc hen)
 have HE := hid (idx_any q l)
 obtain ⟨x, hx⟩ : ∃ x, x = idx q l := ⟨_, rfl⟩
 rw [← hx] at K HE
 clear h hc hx
 go_enter Tryz.func101, Tryz.ntmps101
 go_wp2_with fail
 refine K.out.mono ?_
 rintro e w2 ⟨rfl, hb2⟩
 go_wp2_with fail
 go_ret
 exact ⟨ret_q HE.out, hb2⟩
set_option maxHeartbeats 2000000 in
set_option maxRecDepth 100000 in
theorem indexI_any (g : Nat) (cb : List Value) (q : Int → Bool) (A : Option Addr) (c : Nat) (l : List Int) (w : World) (h : RdS Sto.I1 1 w w.heap.size A l) (hl : l.length ≤ 1000000)
   (hc : ∀ v ∈ l, ∀ W, Below w.heap.size w W → Calls Tryz.prog g (Value.int .i64 v :: cb).toArray W fun e w' => e = .returned (.bool (q v)) ∧ Below W.heap.size W w') (hen : ∀ args w, (callFunc g args).run Tryz.prog w = .ok (.enter g args) w) :
   Calls Tryz.prog 155 #[.slice A l.length c, .func (.func g) #[] cb.toArray] w fun e w' => e = .returned (.int .i64 (idx q l)) ∧ Below w.heap.size w w' := by
 have H := hid h
 have HC := hid hc
 clear h hc
 go_enter Tryz.func155, Tryz.ntmps155
 go_wp2_with fail
 go_loopw [8] (fun i wr => ∃ k : Nat, k ≤ l.length ∧ i = .int .i64 (k : Int) ∧ Hid (Below w.heap.size w wr) ∧ Hid (∀ x ∈ l.take k, q x = false)) (fun i _ => l.length - (intOf i).toNat)
 case atStart => exact ⟨0, by omega, rfl, hid (Below.refl _ _), hid (by simp)⟩
 case round =>
   obtain ⟨k, hk, rfl, HB, HN⟩ := hrel
   by_cases hlt : k < l.length
   · have hlt' : (k : Int) < (l.length : Int) := by omega
     have hk0 : (0 : Int) ≤ (k : Int) := by omega
     obtain ⟨b, off, hA, hbb, hcell⟩ := RdS.row (f := Sto.I1) (n := 1) (fun _ => rfl) (by omega) H.out (by omega)
     have KC := hid (HC.out _ (List.getElem_mem hlt) wr HB.out)
     have HQ : Hid (∀ q', q' = q l[k] → (q' = true → idx q l = (k : Int)) ∧ (q' = false → ∀ x ∈ l.take (k + 1), q x = false)) := hid (fun q' hq' => ⟨fun h => idx_at HN.out hlt (hq'.symm.trans h), fun h x hx => by
       rw [List.take_succ_eq_append_getElem hlt] at hx
       rcases List.mem_append.1 hx with hx | hx
       · exact HN.out x hx
       · rw [List.mem_singleton] at hx; rw [hx]; exact hq'.symm.trans h⟩)
     obtain ⟨q', hq'⟩ : ∃ q', q' = q l[k] := ⟨_, rfl⟩
     have HQ := hid (HQ.out q' hq')
     rw [← hq'] at KC
     have r0 := (HB.out.cell (p := ⟨b, off + k * 1 + 0, none⟩) hbb).trans (hcell k hlt 0 _ rfl)
     rw [Nat.add_zero, Nat.mul_one] at r0
     obtain ⟨v, hv⟩ : ∃ v, v = l[k] := ⟨_, rfl⟩
     rw [← hv] at r0 KC
     subst hA
     clear hcell hv hq'
     go_wp2_with fail
     refine KC.out.mono ?_
     rintro e w2 ⟨rfl, hb2⟩
     have HB2 := hid (HB.out.trans (hb2.mono HB.out.size))
     clear hb2
     rcases q' with _ | _
     · have HN2 := hid (HQ.out.2 rfl)
       go_wp2_with fail
       exact ⟨⟨k + 1, hlt, by simp, HB2, HN2⟩, by simp only [intOf]; omega⟩
     · have HE := hid (HQ.out.1 rfl)
       go_wp2_with fail
       go_ret
       rw [HE.out]
       exact ⟨rfl, HB2.out⟩
   · have hlt' : ¬ (k : Int) < (l.length : Int) := by omega
     have HE : Hid (idx q l = -1) := hid (idx_no (fun x hx => HN.out x (by rw [List.take_of_length_le (by omega)]; exact hx)))
     go_wp2_with fail
     go_ret
     rw [HE.out]
     exact ⟨rfl, HB.out⟩
set_option maxRecDepth 100000 in
theorem containsI_any (g : Nat) (cb : List Value) (q : Int → Bool) (A : Option Addr) (c : Nat) (l : List Int) (w : World) (h : RdS Sto.I1 1 w w.heap.size A l) (hl : l.length ≤ 1000000)
   (hc : ∀ v ∈ l, ∀ W, Below w.heap.size w W → Calls Tryz.prog g (Value.int .i64 v :: cb).toArray W fun e w' => e = .returned (.bool (q v)) ∧ Below W.heap.size W w') (hen : ∀ args w, (callFunc g args).run Tryz.prog w = .ok (.enter g args) w) :
   Calls Tryz.prog 102 #[.slice A l.length c, .func (.func g) #[] cb.toArray] w fun e w' => e = .returned (.bool (l.any q)) ∧ Below w.heap.size w w' := by
 have K := hid (indexI_any g cb q A c l w h hl hc hen)
 have HE := hid (idx_any q l)
 obtain ⟨x, hx⟩ : ∃ x, x = idx q l := ⟨_, rfl⟩
 rw [← hx] at K HE
 clear h hc hx
 go_enter Tryz.func102, Tryz.ntmps102
 go_wp2_with fail
 refine K.out.mono ?_
 rintro e w2 ⟨rfl, hb2⟩
 go_wp2_with fail
 go_ret
 exact ⟨ret_q HE.out, hb2⟩
set_option maxRecDepth 100000 in
theorem oddF_any (v : Vf) (w : World) (h : VfOk w w.heap.size v) : Calls Tryz.prog 99 #[v.val] w fun e w' => e = .returned (.bool (!(okF v.fi))) ∧ Below w.heap.size w w' := by
 obtain ⟨O, hO⟩ : ∃ O : Obj, O = .cells #[.int .i64 v.number, .int .i64 v.level, .slice v.FA v.first.length v.fc, .slice v.LA v.last.length v.lc, .int .i64 v.low, .int .i64 v.high] 43 := ⟨_, rfl⟩
 have hb : Below w.heap.size w (w.alloc O) := (Below.refl _ _).alloc (Nat.le_refl _) O
 have K := hid (rightFile_any v (w.alloc O) ((h.below hb (Nat.le_refl _)).more hb.size))
 have HB := hid hb
 obtain ⟨q, hq⟩ : ∃ q, q = okF v.fi := ⟨_, rfl⟩
 rw [← hq] at K ⊢
 rw [hO] at K HB
 obtain ⟨n, lv, FA, fc, f, LA, lc, t, lo, hi⟩ := v
 unfold Vf.val at K ⊢
 simp only at K HB ⊢
 clear h hb hq hO
 go_enter Tryz.func99, Tryz.ntmps99
 go_wp2_with fail
 refine K.out.mono ?_
 rintro e w2 ⟨rfl, hb2⟩
 have HB2 := hid (HB.out.trans (hb2.mono HB.out.size))
 clear hb2
 go_wp2_with fail
 go_ret
 exact ⟨rfl, HB2.out⟩
set_option maxRecDepth 100000 in
theorem oddN_any (n : Int) (w : World) : Calls Tryz.prog 100 #[.int .i64 n] w fun e w' => e = .returned (.bool (!(okN n))) ∧ Below w.heap.size w w' := by
 have K := hid (fun w => within_any n 1 999999 w)
 obtain ⟨q, hq⟩ : ∃ q, (decide (1 ≤ n) && decide (n ≤ 999999)) = q := ⟨_, rfl⟩
 have e : okN n = q := by rw [← hq]; unfold okN; simp
 rw [hq] at K
 rw [e]
 clear hq e
 go_enter Tryz.func100, Tryz.ntmps100
 go_wp2_with fail
 refine (K.out _).mono ?_
 rintro e w2 ⟨rfl, rfl⟩
 go_wp2_with fail
 go_ret
 exact ⟨rfl, Below.refl _ _⟩
structure Ev where
 A : Option Addr
 c : Nat
 add : List Vf
 DA : Option Addr
 dc : Nat
 drop : List Int
 log : Int
 next : Int
def Ev.val (e : Ev) : Value := .agg #[.slice e.A e.add.length e.c, .slice e.DA e.drop.length e.dc, .int .i64 e.log, .int .i64 e.next]
def Ev.ed (e : Ev) : Ed := ⟨e.add.map Vf.fi, e.drop, e.log, e.next⟩
structure EvOk (w : World) (B : Nat) (e : Ev) : Prop where
 add : RdV w B e.A e.add
 drop : RdS Sto.I1 1 w B e.DA e.drop
theorem EvOk.below {w w' : World} {B D : Nat} {e : Ev} (h : EvOk w B e) (hb : Below D w w') (hD : B ≤ D) : EvOk w' B e := ⟨h.add.below hb hD, h.drop.below hb hD⟩
theorem EvOk.more {w : World} {B B' : Nat} {e : Ev} (h : EvOk w B e) (hB : B ≤ B') : EvOk w B' e := ⟨h.add.more hB, h.drop.more hB⟩
theorem EvOk.keep {w w' : World} {e : Ev} (h : EvOk w w.heap.size e) (hb : Below w.heap.size w w') : EvOk w' w'.heap.size e := (h.below hb (Nat.le_refl _)).more hb.size
set_option maxHeartbeats 4000000 in
set_option maxRecDepth 100000 in
theorem rightEdit_any (e : Ev) (w : World) (h : EvOk w w.heap.size e) (hl : e.add.length ≤ 1000000) (hd : e.drop.length ≤ 1000000) :
   Calls Tryz.prog 37 #[e.val] w fun r w' => r = .returned (.bool (okE e.ed)) ∧ Below w.heap.size w w' := by
 obtain ⟨A, c, add, DA, dc, drop, log, next⟩ := e
 simp only at hl hd
 obtain ⟨qq, hqq⟩ : ∃ qq, qq = okE (Ev.ed ⟨A, c, add, DA, dc, drop, log, next⟩) := ⟨_, rfl⟩
 rw [← hqq]
 have HE : Hid (qq = (decide (add.length ≤ 50) && (decide (drop.length ≤ 50) && ((decide (0 ≤ log) && decide (log ≤ 1099511627776)) && ((decide (0 ≤ next) && decide (next ≤ 1099511627776)) && (!(add.any (fun v => !(okF v.fi))) && !(drop.any (fun n => !(okN n))))))))) := hid (by
   rw [hqq]; unfold okE Ev.ed
   simp only [List.length_map, List.all_map, List.not_any_eq_all_not, Bool.not_not, Bool.decide_and, Bool.and_assoc]
   rfl)
 obtain ⟨O, hO⟩ : ∃ O : Obj, O = .cells #[.slice A add.length c, .slice DA drop.length dc, .int .i64 log, .int .i64 next] 27 := ⟨_, rfl⟩
 have hb : Below w.heap.size w (w.alloc O) := (Below.refl _ _).alloc (Nat.le_refl _) O
 have h2 := h.keep hb
 have K1 := hid (fun w => within_any log 0 1099511627776 w)
 have K2 := hid (fun w => within_any next 0 1099511627776 w)
 have K3 := hid (contains_any 99 [] (fun v => !(okF v.fi)) A c add (w.alloc O) h2.add hl (fun v hv W hW => oddF_any v W (((h2.add.ok v hv).below hW (Nat.le_refl _)).more hW.size)) (fun _ _ => rfl))
 have K4 := hid (fun W (hW : Below (w.alloc O).heap.size (w.alloc O) W) => containsI_any 100 [] (fun n => !(okN n)) DA dc drop W ((h2.drop.below hW (Nat.le_refl _)).more hW.size) hd (fun v _ W _ => oddN_any v W) (fun _ _ => rfl))
 have HB := hid hb
 have HBX : Hid (∀ W, Below (w.alloc O).heap.size (w.alloc O) W → W.heap[w.heap.size]? = some O) := hid (fun W hW => (hW.block _ (by simp)).trans (heap_alloc_new w O))
 obtain ⟨q1, hq1⟩ : ∃ q, (decide (0 ≤ log) && decide (log ≤ 1099511627776)) = q := ⟨_, rfl⟩
 obtain ⟨q2, hq2⟩ : ∃ q, (decide (0 ≤ next) && decide (next ≤ 1099511627776)) = q := ⟨_, rfl⟩
 obtain ⟨q3, hq3⟩ : ∃ q, add.any (fun v => !(okF v.fi)) = q := ⟨_, rfl⟩
 obtain ⟨q4, hq4⟩ : ∃ q, drop.any (fun n => !(okN n)) = q := ⟨_, rfl⟩
 rw [hq1] at K1 HE
 rw [hq2] at K2 HE
 rw [hq3] at K3 HE
 rw [hq4] at K4 HE
 have HO := hid hO
 rw [hO] at HB K3
 unfold Ev.val
 simp only
 clear h hqq hO hb h2 hq1 hq2 hq3 hq4
 go_enter Tryz.func37, Tryz.ntmps37
 by_cases h1 : add.length ≤ 50
 rotate_left
 · have g1 : ¬ (add.length : Int) ≤ 50 := by omega
   go_wp2_with fail
   go_ret
   exact ⟨ret_q (by rw [HE.out, decide_eq_false h1]; rfl), HB.out⟩
 have g1 : (add.length : Int) ≤ 50 := by omega
 by_cases h2 : drop.length ≤ 50
 rotate_left
 · have g2 : ¬ (drop.length : Int) ≤ 50 := by omega
   go_wp2_with fail
   go_ret
   exact ⟨ret_q (by rw [HE.out, decide_eq_false h2, Bool.and_comm]; rfl), HB.out⟩
 have g2 : (drop.length : Int) ≤ 50 := by omega
 have HE2 : Hid (qq = (q1 && (q2 && (!q3 && !q4)))) := hid (by rw [HE.out, decide_eq_true h1, decide_eq_true h2]; rfl)
 clear HE
 go_wp2_with fail
 refine (K1.out _).mono ?_
 rintro e w1 ⟨rfl, rfl⟩
 rcases q1 with _ | _
 · go_wp2_with fail
   go_ret
   exact ⟨ret_q (by rw [HE2.out]; rfl), HB.out⟩
 go_wp2_with fail
 refine (K2.out _).mono ?_
 rintro e w1 ⟨rfl, rfl⟩
 rcases q2 with _ | _
 · go_wp2_with fail
   go_ret
   exact ⟨ret_q (by rw [HE2.out]; rfl), HB.out⟩
 go_wp2_with fail
 refine K3.out.mono ?_
 rintro e w3 ⟨rfl, hb3⟩
 rw [← HO.out] at hb3
 have HB3 := hid (HB.out.trans (by rw [← HO.out]; exact hb3.mono (by simp)))
 have o1 : w3.cell? ⟨w.heap.size, 1, none⟩ = some (.slice DA drop.length dc) := by rw [cell_of_row w3 _ 1 _ _ (0, 0) ((HBX.out w3 hb3).trans (by rw [HO.out]))]; rfl
 have K5 := hid (K4.out w3 hb3)
 clear hb3
 rcases q3 with _ | _
 · go_wp2_with fail
   refine K5.out.mono ?_
   rintro e w4 ⟨rfl, hb4⟩
   have HB4 := hid (HB3.out.trans (hb4.mono HB3.out.size))
   clear hb4
   go_wp2_with fail
   go_ret
   exact ⟨ret_q (by rw [HE2.out]; rfl), HB4.out⟩
 · go_wp2_with fail
   go_ret
   exact ⟨ret_q (by rw [HE2.out]; rfl), HB3.out⟩
end Ver
namespace Ver
theorem strB_to {w : World} {B : Nat} {A : Option Addr} {c : Nat} {l : List UInt8} {X : ByteArray} (h : RdB w B A l) (hX : (⟨l.toArray⟩ : ByteArray) = X) : (convert 37 9 (.slice A l.length c)).run Tryz.prog w = .ok (.string X) w := by
 rw [← hX]; exact strB_of h
theorem less_to {l m : List UInt8} {X Y : ByteArray} (hX : (⟨l.toArray⟩ : ByteArray) = X) (hY : (⟨m.toArray⟩ : ByteArray) = Y) : Go.Op.bytesLess X.toList Y.toList = Go.Op.bytesLess l m ∧ (X.toList == Y.toList) = (l == m) := by
 subst hX hY
 rw [ByteArray.toList_eq, ByteArray.toList_eq]
 exact ⟨rfl, rfl⟩
set_option maxHeartbeats 4000000 in
set_option maxRecDepth 100000 in
theorem rrightFile_any (v : Vf) (w : World) (h : VfOk w w.heap.size v) : Calls Tryz.prog 50 #[v.val] w fun e w' => e = .returned (.bool (okF v.fi)) ∧ Below w.heap.size w w' := by
 obtain ⟨n, lv, FA, fc, f, LA, lc, l, lo, hi⟩ := v
 unfold Vf.val
 obtain ⟨q, hq⟩ : ∃ q, q = okF (Vf.fi ⟨n, lv, FA, fc, f, LA, lc, l, lo, hi⟩) := ⟨_, rfl⟩
 rw [← hq]
 have HNO : Hid (¬ (1 ≤ n ∧ n ≤ 999999 ∧ 0 ≤ lv ∧ lv ≤ 3 ∧ 1 ≤ f.length ∧ f.length ≤ 512 ∧ 1 ≤ l.length ∧ l.length ≤ 512 ∧ 1 ≤ lo ∧ lo ≤ hi ∧ hi ≤ 1099511627776) → q = false) := hid (fun hn => by
   rw [hq]; unfold okF Vf.fi
   rw [decide_eq_false hn]; rfl)
 have HYES : Hid ((1 ≤ n ∧ n ≤ 999999 ∧ 0 ≤ lv ∧ lv ≤ 3 ∧ 1 ≤ f.length ∧ f.length ≤ 512 ∧ 1 ≤ l.length ∧ l.length ≤ 512 ∧ 1 ≤ lo ∧ lo ≤ hi ∧ hi ≤ 1099511627776) → q = !(Op.bytesLess l f)) := hid (fun hn => by
   rw [hq]; unfold okF Vf.fi
   rw [decide_eq_true hn]; rfl)
 obtain ⟨O, hO⟩ : ∃ O : Obj, Obj.cells #[.int .i64 n, .int .i64 lv, .slice FA f.length fc, .slice LA l.length lc, .int .i64 lo, .int .i64 hi] 43 = O := ⟨_, rfl⟩
 have hb : Below w.heap.size w (w.alloc O) := (Below.refl _ _).alloc (Nat.le_refl _) O
 obtain ⟨X, hX⟩ : ∃ X : ByteArray, (⟨f.toArray⟩ : ByteArray) = X := ⟨_, rfl⟩
 obtain ⟨Y, hY⟩ : ∃ Y : ByteArray, (⟨l.toArray⟩ : ByteArray) = Y := ⟨_, rfl⟩
 have c1 := strB_to (c := fc) ((h.below hb (Nat.le_refl _)).f) hX
 have c2 := strB_to (c := lc) ((h.below hb (Nat.le_refl _)).l) hY
 obtain ⟨e1, e2⟩ := less_to hX hY
 have HB := hid hb
 rw [← hO] at HB c1 c2
 clear hO h hb hq hX hY
 go_enter Tryz.func50, Tryz.ntmps50
 by_cases h1 : n < 1
 · have HE : Hid (q = false) := hid (HNO.out (by omega))
   go_wp2_with fail
   go_ret
   exact ⟨ret_q HE.out.symm, HB.out⟩
 by_cases h2 : 999999 < n
 · have HE : Hid (q = false) := hid (HNO.out (by omega))
   go_wp2_with fail
   go_ret
   exact ⟨ret_q HE.out.symm, HB.out⟩
 by_cases h3 : lv < 0
 · have HE : Hid (q = false) := hid (HNO.out (by omega))
   go_wp2_with fail
   go_ret
   exact ⟨ret_q HE.out.symm, HB.out⟩
 by_cases h4 : 3 < lv
 · have HE : Hid (q = false) := hid (HNO.out (by omega))
   go_wp2_with fail
   go_ret
   exact ⟨ret_q HE.out.symm, HB.out⟩
 by_cases h5 : lo < 1
 · have HE : Hid (q = false) := hid (HNO.out (by omega))
   go_wp2_with fail
   go_ret
   exact ⟨ret_q HE.out.symm, HB.out⟩
 by_cases h6 : hi < lo
 · have HE : Hid (q = false) := hid (HNO.out (by omega))
   go_wp2_with fail
   go_ret
   exact ⟨ret_q HE.out.symm, HB.out⟩
 by_cases h7 : 1099511627776 < hi
 · have HE : Hid (q = false) := hid (HNO.out (by omega))
   go_wp2_with fail
   go_ret
   exact ⟨ret_q HE.out.symm, HB.out⟩
 by_cases g1 : 1 ≤ f.length
 rotate_left
 · have gi : ¬ (1 : Int) ≤ (f.length : Int) := by omega
   have HE : Hid (q = false) := hid (HNO.out (by omega))
   go_wp2_with fail
   go_ret
   exact ⟨ret_q HE.out.symm, HB.out⟩
 have gi1 : (1 : Int) ≤ (f.length : Int) := by omega
 by_cases g2 : f.length ≤ 512
 rotate_left
 · have gi : ¬ (f.length : Int) ≤ 512 := by omega
   have HE : Hid (q = false) := hid (HNO.out (by omega))
   go_wp2_with fail
   go_ret
   exact ⟨ret_q HE.out.symm, HB.out⟩
 have gi2 : (f.length : Int) ≤ 512 := by omega
 by_cases g3 : 1 ≤ l.length
 rotate_left
 · have gi : ¬ (1 : Int) ≤ (l.length : Int) := by omega
   have HE : Hid (q = false) := hid (HNO.out (by omega))
   go_wp2_with fail
   go_ret
   exact ⟨ret_q HE.out.symm, HB.out⟩
 have gi3 : (1 : Int) ≤ (l.length : Int) := by omega
 by_cases g4 : l.length ≤ 512
 rotate_left
 · have gi : ¬ (l.length : Int) ≤ 512 := by omega
   have HE : Hid (q = false) := hid (HNO.out (by omega))
   go_wp2_with fail
   go_ret
   exact ⟨ret_q HE.out.symm, HB.out⟩
 have gi4 : (l.length : Int) ≤ 512 := by omega
 have HE := hid (HYES.out (by omega))
 have h3 := less_tri l f
 cases hl : Op.bytesLess l f with
 | true =>
   obtain ⟨a1, a2⟩ := h3.1 hl
   rw [a1] at e1
   rw [a2] at e2
   rw [hl] at HE
   clear h3 hl a1 a2
   go_wp2_with fail
   go_ret
   exact ⟨ret_q HE.out.symm, HB.out⟩
 | false =>
   have e3 : (Op.bytesLess X.toList Y.toList || X.toList == Y.toList) = true := by
     rw [e1, e2]
     cases h4 : Op.bytesLess f l with
     | true => rfl
     | false => simp [less_total h4 hl]
   rw [hl] at HE
   clear h3 e1 e2 hl
   cases q1 : Op.bytesLess X.toList Y.toList with
   | true =>
     go_wp2_with fail
     go_ret
     exact ⟨ret_q HE.out.symm, HB.out⟩
   | false =>
     have q2 : (X.toList == Y.toList) = true := by rw [q1] at e3; simpa using e3
     go_wp2_with fail
     go_ret
     exact ⟨ret_q HE.out.symm, HB.out⟩
set_option maxHeartbeats 4000000 in
set_option maxRecDepth 100000 in
theorem rahead_any (u v : Vf) (w : World) (hu : VfOk w w.heap.size u) (hv : VfOk w w.heap.size v) : Calls Tryz.prog 51 #[u.val, v.val] w fun e w' => e = .returned (.bool (ahead u.fi v.fi)) ∧ Below w.heap.size w w' := by
 obtain ⟨n1, v1, FA1, fc1, f1, LA1, lc1, l1, lo1, hi1⟩ := u
 obtain ⟨n2, v2, FA2, fc2, f2, LA2, lc2, l2, lo2, hi2⟩ := v
 unfold Vf.val Vf.fi
 obtain ⟨q, hq⟩ : ∃ q, q = ahead ⟨n1, v1, f1, l1, lo1, hi1⟩ ⟨n2, v2, f2, l2, lo2, hi2⟩ := ⟨_, rfl⟩
 simp only
 rw [← hq]
 unfold ahead at hq
 simp only at hq
 obtain ⟨O, hO⟩ : ∃ O : Obj, Obj.cells #[.int .i64 n1, .int .i64 v1, .slice FA1 f1.length fc1, .slice LA1 l1.length lc1, .int .i64 lo1, .int .i64 hi1] 43 = O := ⟨_, rfl⟩
 obtain ⟨U, hU⟩ : ∃ U : Obj, Obj.cells #[.int .i64 n2, .int .i64 v2, .slice FA2 f2.length fc2, .slice LA2 l2.length lc2, .int .i64 lo2, .int .i64 hi2] 43 = U := ⟨_, rfl⟩
 have hb : Below w.heap.size w ((w.alloc O).alloc U) := ((Below.refl _ _).alloc (Nat.le_refl _) O).alloc (by simp) U
 obtain ⟨X, hX⟩ : ∃ X : ByteArray, (⟨l1.toArray⟩ : ByteArray) = X := ⟨_, rfl⟩
 obtain ⟨Y, hY⟩ : ∃ Y : ByteArray, (⟨f2.toArray⟩ : ByteArray) = Y := ⟨_, rfl⟩
 have c1 := strB_to (c := lc1) ((hu.below hb (Nat.le_refl _)).l) hX
 have c2 := strB_to (c := fc2) ((hv.below hb (Nat.le_refl _)).f) hY
 obtain ⟨e1, _⟩ := less_to hX hY
 have HB := hid hb
 rw [← hO, ← hU] at HB c1 c2
 have HQ := hid hq
 clear hO hU hb hX hY hu hv hq
 go_enter Tryz.func51, Tryz.ntmps51
 by_cases x : v1 = v2
 · have x1 : (v1 != v2) = false := by rw [x]; simp
   have x2 : (v1 == v2) = true := by rw [x]; simp
   have HX := hid x
   by_cases y : v1 = 0
   · have y1 : (v1 == 0) = true := by rw [y]; rfl
     have HY := hid y
     have HE : Hid (q = decide (n2 < n1)) := hid (by rw [HQ.out, if_neg (by rw [x]; simp), if_pos y])
     clear x y
     go_wp2_with fail
     go_ret
     exact ⟨ret_q HE.out.symm, HB.out⟩
   · have y1 : (v1 == 0) = false := by simpa using y
     have HE : Hid (q = Op.bytesLess l1 f2) := hid (by rw [HQ.out, if_neg (by rw [x]; simp), if_neg y])
     clear x y
     go_wp2_with fail
     go_ret
     exact ⟨ret_q HE.out.symm, HB.out⟩
 · have x1 : (v1 != v2) = true := by simpa using x
   have x2 : (v1 == v2) = false := by simpa using x
   have HE : Hid (q = decide (v1 < v2)) := hid (by rw [HQ.out, if_pos x])
   clear x
   go_wp2_with fail
   go_ret
   exact ⟨ret_q HE.out.symm, HB.out⟩
set_option maxHeartbeats 4000000 in
set_option maxRecDepth 100000 in
theorem rbefore_any (u v : Vf) (w : World) (hu : VfOk w w.heap.size u) (hv : VfOk w w.heap.size v) : Calls Tryz.prog 45 #[u.val, v.val] w fun e w' => e = .returned (.bool (before u.fi v.fi)) ∧ Below w.heap.size w w' := by
 obtain ⟨n1, v1, FA1, fc1, f1, LA1, lc1, l1, lo1, hi1⟩ := u
 obtain ⟨n2, v2, FA2, fc2, f2, LA2, lc2, l2, lo2, hi2⟩ := v
 unfold Vf.val Vf.fi
 obtain ⟨q, hq⟩ : ∃ q, q = before ⟨n1, v1, f1, l1, lo1, hi1⟩ ⟨n2, v2, f2, l2, lo2, hi2⟩ := ⟨_, rfl⟩
 simp only
 rw [← hq]
 unfold before at hq
 simp only at hq
 obtain ⟨O, hO⟩ : ∃ O : Obj, Obj.cells #[.int .i64 n1, .int .i64 v1, .slice FA1 f1.length fc1, .slice LA1 l1.length lc1, .int .i64 lo1, .int .i64 hi1] 43 = O := ⟨_, rfl⟩
 obtain ⟨U, hU⟩ : ∃ U : Obj, Obj.cells #[.int .i64 n2, .int .i64 v2, .slice FA2 f2.length fc2, .slice LA2 l2.length lc2, .int .i64 lo2, .int .i64 hi2] 43 = U := ⟨_, rfl⟩
 have hb : Below w.heap.size w ((w.alloc O).alloc U) := ((Below.refl _ _).alloc (Nat.le_refl _) O).alloc (by simp) U
 obtain ⟨X, hX⟩ : ∃ X : ByteArray, (⟨f1.toArray⟩ : ByteArray) = X := ⟨_, rfl⟩
 obtain ⟨Y, hY⟩ : ∃ Y : ByteArray, (⟨f2.toArray⟩ : ByteArray) = Y := ⟨_, rfl⟩
 have c1 := strB_to (c := fc1) ((hu.below hb (Nat.le_refl _)).f) hX
 have c2 := strB_to (c := fc2) ((hv.below hb (Nat.le_refl _)).f) hY
 obtain ⟨e1, _⟩ := less_to hX hY
 have HB := hid hb
 rw [← hO, ← hU] at HB c1 c2
 have HQ := hid hq
 clear hO hU hb hX hY hu hv hq
 go_enter Tryz.func45, Tryz.ntmps45
 by_cases x : v1 = v2
 · have x1 : (v1 != v2) = false := by rw [x]; simp
   have x2 : (v1 == v2) = true := by rw [x]; simp
   have HX := hid x
   by_cases y : v1 = 0
   · have y1 : (v1 == 0) = true := by rw [y]; rfl
     have HY := hid y
     have HE : Hid (q = decide (n2 < n1)) := hid (by rw [HQ.out, if_neg (by rw [x]; simp), if_pos y])
     clear x y
     go_wp2_with fail
     go_ret
     exact ⟨ret_q HE.out.symm, HB.out⟩
   · have y1 : (v1 == 0) = false := by simpa using y
     have HE : Hid (q = Op.bytesLess f1 f2) := hid (by rw [HQ.out, if_neg (by rw [x]; simp), if_neg y])
     clear x y
     go_wp2_with fail
     go_ret
     exact ⟨ret_q HE.out.symm, HB.out⟩
 · have x1 : (v1 != v2) = true := by simpa using x
   have x2 : (v1 == v2) = false := by simpa using x
   have HE : Hid (q = decide (v1 < v2)) := hid (by rw [HQ.out, if_pos x])
   clear x
   go_wp2_with fail
   go_ret
   exact ⟨ret_q HE.out.symm, HB.out⟩
end Ver
namespace Ver
theorem all_go {α : Type} {q : α → Bool} {l : List α} {k : Nat} (h : k < l.length) : (l.drop k).all q = (q l[k] && (l.drop (k + 1)).all q) := by
 rw [List.drop_eq_getElem_cons h, List.all_cons]
set_option maxHeartbeats 4000000 in
set_option maxRecDepth 100000 in
theorem rrightEdit_any (e : Ev) (w : World) (h : EvOk w w.heap.size e) (hl : e.add.length ≤ 1000000) (hd : e.drop.length ≤ 1000000) :
   Calls Tryz.prog 44 #[e.val] w fun r w' => r = .returned (.bool (okE e.ed)) ∧ Below w.heap.size w w' := by
 obtain ⟨A, c, add, DA, dc, drop, log, next⟩ := e
 simp only at hl hd
 obtain ⟨qq, hqq⟩ : ∃ qq, qq = okE (Ev.ed ⟨A, c, add, DA, dc, drop, log, next⟩) := ⟨_, rfl⟩
 rw [← hqq]
 have HNO : Hid (¬ (add.length ≤ 50 ∧ drop.length ≤ 50 ∧ 0 ≤ log ∧ log ≤ 1099511627776 ∧ 0 ≤ next ∧ next ≤ 1099511627776) → qq = false) := hid (fun hn => by
   rw [hqq]; unfold okE Ev.ed
   simp only [List.length_map]
   rw [decide_eq_false hn]; rfl)
 have HYES : Hid ((add.length ≤ 50 ∧ drop.length ≤ 50 ∧ 0 ≤ log ∧ log ≤ 1099511627776 ∧ 0 ≤ next ∧ next ≤ 1099511627776) → qq = (add.all (fun v => okF v.fi) && drop.all okN)) := hid (fun hn => by
   rw [hqq]; unfold okE Ev.ed
   simp only [List.length_map, List.all_map]
   rw [decide_eq_true hn]; rfl)
 obtain ⟨O, hO⟩ : ∃ O : Obj, O = .cells #[.slice A add.length c, .slice DA drop.length dc, .int .i64 log, .int .i64 next] 27 := ⟨_, rfl⟩
 have hb : Below w.heap.size w (w.alloc O) := (Below.refl _ _).alloc (Nat.le_refl _) O
 have H := hid h
 have HB := hid hb
 have HI0 : Hid (Below w.heap.size w (w.alloc O) ∧ (w.alloc O).heap[w.heap.size]? = some O) := hid ⟨hb, heap_alloc_new w O⟩
 have HO := hid hO
 rw [hO] at HB
 unfold Ev.val
 simp only
 clear h hqq hO hb
 go_enter Tryz.func44, Tryz.ntmps44
 by_cases h1 : add.length ≤ 50
 rotate_left
 · have g1 : (50 : Int) < (add.length : Int) := by omega
   have HE : Hid (qq = false) := hid (HNO.out (by omega))
   go_wp2_with fail
   go_ret
   exact ⟨ret_q HE.out.symm, HB.out⟩
 have g1 : ¬ (50 : Int) < (add.length : Int) := by omega
 by_cases h2 : drop.length ≤ 50
 rotate_left
 · have g1 : (50 : Int) < (drop.length : Int) := by omega
   have HE : Hid (qq = false) := hid (HNO.out (by omega))
   go_wp2_with fail
   go_ret
   exact ⟨ret_q HE.out.symm, HB.out⟩
 have g2 : ¬ (50 : Int) < (drop.length : Int) := by omega
 by_cases h3 : log < 0
 · have HE : Hid (qq = false) := hid (HNO.out (by omega))
   go_wp2_with fail
   go_ret
   exact ⟨ret_q HE.out.symm, HB.out⟩
 by_cases h4 : 1099511627776 < log
 · have HE : Hid (qq = false) := hid (HNO.out (by omega))
   go_wp2_with fail
   go_ret
   exact ⟨ret_q HE.out.symm, HB.out⟩
 by_cases h5 : next < 0
 · have HE : Hid (qq = false) := hid (HNO.out (by omega))
   go_wp2_with fail
   go_ret
   exact ⟨ret_q HE.out.symm, HB.out⟩
 by_cases h6 : 1099511627776 < next
 · have HE : Hid (qq = false) := hid (HNO.out (by omega))
   go_wp2_with fail
   go_ret
   exact ⟨ret_q HE.out.symm, HB.out⟩
 have HQ := hid (HYES.out (by omega))
 clear HNO HYES
 go_wp2_with fail
 go_loopw [3] (fun i wr => ∃ k : Nat, k ≤ add.length ∧ i = .int .i64 (k : Int) ∧ Hid (Below w.heap.size w wr ∧ wr.heap[w.heap.size]? = some O) ∧ Hid (qq = ((add.drop k).all (fun v => okF v.fi) && drop.all okN))) (fun i _ => add.length - (intOf i).toNat)
 case atStart =>
   rw [HO.out]
   rw [HO.out] at HI0
   exact ⟨0, by omega, rfl, HI0, HQ⟩
 case round =>
   obtain ⟨k, hk, rfl, HI, HA⟩ := hrel
   have b0 : wr.cell? ⟨w.heap.size, 0, none⟩ = some (.slice A add.length c) := by rw [cell_of_row wr _ 0 _ _ (0, 0) (HI.out.2.trans (by rw [HO.out]))]; rfl
   have b1 : wr.cell? ⟨w.heap.size, 1, none⟩ = some (.slice DA drop.length dc) := by rw [cell_of_row wr _ 1 _ _ (0, 0) (HI.out.2.trans (by rw [HO.out]))]; rfl
   by_cases hlt : k < add.length
   · have hlt' : (k : Int) < (add.length : Int) := by omega
     have hk0 : (0 : Int) ≤ (k : Int) := by omega
     obtain ⟨b, off, hA, hbb, hcell, hok⟩ := H.out.add.cell hlt
     have HAK : Hid (qq = (okF (add[k]).fi && ((add.drop (k + 1)).all (fun v => okF v.fi) && drop.all okN))) := hid (by rw [HA.out, all_go hlt, Bool.and_assoc])
     have KR := hid (rrightFile_any add[k] wr ((hok.below HI.out.1 (Nat.le_refl _)).more HI.out.1.size))
     obtain ⟨q', hq'⟩ : ∃ q', q' = okF (add[k]).fi := ⟨_, rfl⟩
     rw [← hq'] at HAK KR
     obtain ⟨v, hv⟩ : ∃ v, v = add[k] := ⟨_, rfl⟩
     rw [← hv] at hcell KR
     have hcc : ∀ j u, (Vf.cells v)[j]? = some u → wr.cell? ⟨b, off + k * 6 + j, none⟩ = some u := fun j u hu => (HI.out.1.cell (p := ⟨b, off + k * 6 + j, none⟩) hbb).trans (hcell j u hu)
     obtain ⟨n, lv, FA, fc, f, LA, lc, t, lo, hi⟩ := v
     unfold Vf.val at KR
     simp only at KR
     have r0 := hcc 0 _ rfl
     have r1 := hcc 1 _ rfl
     have r2 := hcc 2 _ rfl
     have r3 := hcc 3 _ rfl
     have r4 := hcc 4 _ rfl
     have r5 := hcc 5 _ rfl
     rw [Nat.add_zero] at r0
     subst hA
     clear hcell hcc hv hq' hok
     go_wp2_with fail
     refine KR.out.mono ?_
     rintro e w2 ⟨rfl, hb2⟩
     have HI2 : Hid (Below w.heap.size w w2 ∧ w2.heap[w.heap.size]? = some O) := hid ⟨HI.out.1.trans (hb2.mono HI.out.1.size), (hb2.block _ (Array.getElem?_eq_some_iff.1 HI.out.2).1).trans HI.out.2⟩
     clear hb2
     rcases q' with _ | _
     · have HE : Hid (qq = false) := hid (by rw [HAK.out]; rfl)
       go_wp2_with fail
       go_ret
       exact ⟨ret_q HE.out.symm, HI2.out.1⟩
     · have HA2 : Hid (qq = ((add.drop (k + 1)).all (fun v => okF v.fi) && drop.all okN)) := hid (by rw [HAK.out]; rfl)
       go_wp2_with fail
       exact ⟨⟨k + 1, hlt, by simp, HI2, HA2⟩, by simp only [intOf]; omega⟩
   · have hlt' : ¬ (k : Int) < (add.length : Int) := by omega
     have HQ2 : Hid (qq = drop.all okN) := hid (by rw [HA.out, List.drop_of_length_le (by omega)]; rfl)
     clear HA HQ
     go_wp2_with fail
     go_loopw [5] (fun i wq => ∃ j : Nat, j ≤ drop.length ∧ i = .int .i64 (j : Int) ∧ Hid (qq = (drop.drop j).all okN) ∧ wq = wr) (fun i _ => drop.length - (intOf i).toNat)
     case atStart => exact ⟨0, by omega, rfl, HQ2, rfl⟩
     case round =>
       obtain ⟨j, hj, rfl, HD, rfl⟩ := hrel
       by_cases hjt : j < drop.length
       · have hjt' : (j : Int) < (drop.length : Int) := by omega
         have hj0 : (0 : Int) ≤ (j : Int) := by omega
         have hdr : RdS Sto.I1 1 w w.heap.size DA drop := H.out.drop
         obtain ⟨b, off, hA, hbb, hcell⟩ := RdS.row (f := Sto.I1) (n := 1) (fun _ => rfl) (by omega) hdr (by omega)
         have HDK : Hid (qq = (okN drop[j] && (drop.drop (j + 1)).all okN)) := hid (by rw [HD.out, all_go hjt])
         have r0 := (HI.out.1.cell (p := ⟨b, off + j * 1 + 0, none⟩) hbb).trans (hcell j hjt 0 _ rfl)
         rw [Nat.add_zero, Nat.mul_one] at r0
         obtain ⟨n, hn⟩ : ∃ n, n = drop[j] := ⟨_, rfl⟩
         rw [← hn] at r0 HDK
         subst hA
         clear hcell hn hdr
         by_cases n1 : n < 1
         · have HE : Hid (qq = false) := hid (by rw [HDK.out]; unfold okN; rw [decide_eq_false (by omega)]; rfl)
           go_wp2_with fail
           go_ret
           exact ⟨ret_q HE.out.symm, HI.out.1⟩
         by_cases n2 : 999999 < n
         · have HE : Hid (qq = false) := hid (by rw [HDK.out]; unfold okN; rw [decide_eq_false (by omega)]; rfl)
           go_wp2_with fail
           go_ret
           exact ⟨ret_q HE.out.symm, HI.out.1⟩
         have HD2 : Hid (qq = (drop.drop (j + 1)).all okN) := hid (by rw [HDK.out]; unfold okN; rw [decide_eq_true (by omega)]; rfl)
         go_wp2_with fail
         exact ⟨⟨j + 1, hjt, by simp, HD2, by first | rfl | trivial⟩, by simp only [intOf]; omega⟩
       · have hjt' : ¬ (j : Int) < (drop.length : Int) := by omega
         have HE : Hid (qq = true) := hid (by rw [HD.out, List.drop_of_length_le (by omega)]; rfl)
         go_wp2_with fail
         go_ret
         exact ⟨ret_q HE.out.symm, HI.out.1⟩
end Ver
end Go.Proofs.YtgmnhdkdicgkcaaGreatDoor
