/- Parts of the proof, one behind the other: An op in memory. Contracts: nothing is contained in nothing; a record more was looked at.; Contracts: engine.remember, of one op. -/
import Derived.Test.YtekbdedpombgcaaGreatDoorMrg48
import Derived.Test.YtekbdedpombgcaaGreatDoorMrg49
import Derived.Test.YtekbdedpombgcaaGreatDoorMrg05
import Derived.Laws.LoneSync
import Derived.OrdersHeld
namespace Go.Proofs.YtekbdedpombgcaaGreatDoor
open Go.RowKit Go.Maps

namespace Eng
set_option maxRecDepth 100000 in
theorem contains_none (A : Option Addr) (c : Nat) (f : FuncId) (p q : Array Value) (w : World) : Calls Tryz.prog 49 #[.slice A 0 c, .func (.func f) p q] w fun e w' => e = .returned (.bool false) ∧ w' = w := by
  have KI : Calls Tryz.prog 108 #[.slice A 0 c, .func (.func f) p q] w fun e w' => e = .returned (.int .i64 (-1)) ∧ w' = w := by
    go_enter Tryz.func108, Tryz.ntmps108
    go_wp2_with fail
    refine wp_loop_rounds 1 ?_
    rw [rounds_succ]
    go_wp2_with fail
    go_ret
    exact ⟨rfl, rfl⟩
  go_enter Tryz.func49, Tryz.ntmps49
  go_wp2_with fail
  refine KI.mono ?_
  rintro e w1 ⟨rfl, rfl⟩
  go_wp2_with fail
  go_ret
  exact ⟨rfl, rfl⟩
theorem looked_any (g : Nat) (z : Int) (w : World) (hc : w.cell? ⟨g, 12, none⟩ = some (.int .i64 z)) (hz : w.frozen? ⟨g, 12, none⟩ = false) :
    Calls Tryz.prog 24 #[.pointer (some ⟨g, 12, none⟩), .int .i64 1] w fun e w' => ∃ v : Int, e = .returned (.int .i64 v) ∧ w.setCell ⟨g, 12, none⟩ (.int .i64 v) = w' := by
  have hadd := run_call_add (P := Tryz.prog) Tryz.func61 (by kernel_rfl) (by kernel_rfl) (by kernel_rfl) .i64 (by kernel_rfl) (y := 1) (s := IntKind.i64.wrap (z + 1)) hc hz (by simp [go_sem])
  go_enter Tryz.func24, Tryz.ntmps24
  go_wp2
  go_ret
  exact ⟨_, rfl, rfl⟩
/-- An op in a row of one. -/
structure OpAt (w : World) (ob : Nat) (kA : Option Addr) (kc : Nat) (k : List UInt8) (vA : Option Addr) (vc : Nat) (v : List UInt8) : Prop where
  row : w.heap[ob]? = some (.cells #[.slice kA k.length kc, .bool false, .slice vA v.length vc] 36)
  kr : RdB w w.heap.size kA k
  vr : RdB w w.heap.size vA v
section
variable {w w' W : World} {ob kc vc : Nat} {kA vA : Option Addr} {k v : List UInt8}
theorem OpAt.below (h : OpAt w ob kA kc k vA vc v) (hb : Below w.heap.size w w') : OpAt w' ob kA kc k vA vc v :=
  ⟨(hb.block ob (Array.getElem?_eq_some_iff.1 h.row).1).trans h.row, (h.kr.below hb (Nat.le_refl _)).more hb.size, (h.vr.below hb (Nat.le_refl _)).more hb.size⟩
theorem three_cells {bx : Nat} {a b c : Value} {T : TypeId} (h : w.heap[bx]? = some (.cells #[a, b, c] T)) : w.cell? ⟨bx, 0, none⟩ = some a ∧ w.cell? ⟨bx, 1, none⟩ = some b ∧ w.cell? ⟨bx, 2, none⟩ = some c :=
  ⟨by rw [cell_of_row w bx 0 _ _ (0, 0) h]; rfl, by rw [cell_of_row w bx 1 _ _ (0, 0) h]; rfl, by rw [cell_of_row w bx 2 _ _ (0, 0) h]; rfl⟩
theorem op_held {bx : Nat} {a b c : Value} {T : TypeId} (h : w.heap[bx]? = some (.cells #[a, b, c] T)) (hb : Below w.heap.size w W) : W.cell? ⟨bx, 0, none⟩ = some a ∧ W.cell? ⟨bx, 2, none⟩ = some c ∧ Below w.heap.size w W := by
  have e := three_cells ((hb.block bx (Array.getElem?_eq_some_iff.1 h).1).trans h)
  exact ⟨e.1, e.2.2, hb⟩
/-- One op as bytes. -/
def enc1 (k v : List UInt8) : List UInt8 := Cod.number 1 ++ Cod.number 0 ++ Cod.text k ++ Cod.text v
theorem rdbs4 (b0 b1 b2 b3 : Bs) (h0 : RdB w w.heap.size b0.A b0.l) (h1 : RdB w w.heap.size b1.A b1.l) (h2 : RdB w w.heap.size b2.A b2.l) (h3 : RdB w w.heap.size b3.A b3.l) :
    RdBs (w.alloc (.cells #[.slice b0.A b0.l.length b0.c, .slice b1.A b1.l.length b1.c, .slice b2.A b2.l.length b2.c, .slice b3.A b3.l.length b3.c] 34)) (w.alloc (.cells #[.slice b0.A b0.l.length b0.c, .slice b1.A b1.l.length b1.c, .slice b2.A b2.l.length b2.c, .slice b3.A b3.l.length b3.c] 34)).heap.size (some ⟨w.heap.size, 0, none⟩) [b0, b1, b2, b3] := by
  obtain ⟨X, hX⟩ : ∃ X, X = w.alloc (.cells #[.slice b0.A b0.l.length b0.c, .slice b1.A b1.l.length b1.c, .slice b2.A b2.l.length b2.c, .slice b3.A b3.l.length b3.c] 34) := ⟨_, rfl⟩
  have hb : Below w.heap.size w X := by rw [hX]; exact (Below.refl _ _).alloc (Nat.le_refl _) _
  have hx : X.heap[w.heap.size]? = some (.cells #[.slice b0.A b0.l.length b0.c, .slice b1.A b1.l.length b1.c, .slice b2.A b2.l.length b2.c, .slice b3.A b3.l.length b3.c] 34) := by rw [hX]; exact heap_alloc_new w _
  rw [← hX]
  refine ⟨RdS.of (f := Bs.cells) (n := 1) (fun _ => rfl) w.heap.size 0 (Array.getElem?_eq_some_iff.1 hx).1 (fun i hi j u hu => ?_), fun b hb2 => ?_⟩
  · have hj : j = 0 := by
      rcases j with _ | j
      · rfl
      · simp [Bs.cells] at hu
    subst hj
    rw [cell_of_row X w.heap.size _ _ _ (0, 0) hx]
    simp only [List.length_cons, List.length_nil] at hi
    have : i = 0 ∨ i = 1 ∨ i = 2 ∨ i = 3 := by omega
    rcases this with rfl | rfl | rfl | rfl <;> simpa [Bs.cells] using hu
  · simp only [List.mem_cons, List.not_mem_nil, or_false] at hb2
    rcases hb2 with rfl | rfl | rfl | rfl
    · exact (h0.below hb (Nat.le_refl _)).more hb.size
    · exact (h1.below hb (Nat.le_refl _)).more hb.size
    · exact (h2.below hb (Nat.le_refl _)).more hb.size
    · exact (h3.below hb (Nat.le_refl _)).more hb.size
theorem concat4 (b0 b1 b2 b3 : Bs) (h0 : RdB w w.heap.size b0.A b0.l) (h1 : RdB w w.heap.size b1.A b1.l) (h2 : RdB w w.heap.size b2.A b2.l) (h3 : RdB w w.heap.size b3.A b3.l) {L : List UInt8} (hL : b0.l ++ b1.l ++ b2.l ++ b3.l = L) (hl : L.length ≤ 70000000000) :
    Calls Tryz.prog 113 #[.slice (some ⟨w.heap.size, 0, none⟩) 4 4] (w.alloc (.cells #[.slice b0.A b0.l.length b0.c, .slice b1.A b1.l.length b1.c, .slice b2.A b2.l.length b2.c, .slice b3.A b3.l.length b3.c] 34)) fun e w' => ∃ A c, e = .returned (.slice A L.length c) ∧ Own w' w.heap.size 5 A c L ∧ Below w.heap.size w w' := by
  have e : cat [b0, b1, b2, b3] = L := by rw [← hL]; simp [cat]
  have K := concat_any (some ⟨w.heap.size, 0, none⟩) 4 [b0, b1, b2, b3] _ (rdbs4 b0 b1 b2 b3 h0 h1 h2 h3) (by simp) (by rw [e]; omega)
  rw [e] at K
  refine K.mono ?_
  rintro e w' ⟨A, c, rfl, ho, hb⟩
  exact ⟨A, c, rfl, ho.mono (by simp), ((Below.refl _ _).alloc (Nat.le_refl _) _).trans (hb.mono (by simp))⟩
end
end Eng
end Go.Proofs.YtekbdedpombgcaaGreatDoor

namespace Go.Proofs.YtekbdedpombgcaaGreatDoor
open Go.RowKit Go.Maps

namespace Eng
/-- Behind one op: the engine, its book, the one record in memory. -/
structure At1 (w0 : World) (base g : Nat) (a b c d : Int) (ge tm hm : Nat) (hd : Nd) (lg : Option Addr) (gk : Nat) (rc : List UInt8 × Int × Bool × List UInt8) (w : World) : Prop where
  en : w.heap[ge]? = some (enObj g a b c d lg (some ⟨gk, 0, none⟩) hd.g tm hm 1 false 0)
  book : w.heap[gk]? = some (Ver.bkObj g pB.2 none [] 0 0 1 false)
  sk : ∃ n : Nd, n.r.core = rc ∧ SkAt base hd [n] (Sk.F [n]) w
  geb : base ≤ ge
  bel : Below base w0 w
section
variable {w0 w w' W w3 : World} {base g : Nat} {a b c d : Int} {bx ge tm hm gk : Nat} {hd : Nd} {lg : Option Addr}
theorem At.put (h : At w0 base g a b c d bx ge tm hm hd lg (some ⟨gk, 0, none⟩) 0 W) (hb3 : Below base W w3) {n : Nd} {rc : List UInt8 × Int × Bool × List UInt8} (hn : n.r.core = rc) (hsk : SkAt base hd [n] (Sk.F [n]) w3)
    (hfr : ∀ k, k < W.heap.size → (¬ ∃ cs fr, W.heap[k]? = some (Obj.cells cs 161 fr)) → k ≠ hd.g → w3.heap[k]? = W.heap[k]?) :
    w3.heap[ge]? = some (enObj g a b c d lg (some ⟨gk, 0, none⟩) hd.g tm hm 0 false 0) ∧ At1 w0 base g a b c d ge tm hm hd lg gk rc (w3.setCell ⟨ge, 9, none⟩ (.int .i64 1)) := by
  have hli : Sto.Tag W hd.g 91 := by
    obtain ⟨_, _, e⟩ := h.sk.list
    exact ⟨_, _, e⟩
  have keep : ∀ (k : Nat) (cs : Array Value) (T : TypeId) (fr : Nat × Nat), W.heap[k]? = some (.cells cs T fr) → T ≠ 161 → T ≠ 91 → w3.heap[k]? = some (.cells cs T fr) := fun k cs T fr e h1 h2 =>
    (hfr k (Array.getElem?_eq_some_iff.1 e).1 (by rintro ⟨cs', fr', e'⟩; rw [e] at e'; injection e' with e'; injection e' with _ e' _; exact h1 e') (Sto.Tag.ne ⟨_, _, e⟩ hli h2)).trans e
  have e1 := keep _ _ _ _ h.en (by decide) (by decide)
  have e2 := keep _ _ _ _ (h.book gk rfl) (by decide) (by decide)
  refine ⟨e1, by have e := e1; unfold enObj at e; exact (en_set e _).2.2.1, (heap_setCell_other _ ⟨ge, 9, none⟩ gk _ (Sto.Tag.ne ⟨_, _, e2⟩ ⟨_, _, e1⟩ (by decide))).trans e2, ⟨n, hn, hsk.other e1 h.geb (by decide) (by decide) (by decide) (by decide)⟩, h.geb, (h.bel.trans hb3).setCell h.geb _⟩
end
/-- Put leaves blocks that are none of the list's. -/
theorem put_held {w W : World} {hg bx ge : Nat} {a b c : Value} {T U : TypeId} {cs : Array Value} {hd : Nat} (hfr : ∀ k, k < w.heap.size → (¬ ∃ cs fr, w.heap[k]? = some (Obj.cells cs 161 fr)) → k ≠ hd → W.heap[k]? = w.heap[k]?) (hl : Sto.Tag w hd 91)
    (h : w.heap[bx]? = some (.cells #[a, b, c] T)) (he : w.heap[ge]? = some (.cells cs U)) (h7 : cs[7]? = some (.pointer (some ⟨hg, 0, none⟩))) (hT : T ≠ 161 ∧ T ≠ 91) (hU : U ≠ 161 ∧ U ≠ 91) : W.cell? ⟨bx, 0, none⟩ = some a ∧ W.cell? ⟨bx, 1, none⟩ = some b ∧ W.cell? ⟨bx, 2, none⟩ = some c ∧ W.cell? ⟨ge, 7, none⟩ = some (.pointer (some ⟨hg, 0, none⟩)) := by
  have keep : ∀ (k : Nat) (cs : Array Value) (T : TypeId) (fr : Nat × Nat), w.heap[k]? = some (.cells cs T fr) → (T ≠ 161 ∧ T ≠ 91) → W.heap[k]? = some (.cells cs T fr) := fun k cs T fr e h1 =>
    (hfr k (Array.getElem?_eq_some_iff.1 e).1 (by rintro ⟨cs', fr', e'⟩; rw [e] at e'; injection e' with e'; injection e' with _ e' _; exact h1.1 e') (Sto.Tag.ne ⟨_, _, e⟩ hl h1.2)).trans e
  have e := three_cells (keep _ _ _ _ h hT)
  exact ⟨e.1, e.2.1, e.2.2, by rw [cell_of_row W ge 7 _ _ (0, 0) (keep _ _ _ _ he hU)]; exact h7⟩
theorem At.list_tag {w0 w : World} {base g : Nat} {a b c d : Int} {bx ge tm hm : Nat} {hd : Nd} {lg bk : Option Addr} {last : Int} (h : At w0 base g a b c d bx ge tm hm hd lg bk last w) : Sto.Tag w hd.g 91 := by
  obtain ⟨_, _, e⟩ := h.sk.list
  exact ⟨_, _, e⟩
theorem rem_held {w W : World} {bx ge : Nat} {a b c : Value} {T U : TypeId} {cs : Array Value} {hg : Nat} (h : w.heap[bx]? = some (.cells #[a, b, c] T)) (he : w.heap[ge]? = some (.cells cs U)) (h7 : cs[7]? = some (.pointer (some ⟨hg, 0, none⟩))) (hb : Below w.heap.size w W) : W.cell? ⟨bx, 0, none⟩ = some a ∧ W.cell? ⟨bx, 1, none⟩ = some b ∧ W.cell? ⟨bx, 2, none⟩ = some c ∧ W.cell? ⟨ge, 7, none⟩ = some (.pointer (some ⟨hg, 0, none⟩)) := by
  have e := three_cells ((hb.block bx (Array.getElem?_eq_some_iff.1 h).1).trans h)
  exact ⟨e.1, e.2.1, e.2.2, by rw [cell_of_row W ge 7 _ _ (0, 0) ((hb.block ge (Array.getElem?_eq_some_iff.1 he).1).trans he)]; exact h7⟩
set_option maxHeartbeats 4000000 in
set_option maxRecDepth 100000 in
theorem remember_one {w0 w : World} {base g : Nat} {a b c d : Int} {bx ge tm hm gk : Nat} {hd : Nd} {lg : Option Addr} (h : At w0 base g a b c d bx ge tm hm hd lg (some ⟨gk, 0, none⟩) 0 w) {ob kc vc : Nat} {kA vA : Option Addr} {k v : List UInt8} (ho : OpAt w ob kA kc k vA vc v) (hk : 1 ≤ k.length ∧ k.length ≤ 512) (hv : v.length ≤ 4096) :
    Calls Tryz.prog 19 #[.pointer (some ⟨ge, 0, none⟩), .slice (some ⟨ob, 0, none⟩) 1 1, .int .i64 1, .int .i64 0] w fun e w' => e = .returned (.tuple #[]) ∧ At1 w0 base g a b c d ge tm hm hd lg gk (k, 1, false, v) w' := by
  have H := Lib.hid h
  have HO := Lib.hid ho
  have HK := Lib.hid hk
  have HV := Lib.hid hv
  obtain ⟨r0, r1, r2⟩ := three_cells ho.row
  clear h ho hk hv
  go_enter Tryz.func19, Tryz.ntmps19
  go_wp2_with fail
  refine wp_loop_rounds 2 ?_
  rw [rounds_succ]
  go_wp2_with fail
  refine (contains_none _ _ _ _ _ _).mono ?_
  rintro e w1 ⟨rfl, he⟩
  rw [he]
  clear he w1
  obtain ⟨W, hW⟩ : ∃ W, W = w.alloc (.cells #[.slice kA k.length kc, .bool false, .slice vA v.length vc] 36) := ⟨_, rfl⟩
  have hb : Below w.heap.size w W := by rw [hW]; exact (Below.refl _ _).alloc (Nat.le_refl _) _
  have HROW : Hid (W.heap[w.heap.size]? = some (.cells #[.slice kA k.length kc, .bool false, .slice vA v.length vc] 36)) := Lib.hid (by rw [hW]; exact heap_alloc_new w _)
  have HW := Lib.hid (H.out.below hb)
  have HD := Lib.hid (HW.out.below (Below.refl _ _).drew)
  have HOD := Lib.hid ((HO.out.below hb).below (Below.refl _ _).drew)
  rw [← hW]
  clear hb hW r0 r1 r2
  go_upto_region 5 with fail
  have HRD : Hid (W.drew.heap[w.heap.size]? = some (.cells #[.slice kA k.length kc, .bool false, .slice vA v.length vc] 36)) := HROW
  go_region_held (fun X => X.cell? ⟨w.heap.size, 0, none⟩ = some (.slice kA k.length kc) ∧ X.cell? ⟨w.heap.size, 1, none⟩ = some (.bool false) ∧ X.cell? ⟨w.heap.size, 2, none⟩ = some (.slice vA v.length vc) ∧ X.cell? ⟨ge, 7, none⟩ = some (.pointer (some ⟨hd.g, 0, none⟩)))
    (first | exact rem_held HROW.out HW.out.en rfl (Below.refl _ _).drew | exact put_held hfr HD.out.list_tag HRD.out HD.out.en rfl (by decide) (by decide))
    (first
      | (go_at_call 50; (refine (sput_any base hd [] ⟨kA, kc, k, 1, false, vA, vc, v⟩ 0 (by decide) (by decide) (by simp) W.drew HD.out.sk HOD.out.kr HOD.out.vr (by have := HK.out; simp only; omega) (by have := HV.out; simp only; omega) (by unfold Tb.right; have := HK.out; have := HV.out; simp; omega) (fun i hi => absurd hi (by simp))).mono ?_); rintro e w3 ⟨rfl, hb3, n, hn, hsk, hfr⟩))
  have hP := HD.out.put hb3 hn hsk hfr
  have HP := Lib.hid hP.2
  have f9 : w3.frozen? ⟨ge, 9, none⟩ = false := frozen_of_row w3 ge 9 _ _ hP.1
  have c9 : w3.cell? ⟨ge, 9, none⟩ = some (.int .i64 0) := by
    have e := hP.1
    unfold enObj at e
    rw [cell_of_row w3 ge 9 _ _ (0, 0) e]; rfl
  clear hP hb3 hn hsk hfr
  go_wp2_with fail
  rw [rounds_succ]
  go_wp2_with fail
  go_end0
  exact ⟨rfl, HP.out⟩
end Eng
end Go.Proofs.YtekbdedpombgcaaGreatDoor
