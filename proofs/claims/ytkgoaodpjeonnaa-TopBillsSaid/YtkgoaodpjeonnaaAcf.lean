/- The contract of does: a step on a copy, taken or not. -/
import Derived.Test.YtkgoaodpjeonnaaAce
namespace Go.Proofs.Ytkgoaodpjeonnaa
open Go.RowKit

/-- What the step's closure leaves behind: the copy with one period. -/
def StepR (B : Nat) (day bp cr : Int) (p : Per) (w : World) (gb : Nat) : Prop := ∃ gq c, AB w gb day bp cr (some ⟨gq, 0, none⟩) 1 c ∧ PB w gq p ∧ B ≤ gq ∧ gq ≠ gb
def CopH (W : World) (H : World → Nat → Prop) (e : Ending) (w' : World) : Prop := ∃ gb, e = .returned (.pointer (some ⟨gb, 0, none⟩)) ∧ W.heap.size ≤ gb ∧ gb < w'.heap.size ∧ H w' gb ∧ Below W.heap.size W w'
def StepOk (B : Nat) (c0 c1 c2 paid mcr cash day bp cr : Int) (p : Per) (gb : Nat) (W : World) (e : Ending) (w' : World) : Prop :=
  e = .returned (.tuple #[.agg #[.int .i64 c0, .int .i64 c1, .int .i64 c2, .int .i64 paid, .int .i64 mcr, .int .i64 cash], .int .i64 0]) ∧ StepR B day bp cr p w' gb ∧ Below B W w'
/-- What does comes to. -/
def DoesOk (ga : Nat) (c0 c1 c2 paid mcr cash day bp cr : Int) (p : Per) (w : World) (e : Ending) (w' : World) : Prop :=
  e = .returned (.tuple #[.agg #[.int .i64 c0, .int .i64 c1, .int .i64 c2, .int .i64 paid, .int .i64 mcr, .int .i64 cash], .int .i64 0]) ∧ StepR w.heap.size day bp cr p w' ga ∧ But [ga] w w'
theorem results_cc {P : Program} {fn : Func} {p q : Tmp} {ty tz : TypeId} (h : fn.results = #[.cell p ty, .cell q tz]) (tmps : Array Value) (w : World) (g g2 : Nat) (t : TypeId) (cs : Array Value) (fr : Nat × Nat) (d : TypeDesc) (v : Value)
    (hp : tmps.getD p undef = .pointer (some ⟨g, 0, none⟩)) (hg : w.heap[g]? = some (.cells cs t fr)) (hu : P.underlying ty = some d) (hd : (match d, hu with | .struct _, _ => true | .array _ _, _ => true | _, _ => false) = true) (hs : (P.info? ty).map (fun x => x.size) = some cs.size)
    (hq : tmps.getD q undef = .pointer (some ⟨g2, 0, none⟩)) (hv : (loadVar tz ⟨g2, 0, none⟩).run P w = .ok v w) :
    (results fn tmps).run P w = .ok (.tuple #[.agg cs, v]) w := by
  have h1 := results_cell_row (P := P) (fn := { fn with results := #[.cell p ty] }) (p := p) (ty := ty) rfl tmps w g t cs fr d hp hg hu hd hs
  have h2 : ((asAddr (tmps.getD p undef)).run P w).andThen (fun a w1 => (loadVar ty a).run P w1) = .ok (.agg cs) w := by
    simpa [results] using h1
  rw [hp] at h2
  have h3 : (loadVar ty ⟨g, 0, none⟩).run P w = .ok (.agg cs) w := by simpa [asAddr] using h2
  have hp2 := hp
  have hq2 := hq
  simp at hp2 hq2
  simp [results, h, asAddr, hp2, h3, hq2, hv]
theorem boxes_me (w : World) : MB ((w.alloc (.cells #[.int .i64 0, .int .i64 0, .int .i64 0, .int .i64 0, .int .i64 0, .int .i64 0] 38)).alloc (.cells #[.int .i64 0] 29)) w.heap.size 0 0 0 0 0 0 ∧
    EB ((w.alloc (.cells #[.int .i64 0, .int .i64 0, .int .i64 0, .int .i64 0, .int .i64 0, .int .i64 0] 38)).alloc (.cells #[.int .i64 0] 29)) (w.heap.size + 1) 0 ∧
    Below w.heap.size w ((w.alloc (.cells #[.int .i64 0, .int .i64 0, .int .i64 0, .int .i64 0, .int .i64 0, .int .i64 0] 38)).alloc (.cells #[.int .i64 0] 29)) := by
  refine ⟨?_, ?_, ((Below.refl _ _).alloc (Nat.le_refl _) _).alloc (by simp) _⟩
  · unfold MB; rw [Below.heap_alloc _ _ _ (by simp)]; exact heap_alloc_new w _
  · unfold EB
    have := heap_alloc_new (w.alloc (.cells #[.int .i64 0, .int .i64 0, .int .i64 0, .int .i64 0, .int .i64 0, .int .i64 0] 38)) (.cells #[.int .i64 0] 29)
    simpa using this
/-- The move and the error stored where they stood, behind a draw. -/
theorem stored_drew {X : World} {gm ge : Nat} {d0 d1 d2 d3 d4 d5 x : Int} (hm : MB X gm d0 d1 d2 d3 d4 d5) (he : EB X ge x) (h1 : gm ≠ ge) (c0 c1 c2 paid mcr cash y : Int) :
    ∃ Y : World, ((((((((X.setCell ⟨gm, 0, none⟩ (.int .i64 c0)).setCell ⟨gm, 1, none⟩ (.int .i64 c1)).setCell ⟨gm, 2, none⟩ (.int .i64 c2)).setCell ⟨gm, 3, none⟩ (.int .i64 paid)).setCell ⟨gm, 4, none⟩ (.int .i64 mcr)).setCell ⟨gm, 5, none⟩ (.int .i64 cash)).setCell ⟨ge, 0, none⟩ (.int .i64 y))).drew = Y ∧ MB Y gm c0 c1 c2 paid mcr cash ∧ EB Y ge y ∧ But [gm, ge] X Y := by
  obtain ⟨s1, s2, s3⟩ := stored_me hm he h1 c0 c1 c2 paid mcr cash y
  generalize (((((((X.setCell ⟨gm, 0, none⟩ (.int .i64 c0)).setCell ⟨gm, 1, none⟩ (.int .i64 c1)).setCell ⟨gm, 2, none⟩ (.int .i64 c2)).setCell ⟨gm, 3, none⟩ (.int .i64 paid)).setCell ⟨gm, 4, none⟩ (.int .i64 mcr)).setCell ⟨gm, 5, none⟩ (.int .i64 cash)).setCell ⟨ge, 0, none⟩ (.int .i64 y)) = Z at *
  exact ⟨_, rfl, s1, s2, s3.drew⟩
theorem errno_load {w : World} {g : Nat} {x : Int} (h : EB w g x) : (loadVar 29 ⟨g, 0, none⟩).run Try.prog w = .ok (.int .i64 x) w := by
  have hc := h.cell
  simp [go_sem, hc]
theorem move_size : (Try.prog.info? 38).map (fun x => x.size) = some 6 := by kernel_rfl
/-- The move, the error and the account stored. -/
theorem does_stored {w2 : World} {gm ge ga gq cq n c : Nat} {day bp cr day' bp' cr' : Int} {A : Option Addr} {p' : Per} (hm : MB w2 gm 0 0 0 0 0 0) (he : EB w2 ge 0) (ha : AB w2 ga day bp cr A n c) (hq : PB w2 gq p') (h1 : gm ≠ ge) (h2 : ga ≠ gm) (h3 : ga ≠ ge) (h4 : gq ≠ gm) (h5 : gq ≠ ge) (h6 : gq ≠ ga) (c0 c1 c2 paid mcr cash : Int) :
    ∃ X : World, ((((((((((((w2.setCell ⟨gm, 0, none⟩ (.int .i64 c0)).setCell ⟨gm, 1, none⟩ (.int .i64 c1)).setCell ⟨gm, 2, none⟩ (.int .i64 c2)).setCell ⟨gm, 3, none⟩ (.int .i64 paid)).setCell ⟨gm, 4, none⟩ (.int .i64 mcr)).setCell ⟨gm, 5, none⟩ (.int .i64 cash)).setCell ⟨ge, 0, none⟩ (.int .i64 0)).setCell ⟨ga, 0, none⟩ (.int .i64 day')).setCell ⟨ga, 1, none⟩ (.int .i64 bp')).setCell ⟨ga, 2, none⟩ (.int .i64 cr')).setCell ⟨ga, 3, none⟩ (.slice (some ⟨gq, 0, none⟩) 1 cq)).setCell ⟨ga, 4, none⟩ (.slice none 0 0)) = X ∧ MB X gm c0 c1 c2 paid mcr cash ∧ EB X ge 0 ∧ AB X ga day' bp' cr' (some ⟨gq, 0, none⟩) 1 cq ∧ PB X gq p' ∧ But [gm, ge, ga] w2 X := by
  obtain ⟨s1, s2, s3⟩ := stored_me hm he h1 c0 c1 c2 paid mcr cash 0
  have ha' : AB (((((((w2.setCell ⟨gm, 0, none⟩ (.int .i64 c0)).setCell ⟨gm, 1, none⟩ (.int .i64 c1)).setCell ⟨gm, 2, none⟩ (.int .i64 c2)).setCell ⟨gm, 3, none⟩ (.int .i64 paid)).setCell ⟨gm, 4, none⟩ (.int .i64 mcr)).setCell ⟨gm, 5, none⟩ (.int .i64 cash)).setCell ⟨ge, 0, none⟩ (.int .i64 0)) ga day bp cr A n c := ((((((ha.other (a := ⟨gm, 0, none⟩) h2 _).other (a := ⟨gm, 1, none⟩) h2 _).other (a := ⟨gm, 2, none⟩) h2 _).other (a := ⟨gm, 3, none⟩) h2 _).other (a := ⟨gm, 4, none⟩) h2 _).other (a := ⟨gm, 5, none⟩) h2 _).other (a := ⟨ge, 0, none⟩) h3 _
  have hq' : PB (((((((w2.setCell ⟨gm, 0, none⟩ (.int .i64 c0)).setCell ⟨gm, 1, none⟩ (.int .i64 c1)).setCell ⟨gm, 2, none⟩ (.int .i64 c2)).setCell ⟨gm, 3, none⟩ (.int .i64 paid)).setCell ⟨gm, 4, none⟩ (.int .i64 mcr)).setCell ⟨gm, 5, none⟩ (.int .i64 cash)).setCell ⟨ge, 0, none⟩ (.int .i64 0)) gq p' := ((((((hq.other (a := ⟨gm, 0, none⟩) h4 _).other (a := ⟨gm, 1, none⟩) h4 _).other (a := ⟨gm, 2, none⟩) h4 _).other (a := ⟨gm, 3, none⟩) h4 _).other (a := ⟨gm, 4, none⟩) h4 _).other (a := ⟨gm, 5, none⟩) h4 _).other (a := ⟨ge, 0, none⟩) h5 _
  generalize (((((((w2.setCell ⟨gm, 0, none⟩ (.int .i64 c0)).setCell ⟨gm, 1, none⟩ (.int .i64 c1)).setCell ⟨gm, 2, none⟩ (.int .i64 c2)).setCell ⟨gm, 3, none⟩ (.int .i64 paid)).setCell ⟨gm, 4, none⟩ (.int .i64 mcr)).setCell ⟨gm, 5, none⟩ (.int .i64 cash)).setCell ⟨ge, 0, none⟩ (.int .i64 0)) = Y at *
  have hk : ∀ g, g ≠ ga → ((((((Y.setCell ⟨ga, 0, none⟩ (.int .i64 day')).setCell ⟨ga, 1, none⟩ (.int .i64 bp')).setCell ⟨ga, 2, none⟩ (.int .i64 cr')).setCell ⟨ga, 3, none⟩ (.slice (some ⟨gq, 0, none⟩) 1 cq)).setCell ⟨ga, 4, none⟩ (.slice none 0 0))).heap[g]? = Y.heap[g]? := fun g hg => by
    repeat rw [Below.heap_setCell _ _ _ _ hg]
  refine ⟨_, rfl, s1.keep (hk _ (Ne.symm h2)), s2.keep (hk _ (Ne.symm h3)), ?_, hq'.keep (hk _ h6), ?_⟩
  · have k1 := heap_setCell_same Y ga 0 _ _ (.int .i64 day') ha'
    have k2 := heap_setCell_same _ ga 1 _ _ (.int .i64 bp') k1
    have k3 := heap_setCell_same _ ga 2 _ _ (.int .i64 cr') k2
    have k4 := heap_setCell_same _ ga 3 _ _ (.slice (some ⟨gq, 0, none⟩) 1 cq) k3
    have k5 := heap_setCell_same _ ga 4 _ _ (.slice none 0 0) k4
    unfold AB
    simpa using k5
  · have hb : But [gm, ge, ga] w2 Y := s3.more (by intro k hk; simp at hk; rcases hk with rfl | rfl <;> simp)
    have hm1 : ga ∈ [gm, ge, ga] := by simp
    exact ((((hb.setCell (p := ⟨ga, 0, none⟩) hm1 _).setCell (p := ⟨ga, 1, none⟩) hm1 _).setCell (p := ⟨ga, 2, none⟩) hm1 _).setCell (p := ⟨ga, 3, none⟩) hm1 _).setCell (p := ⟨ga, 4, none⟩) hm1 _
set_option maxHeartbeats 2000000 in
set_option maxRecDepth 100000 in
theorem does_ok (K : Nat) (cb : Array Value) (hen : ∀ args w, (callFunc K args).run Try.prog w = .ok (.enter K args) w) (ga : Nat) (day bp cr : Int) (A : Option Addr) (n c : Nat) (H : World → Nat → Prop) (c0 c1 c2 paid mcr cash day' bp' cr' : Int) (p' : Per) (w : World) (ha : AB w ga day bp cr A n c)
    (hcop : ∀ W, Below w.heap.size w W → w.heap.size + 2 ≤ W.heap.size → Calls Try.prog 34 #[.pointer (some ⟨ga, 0, none⟩)] W (CopH W H))
    (hstep : ∀ W gb, w.heap.size + 2 ≤ gb → Below w.heap.size w W → gb < W.heap.size → H W gb → Calls Try.prog K (#[.pointer (some ⟨gb, 0, none⟩)] ++ cb) W (StepOk (w.heap.size + 2) c0 c1 c2 paid mcr cash day' bp' cr' p' gb W)) :
    Calls Try.prog 16 #[.pointer (some ⟨ga, 0, none⟩), .func (.func K) #[] cb] w (DoesOk ga c0 c1 c2 paid mcr cash day' bp' cr' p' w) := by
  have hmf : ∀ (fn : Fn) (first cap : Array Value) (w : World), (Instr.makeFunc fn first cap).run Try.prog w = .ok (.func fn first cap) w := fun _ _ _ _ => rfl
  have HCOP := Lib.hid hcop
  have HSTEP := Lib.hid hstep
  have HA := Lib.hid ha
  clear hcop hstep ha
  obtain ⟨hm0, he0, hb0⟩ := boxes_me w
  have HM0 := Lib.hid hm0; have HE0 := Lib.hid he0; have HB0 := Lib.hid hb0
  clear hm0 he0 hb0
  go_enter_defers Try.func16, Try.ntmps16
  go_wp2_with fail
  refine (HCOP.out _ HB0.out (by simp)).mono ?_
  rintro e w1 ⟨gb, rfl, hgb, hlt, hH, hb1⟩
  have HM1 := Lib.hid (HM0.out.keep (hb1.block _ HM0.out.lt)); have HE1 := Lib.hid (HE0.out.keep (hb1.block _ HE0.out.lt))
  have HB1 := Lib.hid (HB0.out.trans (hb1.mono HB0.out.size))
  have HGB : Hid (w.heap.size + 2 ≤ gb) := Lib.hid (by simpa using hgb)
  have HH := Lib.hid hH
  have HLT := Lib.hid hlt
  clear hgb hlt hH hb1
  go_wp2_with fail
  refine (HSTEP.out _ _ HGB.out HB1.out HLT.out HH.out).mono ?_
  rintro e w2 ⟨rfl, hR, hb2⟩
  obtain ⟨gq, cq, hab, hpb, hq1, hq2⟩ := hR
  have hzz := HB1.out.size
  have hl1 := HM1.out.lt
  have hl2 := HE1.out.lt
  have HM2 := Lib.hid (HM1.out.keep (hb2.block _ (by omega))); have HE2 := Lib.hid (HE1.out.keep (hb2.block _ (by omega)))
  have HA2 := Lib.hid (HA.out.keep ((hb2.block _ (Nat.lt_of_lt_of_le HA.out.lt (by omega))).trans (HB1.out.block _ HA.out.lt)))
  have HB2 : Hid (Below w.heap.size w w2) := Lib.hid (HB1.out.trans (hb2.mono (by omega)))
  have HAB := Lib.hid hab; have HPB := Lib.hid hpb
  have HQ := Lib.hid (And.intro hq1 hq2)
  clear hab hpb hq1 hq2 hb2 hzz hl1 hl2
  obtain ⟨m0, m1, m2, m3, m4, m5, mf⟩ := HM2.out.cells
  have mf0 := mf 0; have mf1 := mf 1; have mf2 := mf 2; have mf3 := mf 3; have mf4 := mf 4; have mf5 := mf 5
  have e0 := HE2.out.cell
  have ef := HE2.out.frz
  clear mf
  have HS := Lib.hid (stored_me HM2.out HE2.out (by omega) c0 c1 c2 paid mcr cash 0)
  obtain ⟨b0, b1, b2, b3, b4, bf⟩ := HAB.out.cells
  obtain ⟨a0, a1, a2, a3, a4, af⟩ := HA2.out.cells
  have af0 := af 0; have af1 := af 1; have af2 := af 2; have af3 := af 3; have af4 := af 4
  have g1 : gb ≠ w.heap.size := by have := HGB.out; omega
  have g2 : gb ≠ w.heap.size + 1 := by have := HGB.out; omega
  have g3 : ga ≠ w.heap.size := Nat.ne_of_lt HA.out.lt
  have g4 : ga ≠ w.heap.size + 1 := by have := HA.out.lt; omega
  have g5 : ga ≠ gb := by have := HA.out.lt; have := HGB.out; omega
  clear bf af
  have hq1 := HQ.out.1
  have hq2 := HQ.out.2
  obtain ⟨X, hX, hm, he, hac, hpb, hbut⟩ := does_stored (day' := day') (bp' := bp') (cr' := cr') (cq := cq) HM2.out HE2.out HA2.out HPB.out (by omega) g3 g4 (by omega) (by omega) (by have := HA.out.lt; omega) c0 c1 c2 paid mcr cash
  have HX := Lib.hid hX
  have HMX := Lib.hid hm; have HEX := Lib.hid he; have HAX := Lib.hid hac; have HPX := Lib.hid hpb; have HBX := Lib.hid hbut
  clear hX hm he hac hpb hbut hq1 hq2
  go_wp2_with fail
  rw [HX.out]
  clear m0 m1 m2 m3 m4 m5 mf0 mf1 mf2 mf3 mf4 mf5 e0 ef a0 a1 a2 a3 a4 b0 b1 b2 b3 b4 af0 af1 af2 af3 af4
  obtain ⟨m0, m1, m2, m3, m4, m5, mf⟩ := HMX.out.cells
  have mf0 := mf 0; have mf1 := mf 1; have mf2 := mf 2; have mf3 := mf 3; have mf4 := mf 4; have mf5 := mf 5
  have e0 := HEX.out.cell
  have ef := HEX.out.frz
  clear mf
  obtain ⟨Y, hY, hm, he, hbut⟩ := stored_drew HMX.out HEX.out (by omega) c0 c1 c2 paid mcr cash 0
  have HY := Lib.hid hY
  have HMY := Lib.hid hm; have HEY := Lib.hid he; have HBY := Lib.hid hbut
  clear hY hm he hbut
  go_region
  rw [HY.out]
  go_wp2_with fail
  refine leaves_cons (f := 35) (args := #[.pointer (some ⟨w.heap.size, 0, none⟩), .pointer (some ⟨w.heap.size + 1, 0, none⟩)]) (by simp) (by simp [go_sem]) ?_
  refine (catch_idle _ _ _).mono ?_
  rintro e u' w'' ⟨rfl, rfl, rfl⟩
  refine ⟨_, results_cc rfl _ _ w.heap.size (w.heap.size + 1) 38 #[.int .i64 c0, .int .i64 c1, .int .i64 c2, .int .i64 paid, .int .i64 mcr, .int .i64 cash] (0, 0) _ (.int .i64 0) rfl HMY.out Try.underlying38 rfl move_size rfl (errno_load HEY.out), ?_⟩
  have hz2 := HB2.out.size
  have hzX := HBX.out.size
  have hAY : AB w'' ga day' bp' cr' (some ⟨gq, 0, none⟩) 1 cq := HAX.out.keep (HBY.out.block _ HAX.out.lt (by simp; exact ⟨g3, g4⟩))
  have hPY : PB w'' gq p' := HPX.out.keep (HBY.out.block _ HPX.out.lt (by simp; have := HQ.out.1; omega))
  refine ⟨rfl, ⟨gq, cq, hAY, hPY, by have := HQ.out.1; omega, by have := HQ.out.1; have := HA.out.lt; omega⟩, ?_⟩
  refine ⟨HBY.out.os.trans (HBX.out.os.trans HB2.out.os), HBY.out.tape.trans (HBX.out.tape.trans HB2.out.tape), HBY.out.output.trans (HBX.out.output.trans HB2.out.output), by have := HBY.out.size; omega, fun k hk hn => ?_⟩
  have hk1 : k ≠ ga := by simpa using hn
  rw [HBY.out.block k (by omega) (by simp; omega), HBX.out.block k (by omega) (by simp; omega), HB2.out.block k hk]
def StepOver (B : Nat) (W : World) (e : Ending) (w' : World) : Prop := e = .panicked [{ v := .iface 29 (.int .i64 2), recovered := false }] ∧ Below B W w'
def DoesOver (w : World) (e : Ending) (w' : World) : Prop :=
  e = .returned (.tuple #[.agg #[.int .i64 0, .int .i64 0, .int .i64 0, .int .i64 0, .int .i64 0, .int .i64 0], .int .i64 2]) ∧ Below w.heap.size w w'
set_option maxHeartbeats 2000000 in
set_option maxRecDepth 100000 in
theorem does_over (K : Nat) (cb : Array Value) (hen : ∀ args w, (callFunc K args).run Try.prog w = .ok (.enter K args) w) (ga : Nat) (H : World → Nat → Prop) (w : World)
    (hcop : ∀ W, Below w.heap.size w W → w.heap.size + 2 ≤ W.heap.size → Calls Try.prog 34 #[.pointer (some ⟨ga, 0, none⟩)] W (CopH W H))
    (hstep : ∀ W gb, w.heap.size + 2 ≤ gb → Below w.heap.size w W → gb < W.heap.size → H W gb → Calls Try.prog K (#[.pointer (some ⟨gb, 0, none⟩)] ++ cb) W (StepOver (w.heap.size + 2) W)) :
    Calls Try.prog 16 #[.pointer (some ⟨ga, 0, none⟩), .func (.func K) #[] cb] w (DoesOver w) := by
  have hmf : ∀ (fn : Fn) (first cap : Array Value) (w : World), (Instr.makeFunc fn first cap).run Try.prog w = .ok (.func fn first cap) w := fun _ _ _ _ => rfl
  have HCOP := Lib.hid hcop
  have HSTEP := Lib.hid hstep
  clear hcop hstep
  obtain ⟨hm0, he0, hb0⟩ := boxes_me w
  have HM0 := Lib.hid hm0; have HE0 := Lib.hid he0; have HB0 := Lib.hid hb0
  clear hm0 he0 hb0
  go_enter_defers Try.func16, Try.ntmps16
  go_wp2_with fail
  refine (HCOP.out _ HB0.out (by simp)).mono ?_
  rintro e w1 ⟨gb, rfl, hgb, hlt, hH, hb1⟩
  have HM1 := Lib.hid (HM0.out.keep (hb1.block _ HM0.out.lt)); have HE1 := Lib.hid (HE0.out.keep (hb1.block _ HE0.out.lt))
  have HB1 := Lib.hid (HB0.out.trans (hb1.mono HB0.out.size))
  have HGB : Hid (w.heap.size + 2 ≤ gb) := Lib.hid (by simpa using hgb)
  have HH := Lib.hid hH
  have HLT := Lib.hid hlt
  clear hgb hlt hH hb1
  go_wp2_with fail
  refine (HSTEP.out _ _ HGB.out HB1.out HLT.out HH.out).mono ?_
  rintro e w2 ⟨rfl, hb2⟩
  have HM2 := Lib.hid (HM1.out.keep (hb2.block _ (by omega))); have HE2 := Lib.hid (HE1.out.keep (hb2.block _ (by omega)))
  have HB2 : Hid (Below w.heap.size w w2) := Lib.hid (HB1.out.trans (hb2.mono (by omega)))
  clear hb2
  refine leaves_cons (f := 35) (args := #[.pointer (some ⟨w.heap.size, 0, none⟩), .pointer (some ⟨w.heap.size + 1, 0, none⟩)]) (by simp) (by simp [go_sem]) ?_
  refine (catch_panicking w.heap.size (w.heap.size + 1) 0 0 0 0 0 0 0 [] w2 HM2.out HE2.out (by omega)).mono ?_
  rintro e u' w'' ⟨rfl, rfl, hmy, hey, hby⟩
  simp only [settle, List.dropWhile_nil]
  refine ⟨_, results_cc rfl _ _ w.heap.size (w.heap.size + 1) 38 #[.int .i64 0, .int .i64 0, .int .i64 0, .int .i64 0, .int .i64 0, .int .i64 0] (0, 0) _ (.int .i64 2) rfl hmy Try.underlying38 rfl move_size rfl (errno_load hey), ?_⟩
  exact ⟨rfl, HB2.out.trans (hby.below HB2.out.size (by simp))⟩
end Go.Proofs.Ytkgoaodpjeonnaa
