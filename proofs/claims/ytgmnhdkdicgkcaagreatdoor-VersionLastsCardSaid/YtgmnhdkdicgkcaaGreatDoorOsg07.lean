/- Parts of the proof, one behind the other: Contract: slices.swapRangeCmpFunc at files.; Contract: slices.rotateCmpFunc at files.; Contract: slices.insertionSortCmpFunc at files. What is asked of place.; Contract: slices.insertionSortCmpFunc at files.; Contract: slices.symMergeCmpFunc at files.; Contract: slices.symMergeCmpFunc at files: both runs of more than one element.; Contracts: slices.symMergeCmpFunc, stableCmpFunc, SortStableFunc at files.; Contract: slices.SortStableFunc at files.; Contract: slices.Delete of one file. -/
import Derived.Test.YtgmnhdkdicgkcaaGreatDoorOsg05
import Derived.Test.YtgmnhdkdicgkcaaGreatDoorOsg06
import Derived.Deep.CutRange
import Derived.Sort.LotD2
import Derived.Deep.DeepAppendRoom
namespace Go.Proofs.YtgmnhdkdicgkcaaGreatDoor
open Go.RowKit Go.Maps Go.Sort
open Lib (hid)
namespace Sym
theorem file_size : (Tryz.prog.info? 43).map (·.size) = some 6 := by kernel_rfl
set_option maxHeartbeats 2000000 in
set_option maxRecDepth 100000 in
theorem swapRange_any (fn : Value) (w0 w : World) (base g c : Nat) (d : Array Vf) (a b n : Nat) (h : Lay w0 base g c d w) (h1 : a + n ≤ b) (h2 : b + n ≤ d.size) (hd : d.size ≤ 1000000) :
   Calls Tryz.prog 211 #[.slice (some ⟨g, 0, none⟩) d.size c, .int .i64 (a : Int), .int .i64 (b : Int), .int .i64 (n : Int), fn] w fun e w' => e = .returned (.tuple #[]) ∧ Lay w0 base g c (swapR d a b n) w' := by
 have H0 := hid h
 clear h
 go_enter Tryz.func211, Tryz.ntmps211
 go_wp2_with fail
 go_loopw [10] (fun i wr => ∃ k : Nat, k ≤ n ∧ i = .int .i64 (k : Int) ∧ Hid (Lay w0 base g c (swapR d a b k) wr)) (fun i _ => n - (intOf i).toNat)
 case atStart => exact ⟨0, by omega, rfl, H0⟩
 case round =>
   obtain ⟨k, hk, rfl, HL⟩ := hrel
   by_cases hlt : k < n
   · have hlt' : (k : Int) < (n : Int) := by omega
     have HSZ : Hid ((swapR d a b k).size = d.size) := hid (swapR_size d a b k)
     have hi : a + k < (swapR d a b k).size := by rw [HSZ.out]; omega
     have hj : b + k < (swapR d a b k).size := by rw [HSZ.out]; omega
     have HN : Hid (Lay w0 base g c (swapR d a b (k + 1)) ((wr.drew.setCells g ((a + k) * 6) ((swapR d a b k)[b + k]!).cells).setCells g ((b + k) * 6) ((swapR d a b k)[a + k]!).cells)) := hid (HL.out.drew.swap hi hj)
     obtain ⟨V, hV⟩ : ∃ V, V = wr.drew := ⟨_, rfl⟩
     have hLV : Lay w0 base g c (swapR d a b k) V := by rw [hV]; exact HL.out.drew
     have r1 := hLV.rg hi
     have r2 := hLV.rg hj
     have T1 := hid (hLV.there hi)
     have T2 : Hid ((V.setCells g ((a + k) * 6) ((swapR d a b k)[b + k]!).cells).there g ((b + k) * 6) 6) := hid ((hLV.put hi _ (hLV.okk hj)).there (by simpa using hj))
     rw [← hV] at HN
     have n1 : ((swapR d a b k)[a + k]!).cells.length = 6 := rfl
     have n2 : ((swapR d a b k)[b + k]!).cells.length = 6 := rfl
     have o1 := vf_one ((swapR d a b k)[a + k]!)
     have o2 := vf_one ((swapR d a b k)[b + k]!)
     generalize ((swapR d a b k)[a + k]!).cells = cI at HN r1 T2 n1 o1
     generalize ((swapR d a b k)[b + k]!).cells = cJ at HN r2 T2 n2 o2
     have O1 := hid o1
     have O2 := hid o2
     have hy := And.intro r1 r2
     have p1 : (0 : Int) ≤ (a : Int) + (k : Int) := by omega
     have p2 : (0 : Int) ≤ (b : Int) + (k : Int) := by omega
     have b1 : (a : Int) + (k : Int) < (d.size : Int) := by omega
     have b2 : (b : Int) + (k : Int) < (d.size : Int) := by omega
     have e1 : ((a : Int) + (k : Int)).toNat = a + k := by omega
     have e2 : ((b : Int) + (k : Int)).toNat = b + k := by omega
     have u1 : IntKind.i64.wrap ((a : Int) + (k : Int)) = (a : Int) + (k : Int) := by rw [IntKind.wrap_i64]; omega
     have u2 : IntKind.i64.wrap ((b : Int) + (k : Int)) = (b : Int) + (k : Int) := by rw [IntKind.wrap_i64]; omega
     clear hi hj hLV r1 r2 o1 o2
     go_wp2_with fail
     refine wp_region_Z [4, 5, 6, 7, 14, 15, 16, 17, 18, 20, 21, 22, 23] (fun X => X.rangeAt g ((a + k) * 6) cI ∧ X.rangeAt g ((b + k) * 6) cJ) (by kernel_rfl) ?_
     rw [← hV]
     clear hV
     refine wpAnyZ_pure (i := 4) (v := ?_) rfl (by kernel_rfl) (by kernel_rfl) (by kernel_rfl) (by kernel_rfl) (fun _ _ _ h => h) (Or.inl ⟨by rfl, ?_⟩) ?_
     rotate_left
     · (intro wy hSw; go_simp; try with_reducible rfl)
     try simp only [Act.put]
     refine wpAnyZ_pure (i := 5) (v := ?_) rfl (by kernel_rfl) (by kernel_rfl) (by kernel_rfl) (by kernel_rfl) (fun _ _ _ h => h) (Or.inl ⟨by rfl, ?_⟩) ?_
     rotate_left
     · (intro wy hSw; go_simp; try with_reducible rfl)
     try simp only [Act.put]
     refine wpAnyZ_pure (i := 6) (v := ?_) rfl (by kernel_rfl) (by kernel_rfl) (by kernel_rfl) (by kernel_rfl) (fun _ _ _ h => h) (Or.inl ⟨by rfl, ?_⟩) ?_
     rotate_left
     · (intro wy hSw; go_simp; try with_reducible rfl)
     try simp only [Act.put]
     refine wpAnyZ_pure (i := 7) (v := ?_) rfl (by kernel_rfl) (by kernel_rfl) (by kernel_rfl) (by kernel_rfl) (fun _ _ _ h => h) (Or.inl ⟨by rfl, ?_⟩) ?_
     rotate_left
     · (intro wy hSw; go_simp; try with_reducible rfl)
     try simp only [Act.put]
     refine wpAnyZ_pure (i := 14) (v := ?_) rfl (by kernel_rfl) (by kernel_rfl) (by kernel_rfl) (by kernel_rfl) (fun _ _ _ h => h) (Or.inl ⟨by rfl, ?_⟩) ?_
     rotate_left
     · (intro wy hSw; go_simp; try with_reducible rfl)
     try simp only [Act.put]
     refine wpAnyZ_pure (i := 15) (v := ?_) rfl (by kernel_rfl) (by kernel_rfl) (by kernel_rfl) (by kernel_rfl) (fun _ _ _ h => h) (Or.inl ⟨by rfl, ?_⟩) ?_
     rotate_left
     · (intro wy hSw; go_simp; try with_reducible rfl)
     try simp only [Act.put]
     refine wpAnyZ_pure (i := 16) (v := ?_) rfl (by kernel_rfl) (by kernel_rfl) (by kernel_rfl) (by kernel_rfl) (fun _ _ _ h => h) (Or.inl ⟨by rfl, ?_⟩) ?_
     rotate_left
     · (intro wy hSw; go_simp; try with_reducible rfl)
     try simp only [Act.put]
     refine wpAnyZ_pure (i := 17) (v := ?_) rfl (by kernel_rfl) (by kernel_rfl) (by kernel_rfl) (by kernel_rfl) (fun _ _ _ h => h) (Or.inl ⟨by rfl, ?_⟩) ?_
     rotate_left
     · (intro wy hSw; go_simp; try with_reducible rfl)
     try simp only [Act.put]
     refine wpAnyZ_pure (i := 18) (v := ?_) rfl (by kernel_rfl) (by kernel_rfl) (by kernel_rfl) (by kernel_rfl) (fun _ _ _ h => h) (Or.inl ⟨by rfl, ?_⟩) ?_
     rotate_left
     · (intro wy hSw; go_simp; try with_reducible rfl)
     try simp only [Act.put]
     refine wpAnyZ_take (i := 0) (v := ?_) rfl (by kernel_rfl) (by kernel_rfl) (by kernel_rfl) (by kernel_rfl) (fun _ _ _ h => h) (Or.inl ⟨by rfl, ?_⟩) hy ?_
     rotate_left
     · (intro wy hSw; go_simp; try with_reducible rfl)
     try simp only [Act.put]
     refine wpAnyZ_take (i := 1) (v := ?_) rfl (by kernel_rfl) (by kernel_rfl) (by kernel_rfl) (by kernel_rfl) (fun _ _ _ h => h) (Or.inl ⟨by rfl, ?_⟩) hy ?_
     rotate_left
     · (intro wy hSw; go_simp; try with_reducible rfl)
     try simp only [Act.put]
     refine wpAnyZ_take (i := 2) (v := ?_) rfl (by kernel_rfl) (by kernel_rfl) (by kernel_rfl) (by kernel_rfl) (fun _ _ _ h => h) (Or.inl ⟨by rfl, ?_⟩) hy ?_
     rotate_left
     · (intro wy hSw; go_simp; try with_reducible rfl)
     try simp only [Act.put]
     refine wpAnyZ_take (i := 3) (v := ?_) rfl (by kernel_rfl) (by kernel_rfl) (by kernel_rfl) (by kernel_rfl) (fun _ _ _ h => h) (Or.inl ⟨by rfl, ?_⟩) hy ?_
     rotate_left
     · (intro wy hSw; go_simp; try with_reducible rfl)
     try simp only [Act.put]
     refine wpAnyZ_take (i := 8) (v := ?_) rfl (by kernel_rfl) (by kernel_rfl) (by kernel_rfl) (by kernel_rfl) (fun _ _ _ h => h) (Or.inl ⟨by rfl, ?_⟩) hy ?_
     rotate_left
     · (intro wy hSw; go_simp; try with_reducible rfl)
     try simp only [Act.put]
     refine wpAnyZ_take (i := 9) (v := ?_) rfl (by kernel_rfl) (by kernel_rfl) (by kernel_rfl) (by kernel_rfl) (fun _ _ _ h => h) (Or.inl ⟨by rfl, ?_⟩) hy ?_
     rotate_left
     · (intro wy hSw; go_simp; try with_reducible rfl)
     try simp only [Act.put]
     refine wpAnyZ_take (i := 10) (v := ?_) rfl (by kernel_rfl) (by kernel_rfl) (by kernel_rfl) (by kernel_rfl) (fun _ _ _ h => h) (Or.inl ⟨by rfl, ?_⟩) hy ?_
     rotate_left
     · (intro wy hSw; go_simp; try with_reducible rfl)
     try simp only [Act.put]
     refine wpAnyZ_take (i := 11) (v := ?_) rfl (by kernel_rfl) (by kernel_rfl) (by kernel_rfl) (by kernel_rfl) (fun _ _ _ h => h) (Or.inl ⟨by rfl, ?_⟩) hy ?_
     rotate_left
     · (intro wy hSw; go_simp; try with_reducible rfl)
     try simp only [Act.put]
     refine wpAnyZ_take (i := 12) (v := ?_) rfl (by kernel_rfl) (by kernel_rfl) (by kernel_rfl) (by kernel_rfl) (fun _ _ _ h => h) (Or.inl ⟨by rfl, ?_⟩) hy ?_
     rotate_left
     · (intro wy hSw; go_simp; try with_reducible rfl)
     try simp only [Act.put]
     simp only [List.getElem_toArray, List.getElem_cons_succ, List.getElem_cons_zero, List.setIfInBounds_toArray, List.set_cons_succ, List.set_cons_zero]
     refine wpAnyZ_take (i := 13) rfl (by kernel_rfl) (by kernel_rfl) (by kernel_rfl) (by kernel_rfl) (fun _ _ _ h => h) (yieldsIf_load_mid (by rfl) 43 (.tmp 28) rfl g ((b + k) * 6) (by rfl) cJ _ (fun X hX => hX.2) Tryz.underlying43 rfl (by rw [show (Tryz.prog.info? 43).map (·.size) = some 6 from file_size]; exact congrArg some (Eq.symm (by assumption)))) hy ?_
     try simp only [Act.put]
     refine wpAnyZ_take (i := 19) rfl (by kernel_rfl) (by kernel_rfl) (by kernel_rfl) (by kernel_rfl) (fun _ _ _ h => h) (yieldsIf_load_mid (by rfl) 43 (.tmp 34) rfl g ((a + k) * 6) (by rfl) cI _ (fun X hX => hX.1) Tryz.underlying43 rfl (by rw [show (Tryz.prog.info? 43).map (·.size) = some 6 from file_size]; exact congrArg some (Eq.symm (by assumption)))) hy ?_
     try simp only [Act.put]
     refine wpAnyZ_pure (i := 20) (v := ?_) rfl (by kernel_rfl) (by kernel_rfl) (by kernel_rfl) (by kernel_rfl) (fun _ _ _ h => h) (Or.inl ⟨by rfl, ?_⟩) ?_
     rotate_left
     · (intro wy hSw; go_simp; try with_reducible rfl)
     try simp only [Act.put]
     simp only [List.getElem_toArray, List.getElem_cons_succ, List.getElem_cons_zero, List.setIfInBounds_toArray, List.set_cons_succ, List.set_cons_zero]
     refine wpAnyZ_one (i := 21) (by kernel_rfl) (by kernel_rfl) rfl (fun K hK => ?_)
     refine step_store_mid (by rfl) (by rfl) 43 (.tmp 36) (.tmp 29) (by rfl) g ((a + k) * 6) cJ.toArray (by rfl) (by rfl) (by rw [List.size_toArray, n2]; exact T1.out) (by rw [List.size_toArray, n2]; exact file_size) (all_oneCell_toArray O2.out) ?_
     refine hK _ _ ?_
     clear hK
     refine wpAnyZ_pure (i := 22) (v := ?_) rfl (by kernel_rfl) (by kernel_rfl) (by kernel_rfl) (by kernel_rfl) (fun _ _ _ h => h) (Or.inl ⟨by rfl, ?_⟩) ?_
     rotate_left
     · (intro wy hSw; go_simp; try with_reducible rfl)
     try simp only [Act.put]
     simp only [List.getElem_toArray, List.getElem_cons_succ, List.getElem_cons_zero, List.setIfInBounds_toArray, List.set_cons_succ, List.set_cons_zero]
     refine wpAnyZ_one (i := 23) (by kernel_rfl) (by kernel_rfl) rfl (fun K hK => ?_)
     refine step_store_mid (by rfl) (by rfl) 43 (.tmp 37) (.tmp 35) (by rfl) g ((b + k) * 6) cI.toArray (by rfl) (by rfl) (by rw [List.size_toArray, n1]; exact T2.out) (by rw [List.size_toArray, n1]; exact file_size) (all_oneCell_toArray O1.out) ?_
     refine hK _ _ ?_
     clear hK
     refine wpAnyZ_end (by kernel_rfl) ?_
     rw [List.toList_toArray]
     have HN2 := HN
     generalize (V.setCells g ((a + k) * 6) cJ).setCells g ((b + k) * 6) cI = W2 at HN2 ⊢
     clear HN
     go_wp2_with fail
     exact ⟨⟨k + 1, hlt, by simp, HN2⟩, by simp only [intOf]; omega⟩
   · have hke : k = n := by omega
     have hlt' : ¬ (k : Int) < (n : Int) := by omega
     subst hke
     go_wp2_with fail
     go_end0
     exact ⟨rfl, HL.out⟩
end Sym
namespace Sym
theorem swapRange_int (fn : Value) (w0 w : World) (base g c : Nat) (d : Array Vf) (a b n : Nat) (x y z : Int) (hx : x = (a : Int)) (hy : y = (b : Int)) (hz : z = (n : Int)) (s : Nat) (hs : s = d.size) (h : Lay w0 base g c d w) (h1 : a + n ≤ b) (h2 : b + n ≤ d.size) (hd : d.size ≤ 1000000) :
   Calls Tryz.prog 211 #[.slice (some ⟨g, 0, none⟩) s c, .int .i64 x, .int .i64 y, .int .i64 z, fn] w fun e w' => e = .returned (.tuple #[]) ∧ Lay w0 base g c (swapR d a b n) w' := by
 subst hx hy hz hs
 exact swapRange_any fn w0 w base g c d a b n h h1 h2 hd
set_option maxHeartbeats 1000000 in
set_option maxRecDepth 100000 in
theorem rotate_any (fn : Value) (w0 w : World) (base g c : Nat) (d : Array Vf) (a m b : Nat) (h : Lay w0 base g c d w) (h1 : a < m) (h2 : m < b) (h3 : b ≤ d.size) (hd : d.size ≤ 1000000) :
   Calls Tryz.prog 184 #[.slice (some ⟨g, 0, none⟩) d.size c, .int .i64 (a : Int), .int .i64 (m : Int), .int .i64 (b : Int), fn] w fun r w' => r = .returned (.tuple #[]) ∧ ∃ e, Lay w0 base g c e w' ∧ Rot a m b d e ∧ PermIn a b d e := by
 have H0 := hid h
 clear h
 go_enter Tryz.func184, Tryz.ntmps184
 go_wp2_with fail
 go_loopw [10, 11] (fun x y wr => ∃ (i j : Nat) (dk : Array Vf), x = .int .i64 (i : Int) ∧ y = .int .i64 (j : Int) ∧ 0 < i ∧ 0 < j ∧ i ≤ m - a ∧ j ≤ b - m ∧ Hid (Lay w0 base g c dk wr) ∧ Hid ((∀ e, Rot (m - i) m (m + j) dk e → Rot a m b d e) ∧ PermIn a b d dk)) (fun x y _ => (intOf x).toNat + (intOf y).toNat)
 case atStart =>
   refine ⟨m - a, b - m, d, congrArg (Value.int .i64) (by omega), congrArg (Value.int .i64) (by omega), by omega, by omega, by omega, by omega, H0, hid ⟨fun e he => ?_, permIn_refl _ _ _⟩⟩
   rwa [show m - (m - a) = a by omega, show m + (b - m) = b by omega] at he
 case round =>
   obtain ⟨i, j, dk, rfl, rfl, hi0, hj0, hi, hj, HL, HR⟩ := hrel
   have HSZ : Hid (dk.size = d.size) := hid HR.out.2.1
   by_cases hij : i = j
   · subst hij
     have KS := hid (swapRange_int fn w0 wr base g c dk (m - i) m i ((m : Int) - (i : Int)) (m : Int) (i : Int) (by omega) rfl rfl d.size HSZ.out.symm HL.out (by omega) (by have := HSZ.out; omega) (by have := HSZ.out; omega))
     have HE : Hid (∃ e, e = swapR dk (m - i) m i ∧ Rot a m b d e ∧ PermIn a b d e) := hid ⟨_, rfl, HR.out.1 _ (Rot.even dk (by omega) (by have := HSZ.out; omega)), permIn_trans _ _ _ _ _ HR.out.2 (swapR_perm dk i (by omega) (by omega) (by omega) (by have := HSZ.out; omega))⟩
     go_wp2_with fail
     refine KS.out.mono ?_
     rintro r w2 ⟨rfl, hl⟩
     have HL2 := hid hl
     clear hl KS
     go_wp2_with fail
     go_end0
     obtain ⟨e, rfl, e1, e2⟩ := HE.out
     exact ⟨rfl, _, HL2.out, e1, e2⟩
   · by_cases hlt : j < i
     · have hlt' : (j : Int) < (i : Int) := by omega
       have KS := hid (swapRange_int fn w0 wr base g c dk (m - i) m j ((m : Int) - (i : Int)) (m : Int) (j : Int) (by omega) rfl rfl d.size HSZ.out.symm HL.out (by omega) (by have := HSZ.out; omega) (by have := HSZ.out; omega))
       have HE : Hid ((∀ e, Rot (m - (i - j)) m (m + j) (swapR dk (m - i) m j) e → Rot a m b d e) ∧ PermIn a b d (swapR dk (m - i) m j)) := hid ⟨fun e he => HR.out.1 e (Rot.more (by omega) hlt (by have := HSZ.out; omega) he), permIn_trans _ _ _ _ _ HR.out.2 (swapR_perm dk j (by omega) (by omega) (by omega) (by have := HSZ.out; omega))⟩
       go_wp2_with fail
       refine KS.out.mono ?_
       rintro r w2 ⟨rfl, hl⟩
       have HL2 := hid hl
       clear hl KS
       go_wp2_with fail
       exact ⟨⟨i - j, j, _, congrArg (Value.int .i64) (by omega), congrArg (Value.int .i64) (by omega), by omega, by omega, by omega, by omega, HL2, HE⟩, by simp only [intOf]; omega⟩
     · have hlt' : ¬ (j : Int) < (i : Int) := by omega
       have KS := hid (swapRange_int fn w0 wr base g c dk (m - i) (m + (j - i)) i ((m : Int) - (i : Int)) ((m : Int) + (j : Int) - (i : Int)) (i : Int) (by omega) (by omega) rfl d.size HSZ.out.symm HL.out (by omega) (by have := HSZ.out; omega) (by have := HSZ.out; omega))
       have HE : Hid ((∀ e, Rot (m - i) m (m + (j - i)) (swapR dk (m - i) (m + (j - i)) i) e → Rot a m b d e) ∧ PermIn a b d (swapR dk (m - i) (m + (j - i)) i)) := hid ⟨fun e he => HR.out.1 e (Rot.less (by omega) (by omega) (by have := HSZ.out; omega) (by rw [show m + j - i = m + (j - i) by omega]; exact he)), permIn_trans _ _ _ _ _ HR.out.2 (swapR_perm dk i (by omega) (by omega) (by omega) (by have := HSZ.out; omega))⟩
       go_wp2_with fail
       refine KS.out.mono ?_
       rintro r w2 ⟨rfl, hl⟩
       have HL2 := hid hl
       clear hl KS
       go_wp2_with fail
       exact ⟨⟨i, j - i, _, congrArg (Value.int .i64) (by omega), congrArg (Value.int .i64) (by omega), by omega, by omega, by omega, by omega, HL2, HE⟩, by simp only [intOf]; omega⟩
end Sym
namespace Sym
def ltV (u v : Vf) : Bool := Ver.before u.fi v.fi
theorem ltV_swo : SWO ltV := ⟨fun _ => Ver.before_irrefl _, fun _ _ _ => Ver.before_trans, fun _ _ _ h1 h2 => Ver.before_neg_trans h2 h1⟩
def plF : Value := .func (.func 43) #[] #[]
theorem step_callf2_dv {P : Program} {w : World} {ops : Array Oper} {o : Oper} {a : Act} {K : Act → World → Prop} {Q : Exit → Act → World → Prop} {E : Prop} (hw : Region.wanted o (yielded ops a.tmps) = true) (d : Option Tmp) (hd : o.dst = d) {f : Nat} (z x y : Operand) {ats : Array TypeId}
   (ho : o.op = .call { callee := .value z, args := #[x, y], argTypes := ats }) (hz : a.eval z = .func (.func f) #[] #[]) (vx vy : Value) (hx : a.eval x = vx) (hy : a.eval y = vy) (hen : ∀ args w, (callFunc f args).run P w = .ok (.enter f args) w) (R : Ending → World → Prop) (hc : Calls P f #[vx, vy] w R)
   (h : ∀ e w', R e w' → ∃ v, e = .returned v ∧ K (a.put d v) w') : if Region.wanted o (yielded ops a.tmps) = true then Oper.wp P o a w K Q else E := by
 subst hd hx hy
 rw [if_pos hw]
 unfold Oper.wp execOp
 simp [ho, resolve, invoke, Deferred.ofValue, hz, hen]
 rw [Oper.upon_enter]
 refine hc.mono ?_
 intro e w' hr
 obtain ⟨v, rfl, hk⟩ := h e w' hr
 exact hk
theorem place_at {w0 w : World} {base g c : Nat} {d : Array Vf} (h : Lay w0 base g c d w) {i j : Nat} (hi : i < d.size) (hj : j < d.size) :
   Calls Tryz.prog 43 #[.agg (d[i]!).cells.toArray, .agg (d[j]!).cells.toArray] w fun e w' => ∃ x : Int, e = .returned (.int .i64 x) ∧ decide (x < 0) = ltV d[i]! d[j]! ∧ Lay w0 base g c d w' := by
 refine (Ver.place_any d[i]! d[j]! w (h.okk hi).rd (h.okk hj).rd).mono ?_
 rintro e w' ⟨rfl, hb⟩
 refine ⟨_, rfl, ?_, h.below hb⟩
 have h1 := Ver.place_neg (d[i]!).fi (d[j]!).fi
 unfold ltV
 cases h2 : Ver.before (d[i]!).fi (d[j]!).fi with
 | true => exact decide_eq_true (h1.2 h2)
 | false => exact decide_eq_false (fun h => by rw [h1.1 h] at h2; cases h2)
end Sym
namespace Sym
set_option maxHeartbeats 4000000 in
set_option maxRecDepth 100000 in
theorem insertion_any (w0 w : World) (base g c : Nat) (d : Array Vf) (a b : Nat) (h : Lay w0 base g c d w) (hab : a ≤ b) (hb : b ≤ d.size) (hd : d.size ≤ 1000000) :
   Calls Tryz.prog 156 #[.slice (some ⟨g, 0, none⟩) d.size c, .int .i64 (a : Int), .int .i64 (b : Int), plF] w fun r w' => r = .returned (.tuple #[]) ∧ ∃ e, Lay w0 base g c e w' ∧ PermIn a b d e ∧ SortedIn ltV a b e := by
 have H0 := hid h
 clear h
 unfold plF
 go_enter Tryz.func156, Tryz.ntmps156
 go_wp2_with fail
 go_loopw [8] (fun x wr => ∃ (i : Nat) (dk : Array Vf), x = .int .i64 (i : Int) ∧ a + 1 ≤ i ∧ (i ≤ b ∨ i = a + 1) ∧ Hid (Lay w0 base g c dk wr) ∧ Hid (PermIn a b d dk ∧ SortedIn ltV a i dk)) (fun x _ => b + 1 - (intOf x).toNat)
 case atStart => exact ⟨a + 1, d, by simp, by omega, .inr rfl, H0, hid ⟨permIn_refl _ _ _, fun p q h1 h2 h3 => by omega⟩⟩
 case round =>
   obtain ⟨i, dk, rfl, hai, hib, HL0, HP0⟩ := hrel
   by_cases hlt : i < b
   · have hlt' : (i : Int) < (b : Int) := by omega
     go_wp2_with fail
     go_loopw [9] (fun y wr2 => ∃ (j : Nat) (dk : Array Vf), y = .int .i64 (j : Int) ∧ a ≤ j ∧ j ≤ i ∧ Hid (Lay w0 base g c dk wr2) ∧ Hid (PermIn a b d dk ∧ Ins ltV a j i dk)) (fun y _ => (intOf y).toNat)
     case atStart => exact ⟨i, dk, rfl, by omega, Nat.le_refl _, HL0, hid ⟨HP0.out.1, ⟨fun p q h1 h2 h3 _ h5 => HP0.out.2 p q h1 h2 (by omega), fun q h1 h2 => by omega⟩⟩⟩
     case round =>
       obtain ⟨j, dk, rfl, haj, hji, HL, HP⟩ := hrel
       have HSZ : Hid (dk.size = d.size) := hid HP.out.1.1
       by_cases hja : a < j
       · obtain ⟨jp, rfl⟩ : ∃ jp, j = jp + 1 := ⟨j - 1, by omega⟩
         have hja' : (a : Int) < (jp : Int) + 1 := by omega
         have p1 : (0 : Int) ≤ (jp : Int) + 1 := by omega
         have b1 : (jp : Int) + 1 < (d.size : Int) := by omega
         have e1 : ((jp : Int) + 1).toNat = jp + 1 := by omega
         have b2 : (jp : Int) < (d.size : Int) := by omega
         have uw : IntKind.i64.wrap (jp : Int) = (jp : Int) := by rw [IntKind.wrap_i64]; omega
         have hi : jp + 1 < dk.size := by rw [HSZ.out]; omega
         have hj : jp < dk.size := by rw [HSZ.out]; omega
         have HIJ := hid (And.intro hi hj)
         go_upto_region 4 with fail
         go_cut [34] from 18 to 52 (fun v wx => v = .bool (ltV dk[jp + 1]! dk[jp]!) ∧ Hid (Lay w0 base g c dk wx))
         case first =>
           obtain ⟨V, hV⟩ : ∃ V, V = wr.drew := ⟨_, rfl⟩
           have hLV : Lay w0 base g c dk V := by rw [hV]; exact HL.out.drew
           have r1 := hLV.rg hi
           have r2 := hLV.rg hj
           have KP := hid (place_at hLV hi hj)
           have HRG : Hid (∀ X, Lay w0 base g c dk X → X.rangeAt g ((jp + 1) * 6) (dk[(jp + 1)]!).cells ∧ X.rangeAt g (jp * 6) (dk[jp]!).cells) := hid (fun X hX => ⟨hX.rg hi, hX.rg hj⟩)
           have n1 : (dk[(jp + 1)]!).cells.length = 6 := rfl
           have n2 : (dk[jp]!).cells.length = 6 := rfl
           obtain ⟨bl, hbl⟩ : ∃ bl, bl = ltV dk[(jp + 1)]! dk[jp]! := ⟨_, rfl⟩
           rw [← hbl] at KP
           have HBL0 := hid hbl
           generalize (dk[(jp + 1)]!).cells = cI at r1 KP n1 HRG
           generalize (dk[jp]!).cells = cJ at r2 KP n2 HRG
           have hy := And.intro r1 r2
           clear hLV r1 r2 hbl hi hj
           refine wp_region_E 16 (fun X => X.rangeAt g ((jp + 1) * 6) cI ∧ X.rangeAt g (jp * 6) cJ) (by kernel_rfl) ?_
           rw [← hV]
           clear hV
           refine wTs [3, 2] (i := 0) (v := ?_) rfl (Or.inl ⟨by rfl, ?_⟩) hy ?_
           rotate_left
           · (intro wy hSw; go_simp; try with_reducible rfl)
           try simp only [Act.put, List.setIfInBounds_toArray]
           refine wTs [3, 2] (i := 1) (v := ?_) rfl (Or.inl ⟨by rfl, ?_⟩) hy ?_
           rotate_left
           · (intro wy hSw; go_simp; try with_reducible rfl)
           try simp only [Act.put]
           refine wTs [3] (i := 2) (v := ?_) rfl (Or.inl ⟨by rfl, ?_⟩) hy ?_
           rotate_left
           · (intro wy hSw; go_simp; try with_reducible rfl)
           try simp only [Act.put]
           refine wTs [] (i := 3) (v := ?_) rfl (Or.inl ⟨by rfl, ?_⟩) hy ?_
           rotate_left
           · (intro wy hSw; go_simp; try with_reducible rfl)
           try simp only [Act.put]
           simp only [List.getElem_toArray, List.getElem_cons_succ, List.getElem_cons_zero, List.setIfInBounds_toArray, List.set_cons_succ, List.set_cons_zero]
           refine wTs [15, 14] (i := 4) (v := ?_) rfl (Or.inl ⟨by rfl, ?_⟩) hy ?_
           rotate_left
           · (intro wy hSw; go_simp; try with_reducible rfl)
           try simp only [Act.put]
           simp only [List.getElem_toArray, List.getElem_cons_succ, List.getElem_cons_zero, List.setIfInBounds_toArray, List.set_cons_succ, List.set_cons_zero]
           refine wTs [15, 14, 8, 7] (i := 5) (v := ?_) rfl (Or.inl ⟨by rfl, ?_⟩) hy ?_
           rotate_left
           · (intro wy hSw; go_simp; try with_reducible rfl)
           try simp only [Act.put]
           simp only [List.getElem_toArray, List.getElem_cons_succ, List.getElem_cons_zero, List.setIfInBounds_toArray, List.set_cons_succ, List.set_cons_zero]
           refine wTs [15, 14, 8, 7] (i := 6) (v := ?_) rfl (Or.inl ⟨by rfl, ?_⟩) hy ?_
           rotate_left
           · (intro wy hSw; go_simp; try with_reducible rfl)
           try simp only [Act.put]
           simp only [List.getElem_toArray, List.getElem_cons_succ, List.getElem_cons_zero, List.setIfInBounds_toArray, List.set_cons_succ, List.set_cons_zero]
           refine wTs [15, 14, 8] (i := 7) (v := ?_) rfl (Or.inl ⟨by rfl, ?_⟩) hy ?_
           rotate_left
           · (intro wy hSw; go_simp; try with_reducible rfl)
           try simp only [Act.put]
           simp only [List.getElem_toArray, List.getElem_cons_succ, List.getElem_cons_zero, List.setIfInBounds_toArray, List.set_cons_succ, List.set_cons_zero]
           refine wpAnyE_takes [15, 14] (i := 8) rfl (by kernel_rfl) (by kernel_rfl) (by kernel_rfl) (by kernel_rfl) (by kernel_rfl) (fun _ _ _ h => h) (yieldsIf_load_mid (by rfl) 43 (.tmp 25) rfl g ((jp + 1) * 6) (by rfl) cI _ (fun X hX => hX.1) Tryz.underlying43 rfl (by rw [show (Tryz.prog.info? 43).map (·.size) = some 6 from file_size]; exact congrArg some (Eq.symm (by assumption)))) hy ?_
           try simp only [Act.put]
           simp only [List.getElem_toArray, List.getElem_cons_succ, List.getElem_cons_zero, List.setIfInBounds_toArray, List.set_cons_succ, List.set_cons_zero]
           refine wTs [15, 14, 13, 12] (i := 9) (v := ?_) rfl (Or.inl ⟨by rfl, ?_⟩) hy ?_
           rotate_left
           · (intro wy hSw; go_simp; try with_reducible rfl)
           try simp only [Act.put]
           simp only [List.getElem_toArray, List.getElem_cons_succ, List.getElem_cons_zero, List.setIfInBounds_toArray, List.set_cons_succ, List.set_cons_zero]
           refine wTs [15, 14, 13, 12, 11] (i := 10) (v := ?_) rfl (Or.inl ⟨by rfl, ?_⟩) hy ?_
           rotate_left
           · (intro wy hSw; go_simp; try with_reducible rfl)
           try simp only [Act.put]
           simp only [List.getElem_toArray, List.getElem_cons_succ, List.getElem_cons_zero, List.setIfInBounds_toArray, List.set_cons_succ, List.set_cons_zero]
           refine wTs [15, 14, 13, 12] (i := 11) (v := ?_) rfl (Or.inl ⟨by rfl, ?_⟩) hy ?_
           rotate_left
           · (intro wy hSw; go_simp; try with_reducible rfl)
           try simp only [Act.put]
           simp only [List.getElem_toArray, List.getElem_cons_succ, List.getElem_cons_zero, List.setIfInBounds_toArray, List.set_cons_succ, List.set_cons_zero]
           refine wTs [15, 14, 13] (i := 12) (v := ?_) rfl (Or.inl ⟨by rfl, ?_⟩) hy ?_
           rotate_left
           · (intro wy hSw; go_simp; try with_reducible rfl)
           try simp only [Act.put]
           simp only [List.getElem_toArray, List.getElem_cons_succ, List.getElem_cons_zero, List.setIfInBounds_toArray, List.set_cons_succ, List.set_cons_zero]
           refine wpAnyE_takes [15, 14] (i := 13) rfl (by kernel_rfl) (by kernel_rfl) (by kernel_rfl) (by kernel_rfl) (by kernel_rfl) (fun _ _ _ h => h) (yieldsIf_load_mid (by rfl) 43 (.tmp 30) rfl g (jp * 6) (by rfl) cJ _ (fun X hX => hX.2) Tryz.underlying43 rfl (by rw [show (Tryz.prog.info? 43).map (·.size) = some 6 from file_size]; exact congrArg some (Eq.symm (by assumption)))) hy ?_
           try simp only [Act.put]
           simp only [List.getElem_toArray, List.getElem_cons_succ, List.getElem_cons_zero, List.setIfInBounds_toArray, List.set_cons_succ, List.set_cons_zero]
           refine wpAnyE_one (i := 14) (by kernel_rfl) rfl (fun K hK => ?_)
           refine step_callf2_dv (by rfl) (some 32) (by rfl) (.tmp 22) (.tmp 26) (.tmp 31) (by rfl) (by rfl) (.agg cI.toArray) (.agg cJ.toArray) rfl rfl (enters_of Tryz.func43 (by kernel_rfl) rfl) _ KP.out ?_
           rintro e w5 ⟨x, rfl, hx, hl⟩
           have HL5 := hid hl
           have hy5 := HRG.out w5 hl
           refine ⟨_, rfl, ?_⟩
           refine hK _ _ hy5 ?_
           clear hK K hl hy KP
           simp only [Act.put, List.setIfInBounds_toArray, List.set_cons_succ, List.set_cons_zero]
           refine wTs [] (i := 15) (v := ?_) rfl (Or.inl ⟨by rfl, ?_⟩) hy5 ?_
           rotate_left
           · (intro wy hSw; obtain ⟨hs1, hs2⟩ := hSw; go_simp; try with_reducible rfl)
           try simp only [Act.put]
           refine wpAnyE_last (by kernel_rfl) (by kernel_rfl) rfl (fun K hK => ?_)
           go_simp
           refine hK _ _ ?_
           clear hK
           go_wp2_with fail
           go_meet
           exact ⟨by rw [HBL0.out], HL5⟩
         case rest =>
           obtain ⟨rfl, HL2⟩ := hcut
           have hi := HIJ.out.1
           have hj := HIJ.out.2
           obtain ⟨bl, hbl⟩ : ∃ bl, bl = ltV dk[jp + 1]! dk[jp]! := ⟨_, rfl⟩
           rw [← hbl]
           have HBL := hid hbl
           clear hbl HL
           have HL := HL2
           clear HL2
           rcases bl with _ | _
           · have HE : Hid (SortedIn ltV a (i + 1) dk) := hid (Ins.stop ltV_swo HP.out.2 (.inr HBL.out.symm))
             go_wp2_with fail
             exact ⟨⟨i + 1, dk, by simp, by omega, .inl (by omega), HL, hid ⟨HP.out.1, HE.out⟩⟩, by simp only [intOf]; omega⟩
           · have HE : Hid (PermIn a b d (swp dk (jp + 1) jp) ∧ Ins ltV a jp i (swp dk (jp + 1) jp)) := hid ⟨permIn_trans _ _ _ _ _ HP.out.1 (swp_permIn _ a b _ _ (by omega) (by omega) (by omega) (by omega) (by have := HSZ.out; omega)), Ins.step HP.out.2 HBL.out.symm (by omega) hi⟩
             obtain ⟨V, hV⟩ : ∃ V, V = wc.drew := ⟨_, rfl⟩
             have hLV : Lay w0 base g c dk V := by rw [hV]; exact HL.out.drew
             have r1 := hLV.rg hi
             have r2 := hLV.rg hj
             have T1 := hid (hLV.there hi)
             have T2 : Hid ((V.setCells g ((jp + 1) * 6) (dk[jp]!).cells).there g (jp * 6) 6) := hid ((hLV.put hi _ (hLV.okk hj)).there (by simpa using hj))
             have HN : Hid (Lay w0 base g c (swp dk (jp + 1) jp) ((V.setCells g ((jp + 1) * 6) (dk[jp]!).cells).setCells g (jp * 6) (dk[(jp + 1)]!).cells)) := hid (hLV.swap hi hj)
             have n1 : (dk[(jp + 1)]!).cells.length = 6 := rfl
             have n2 : (dk[jp]!).cells.length = 6 := rfl
             have o1 := vf_one (dk[(jp + 1)]!)
             have o2 := vf_one (dk[jp]!)
             generalize (dk[(jp + 1)]!).cells = cI at HN r1 T2 n1 o1
             generalize (dk[jp]!).cells = cJ at HN r2 T2 n2 o2
             have O1 := hid o1
             have O2 := hid o2
             have hy := And.intro r1 r2
             clear hi hj hLV r1 r2 o1 o2
             go_wp2_with fail
             refine wp_region_Z [2, 3, 4, 10, 11, 12, 14, 15, 16, 17] (fun X => X.rangeAt g ((jp + 1) * 6) cI ∧ X.rangeAt g (jp * 6) cJ) (by kernel_rfl) ?_
             rw [← hV]
             clear hV
             refine wpAnyZ_pure (i := 2) (v := ?_) rfl (by kernel_rfl) (by kernel_rfl) (by kernel_rfl) (by kernel_rfl) (fun _ _ _ h => h) (Or.inl ⟨by rfl, ?_⟩) ?_
             rotate_left
             · (intro wy hSw; go_simp; try with_reducible rfl)
             try simp only [Act.put, List.setIfInBounds_toArray]
             refine wpAnyZ_pure (i := 3) (v := ?_) rfl (by kernel_rfl) (by kernel_rfl) (by kernel_rfl) (by kernel_rfl) (fun _ _ _ h => h) (Or.inl ⟨by rfl, ?_⟩) ?_
             rotate_left
             · (intro wy hSw; go_simp; try with_reducible rfl)
             try simp only [Act.put]
             refine wpAnyZ_pure (i := 4) (v := ?_) rfl (by kernel_rfl) (by kernel_rfl) (by kernel_rfl) (by kernel_rfl) (fun _ _ _ h => h) (Or.inl ⟨by rfl, ?_⟩) ?_
             rotate_left
             · (intro wy hSw; go_simp; try with_reducible rfl)
             try simp only [Act.put]
             refine wpAnyZ_pure (i := 10) (v := ?_) rfl (by kernel_rfl) (by kernel_rfl) (by kernel_rfl) (by kernel_rfl) (fun _ _ _ h => h) (Or.inl ⟨by rfl, ?_⟩) ?_
             rotate_left
             · (intro wy hSw; go_simp; try with_reducible rfl)
             try simp only [Act.put]
             refine wpAnyZ_pure (i := 11) (v := ?_) rfl (by kernel_rfl) (by kernel_rfl) (by kernel_rfl) (by kernel_rfl) (fun _ _ _ h => h) (Or.inl ⟨by rfl, ?_⟩) ?_
             rotate_left
             · (intro wy hSw; go_simp; try with_reducible rfl)
             try simp only [Act.put]
             refine wpAnyZ_pure (i := 12) (v := ?_) rfl (by kernel_rfl) (by kernel_rfl) (by kernel_rfl) (by kernel_rfl) (fun _ _ _ h => h) (Or.inl ⟨by rfl, ?_⟩) ?_
             rotate_left
             · (intro wy hSw; go_simp; try with_reducible rfl)
             try simp only [Act.put]
             refine wpAnyZ_take (i := 0) (v := ?_) rfl (by kernel_rfl) (by kernel_rfl) (by kernel_rfl) (by kernel_rfl) (fun _ _ _ h => h) (Or.inl ⟨by rfl, ?_⟩) hy ?_
             rotate_left
             · (intro wy hSw; go_simp; try with_reducible rfl)
             try simp only [Act.put]
             refine wpAnyZ_take (i := 1) (v := ?_) rfl (by kernel_rfl) (by kernel_rfl) (by kernel_rfl) (by kernel_rfl) (fun _ _ _ h => h) (Or.inl ⟨by rfl, ?_⟩) hy ?_
             rotate_left
             · (intro wy hSw; go_simp; try with_reducible rfl)
             try simp only [Act.put]
             refine wpAnyZ_take (i := 5) (v := ?_) rfl (by kernel_rfl) (by kernel_rfl) (by kernel_rfl) (by kernel_rfl) (fun _ _ _ h => h) (Or.inl ⟨by rfl, ?_⟩) hy ?_
             rotate_left
             · (intro wy hSw; go_simp; try with_reducible rfl)
             try simp only [Act.put]
             refine wpAnyZ_take (i := 6) (v := ?_) rfl (by kernel_rfl) (by kernel_rfl) (by kernel_rfl) (by kernel_rfl) (fun _ _ _ h => h) (Or.inl ⟨by rfl, ?_⟩) hy ?_
             rotate_left
             · (intro wy hSw; go_simp; try with_reducible rfl)
             try simp only [Act.put]
             refine wpAnyZ_take (i := 7) (v := ?_) rfl (by kernel_rfl) (by kernel_rfl) (by kernel_rfl) (by kernel_rfl) (fun _ _ _ h => h) (Or.inl ⟨by rfl, ?_⟩) hy ?_
             rotate_left
             · (intro wy hSw; go_simp; try with_reducible rfl)
             try simp only [Act.put]
             refine wpAnyZ_take (i := 8) (v := ?_) rfl (by kernel_rfl) (by kernel_rfl) (by kernel_rfl) (by kernel_rfl) (fun _ _ _ h => h) (Or.inl ⟨by rfl, ?_⟩) hy ?_
             rotate_left
             · (intro wy hSw; go_simp; try with_reducible rfl)
             try simp only [Act.put]
             simp only [List.getElem_toArray, List.getElem_cons_succ, List.getElem_cons_zero, List.setIfInBounds_toArray, List.set_cons_succ, List.set_cons_zero]
             refine wpAnyZ_take (i := 9) rfl (by kernel_rfl) (by kernel_rfl) (by kernel_rfl) (by kernel_rfl) (fun _ _ _ h => h) (yieldsIf_load_mid (by rfl) 43 (.tmp 45) rfl g (jp * 6) (by rfl) cJ _ (fun X hX => hX.2) Tryz.underlying43 rfl (by rw [show (Tryz.prog.info? 43).map (·.size) = some 6 from file_size]; exact congrArg some (Eq.symm (by assumption)))) hy ?_
             try simp only [Act.put]
             refine wpAnyZ_take (i := 13) rfl (by kernel_rfl) (by kernel_rfl) (by kernel_rfl) (by kernel_rfl) (fun _ _ _ h => h) (yieldsIf_load_mid (by rfl) 43 (.tmp 49) rfl g ((jp + 1) * 6) (by rfl) cI _ (fun X hX => hX.1) Tryz.underlying43 rfl (by rw [show (Tryz.prog.info? 43).map (·.size) = some 6 from file_size]; exact congrArg some (Eq.symm (by assumption)))) hy ?_
             try simp only [Act.put]
             refine wpAnyZ_pure (i := 14) (v := ?_) rfl (by kernel_rfl) (by kernel_rfl) (by kernel_rfl) (by kernel_rfl) (fun _ _ _ h => h) (Or.inl ⟨by rfl, ?_⟩) ?_
             rotate_left
             · (intro wy hSw; go_simp; try with_reducible rfl)
             try simp only [Act.put]
             simp only [List.getElem_toArray, List.getElem_cons_succ, List.getElem_cons_zero, List.setIfInBounds_toArray, List.set_cons_succ, List.set_cons_zero]
             refine wpAnyZ_one (i := 15) (by kernel_rfl) (by kernel_rfl) rfl (fun K hK => ?_)
             refine step_store_mid (by rfl) (by rfl) 43 (.tmp 51) (.tmp 46) (by rfl) g ((jp + 1) * 6) cJ.toArray (by rfl) (by rfl) (by rw [List.size_toArray, n2]; exact T1.out) (by rw [List.size_toArray, n2]; exact file_size) (all_oneCell_toArray O2.out) ?_
             refine hK _ _ ?_
             clear hK
             refine wpAnyZ_pure (i := 16) (v := ?_) rfl (by kernel_rfl) (by kernel_rfl) (by kernel_rfl) (by kernel_rfl) (fun _ _ _ h => h) (Or.inl ⟨by rfl, ?_⟩) ?_
             rotate_left
             · (intro wy hSw; go_simp; try with_reducible rfl)
             try simp only [Act.put]
             simp only [List.getElem_toArray, List.getElem_cons_succ, List.getElem_cons_zero, List.setIfInBounds_toArray, List.set_cons_succ, List.set_cons_zero]
             refine wpAnyZ_one (i := 17) (by kernel_rfl) (by kernel_rfl) rfl (fun K hK => ?_)
             refine step_store_mid (by rfl) (by rfl) 43 (.tmp 52) (.tmp 50) (by rfl) g (jp * 6) cI.toArray (by rfl) (by rfl) (by rw [List.size_toArray, n1]; exact T2.out) (by rw [List.size_toArray, n1]; exact file_size) (all_oneCell_toArray O1.out) ?_
             refine hK _ _ ?_
             clear hK
             refine wpAnyZ_end (by kernel_rfl) ?_
             rw [List.toList_toArray]
             have HN2 := HN
             generalize (V.setCells g ((jp + 1) * 6) cJ).setCells g (jp * 6) cI = W2 at HN2 ⊢
             clear HN
             go_wp2_with fail
             exact ⟨⟨jp, _, by simp, by omega, by omega, HN2, HE⟩, by simp only [intOf]; omega⟩
       · have hje : j = a := by omega
         subst hje
         have HE : Hid (SortedIn ltV j (i + 1) dk) := hid (Ins.stop ltV_swo HP.out.2 (.inl (Nat.le_refl _)))
         go_upto_region 4 with fail
         go_cut [34] from 18 to 52 (fun v wx => v = .bool false ∧ Hid (Lay w0 base g c dk wx))
         case first =>
           obtain ⟨V, hV⟩ : ∃ V, V = wr.drew := ⟨_, rfl⟩
           have HLV : Hid (Lay w0 base g c dk V) := hid (by rw [hV]; exact HL.out.drew)
           have hy : True := trivial
           refine wp_region_E 16 (fun _ => True) (by kernel_rfl) ?_
           rw [← hV]
           clear hV
           refine wTs [3, 2] (i := 0) (v := ?_) rfl (Or.inl ⟨by rfl, ?_⟩) hy ?_
           rotate_left
           · (intro wy hSw; go_simp; try with_reducible rfl)
           try simp only [Act.put, List.setIfInBounds_toArray]
           refine wTs [3, 2] (i := 1) (v := ?_) rfl (Or.inl ⟨by rfl, ?_⟩) hy ?_
           rotate_left
           · (intro wy hSw; go_simp; try with_reducible rfl)
           try simp only [Act.put]
           refine wTs [3] (i := 2) (v := ?_) rfl (Or.inl ⟨by rfl, ?_⟩) hy ?_
           rotate_left
           · (intro wy hSw; go_simp; try with_reducible rfl)
           try simp only [Act.put]
           refine wTs [] (i := 3) (v := ?_) rfl (Or.inl ⟨by rfl, ?_⟩) hy ?_
           rotate_left
           · (intro wy hSw; go_simp; try with_reducible rfl)
           try simp only [Act.put]
           simp only [List.getElem_toArray, List.getElem_cons_succ, List.getElem_cons_zero, List.setIfInBounds_toArray, List.set_cons_succ, List.set_cons_zero]
           refine wTs [15, 14] (i := 4) (v := undef) rfl (Or.inr ⟨by rfl, rfl⟩) hy ?_
           try simp only [Act.put]
           simp only [List.getElem_toArray, List.getElem_cons_succ, List.getElem_cons_zero, List.setIfInBounds_toArray, List.set_cons_succ, List.set_cons_zero]
           refine wTs [15, 14, 8, 7] (i := 5) (v := undef) rfl (Or.inr ⟨by rfl, rfl⟩) hy ?_
           try simp only [Act.put]
           simp only [List.getElem_toArray, List.getElem_cons_succ, List.getElem_cons_zero, List.setIfInBounds_toArray, List.set_cons_succ, List.set_cons_zero]
           refine wTs [15, 14, 8, 7] (i := 6) (v := undef) rfl (Or.inr ⟨by rfl, rfl⟩) hy ?_
           try simp only [Act.put]
           simp only [List.getElem_toArray, List.getElem_cons_succ, List.getElem_cons_zero, List.setIfInBounds_toArray, List.set_cons_succ, List.set_cons_zero]
           refine wTs [15, 14, 8] (i := 7) (v := undef) rfl (Or.inr ⟨by rfl, rfl⟩) hy ?_
           try simp only [Act.put]
           simp only [List.getElem_toArray, List.getElem_cons_succ, List.getElem_cons_zero, List.setIfInBounds_toArray, List.set_cons_succ, List.set_cons_zero]
           refine wTs [15, 14] (i := 8) (v := undef) rfl (Or.inr ⟨by rfl, rfl⟩) hy ?_
           try simp only [Act.put]
           simp only [List.getElem_toArray, List.getElem_cons_succ, List.getElem_cons_zero, List.setIfInBounds_toArray, List.set_cons_succ, List.set_cons_zero]
           refine wTs [15, 14, 13, 12] (i := 9) (v := undef) rfl (Or.inr ⟨by rfl, rfl⟩) hy ?_
           try simp only [Act.put]
           simp only [List.getElem_toArray, List.getElem_cons_succ, List.getElem_cons_zero, List.setIfInBounds_toArray, List.set_cons_succ, List.set_cons_zero]
           refine wTs [15, 14, 13, 12, 11] (i := 10) (v := undef) rfl (Or.inr ⟨by rfl, rfl⟩) hy ?_
           try simp only [Act.put]
           simp only [List.getElem_toArray, List.getElem_cons_succ, List.getElem_cons_zero, List.setIfInBounds_toArray, List.set_cons_succ, List.set_cons_zero]
           refine wTs [15, 14, 13, 12] (i := 11) (v := undef) rfl (Or.inr ⟨by rfl, rfl⟩) hy ?_
           try simp only [Act.put]
           simp only [List.getElem_toArray, List.getElem_cons_succ, List.getElem_cons_zero, List.setIfInBounds_toArray, List.set_cons_succ, List.set_cons_zero]
           refine wTs [15, 14, 13] (i := 12) (v := undef) rfl (Or.inr ⟨by rfl, rfl⟩) hy ?_
           try simp only [Act.put]
           simp only [List.getElem_toArray, List.getElem_cons_succ, List.getElem_cons_zero, List.setIfInBounds_toArray, List.set_cons_succ, List.set_cons_zero]
           refine wTs [15, 14] (i := 13) (v := undef) rfl (Or.inr ⟨by rfl, rfl⟩) hy ?_
           try simp only [Act.put]
           simp only [List.getElem_toArray, List.getElem_cons_succ, List.getElem_cons_zero, List.setIfInBounds_toArray, List.set_cons_succ, List.set_cons_zero]
           refine wTs [15] (i := 14) (v := undef) rfl (Or.inr ⟨by rfl, rfl⟩) hy ?_
           try simp only [Act.put]
           simp only [List.getElem_toArray, List.getElem_cons_succ, List.getElem_cons_zero, List.setIfInBounds_toArray, List.set_cons_succ, List.set_cons_zero]
           refine wTs [] (i := 15) (v := undef) rfl (Or.inr ⟨by rfl, rfl⟩) hy ?_
           try simp only [Act.put]
           simp only [List.getElem_toArray, List.getElem_cons_succ, List.getElem_cons_zero, List.setIfInBounds_toArray, List.set_cons_succ, List.set_cons_zero]
           refine wpAnyE_last (by kernel_rfl) (by kernel_rfl) rfl (fun K hK => ?_)
           go_simp
           refine hK _ _ ?_
           clear hK
           go_wp2_with fail
           go_meet
           exact ⟨rfl, HLV⟩
         case rest =>
           obtain ⟨rfl, HL2⟩ := hcut
           go_wp2_with fail
           exact ⟨⟨i + 1, dk, by simp, by omega, .inl (by omega), HL2, hid ⟨HP.out.1, HE.out⟩⟩, by simp only [intOf]; omega⟩
   · have hlt' : ¬ (i : Int) < (b : Int) := by omega
     go_wp2_with fail
     go_end0
     exact ⟨rfl, dk, HL0.out, HP0.out.1, sorted_sub HP0.out.2 (Nat.le_refl _) (by omega)⟩
end Sym
namespace Sym
theorem rotate_int (fn : Value) (w0 w : World) (base g c : Nat) (d : Array Vf) (a m b : Nat) (s : Nat) (hs : s = d.size) (h : Lay w0 base g c d w) (h1 : a < m) (h2 : m < b) (h3 : b ≤ d.size) (hd : d.size ≤ 1000000) :
   Calls Tryz.prog 184 #[.slice (some ⟨g, 0, none⟩) s c, .int .i64 (a : Int), .int .i64 (m : Int), .int .i64 (b : Int), fn] w fun r w' => r = .returned (.tuple #[]) ∧ ∃ e, Lay w0 base g c e w' ∧ Rot a m b d e ∧ PermIn a b d e := by
 subst hs
 exact rotate_any fn w0 w base g c d a m b h h1 h2 h3 hd
def MergeP (w0 : World) (base g c : Nat) (d : Array Vf) (a b : Nat) (r : Ending) (w' : World) : Prop := r = .returned (.tuple #[]) ∧ ∃ e, Lay w0 base g c e w' ∧ PermIn a b d e ∧ SortedIn ltV a b e
set_option maxHeartbeats 4000000 in
set_option maxRecDepth 100000 in
theorem merge_one (w0 w : World) (base g c : Nat) (d : Array Vf) (a m b : Nat) (h : Lay w0 base g c d w) (ham : a < m) (hmb : m < b) (hb : b ≤ d.size) (hd : d.size ≤ 1000000) (hL : SortedIn ltV a m d) (hR : SortedIn ltV m b d) (hm1 : m = a + 1) :
   Calls Tryz.prog 157 #[.slice (some ⟨g, 0, none⟩) d.size c, .int .i64 (a : Int), .int .i64 (m : Int), .int .i64 (b : Int), plF] w (MergeP w0 base g c d a b) := by
 have H0 := hid h
 have HSL := hid hL
 have HSR := hid hR
 clear h hL hR
 unfold plF
 have HM1 := hid hm1
 have hm2 : m ≤ a + 1 := by omega
 clear hm1
 have t1 : ((m : Int) - (a : Int) == 1) = true := by
   have : (m : Int) - (a : Int) = 1 := by omega
   simp [this]
 go_enter Tryz.func157, Tryz.ntmps157
 go_wp2_with fail
 go_loopw [10, 11] (fun x y wr => ∃ i j : Nat, x = .int .i64 (i : Int) ∧ y = .int .i64 (j : Int) ∧ m ≤ i ∧ i ≤ j ∧ j ≤ b ∧ Hid (Lay w0 base g c d wr) ∧ Hid ((i = m ∨ ltV d[i - 1]! d[a]! = true) ∧ (j = b ∨ ltV d[j]! d[a]! = false))) (fun x y _ => (intOf y).toNat - (intOf x).toNat)
 case atStart => exact ⟨m, b, rfl, rfl, Nat.le_refl _, by omega, Nat.le_refl _, H0, hid ⟨.inl rfl, .inl rfl⟩⟩
 case round =>
   obtain ⟨i, j, rfl, rfl, hmi, hij, hjb, HL, HC⟩ := hrel
   by_cases hlt : i < j
   · have hlt' : (i : Int) < (j : Int) := by omega
     obtain ⟨h, hh⟩ : ∃ h, h = (i + j) / 2 := ⟨_, rfl⟩
     have hh1 : i ≤ h := by omega
     have hh2 : h < j := by omega
     have e3 : ((i : Int) + (j : Int)) / 2 = (h : Int) := by omega
     have hi : h < d.size := by omega
     have hj : a < d.size := by omega
     clear hh
     have b1 : (h : Int) < (d.size : Int) := by omega
     have b2 : (a : Int) < (d.size : Int) := by omega
     go_upto_region 5 with fail
     go_cut [50] from 31 to 53 (fun v wx => v = .bool (ltV d[h]! d[a]!) ∧ Hid (Lay w0 base g c d wx))
     case first =>
       obtain ⟨V, hV⟩ : ∃ V, V = wr.drew := ⟨_, rfl⟩
       have hLV : Lay w0 base g c d V := by rw [hV]; exact HL.out.drew
       have r1 := hLV.rg hi
       have r2 := hLV.rg hj
       have KP := hid (place_at hLV hi hj)
       have HRG : Hid (∀ X, Lay w0 base g c d X → X.rangeAt g (h * 6) (d[h]!).cells ∧ X.rangeAt g (a * 6) (d[a]!).cells) := hid (fun X hX => ⟨hX.rg hi, hX.rg hj⟩)
       have n1 : (d[h]!).cells.length = 6 := rfl
       have n2 : (d[a]!).cells.length = 6 := rfl
       obtain ⟨bl, hbl⟩ : ∃ bl, bl = ltV d[h]! d[a]! := ⟨_, rfl⟩
       rw [← hbl] at KP
       have HBL0 := hid hbl
       generalize (d[h]!).cells = cI at r1 KP n1 HRG
       generalize (d[a]!).cells = cJ at r2 KP n2 HRG
       have hy := And.intro r1 r2
       clear hLV r1 r2 hbl hi hj
       refine wp_region_E 10 (fun X => X.rangeAt g (h * 6) cI ∧ X.rangeAt g (a * 6) cJ) (by kernel_rfl) ?_
       rw [← hV]
       clear hV
       refine wTs [9] (i := 0) (v := ?_) rfl (Or.inl ⟨by rfl, ?_⟩) hy ?_
       rotate_left
       · (intro wy hSw; go_simp; try with_reducible rfl)
       try simp only [Act.put, List.setIfInBounds_toArray]
       refine wTs [9, 4, 3] (i := 1) (v := ?_) rfl (Or.inl ⟨by rfl, ?_⟩) hy ?_
       rotate_left
       · (intro wy hSw; go_simp; try with_reducible rfl)
       try simp only [Act.put]
       refine wTs [9, 4, 3] (i := 2) (v := ?_) rfl (Or.inl ⟨by rfl, ?_⟩) hy ?_
       rotate_left
       · (intro wy hSw; go_simp; try with_reducible rfl)
       try simp only [Act.put]
       refine wTs [9, 4] (i := 3) (v := ?_) rfl (Or.inl ⟨by rfl, ?_⟩) hy ?_
       rotate_left
       · (intro wy hSw; go_simp; try with_reducible rfl)
       try simp only [Act.put]
       simp only [List.getElem_toArray, List.getElem_cons_succ, List.getElem_cons_zero, List.setIfInBounds_toArray, List.set_cons_succ, List.set_cons_zero]
       refine wpAnyE_takes [9] (i := 4) rfl (by kernel_rfl) (by kernel_rfl) (by kernel_rfl) (by kernel_rfl) (by kernel_rfl) (fun _ _ _ h => h) (yieldsIf_load_mid (by rfl) 43 (.tmp 43) rfl g (h * 6) (by rfl) cI _ (fun X hX => hX.1) Tryz.underlying43 rfl (by rw [show (Tryz.prog.info? 43).map (·.size) = some 6 from file_size]; exact congrArg some (Eq.symm (by assumption)))) hy ?_
       try simp only [Act.put]
       refine wTs [9, 8, 7] (i := 5) (v := ?_) rfl (Or.inl ⟨by rfl, ?_⟩) hy ?_
       rotate_left
       · (intro wy hSw; go_simp; try with_reducible rfl)
       try simp only [Act.put]
       refine wTs [9, 8, 7] (i := 6) (v := ?_) rfl (Or.inl ⟨by rfl, ?_⟩) hy ?_
       rotate_left
       · (intro wy hSw; go_simp; try with_reducible rfl)
       try simp only [Act.put]
       refine wTs [9, 8] (i := 7) (v := ?_) rfl (Or.inl ⟨by rfl, ?_⟩) hy ?_
       rotate_left
       · (intro wy hSw; go_simp; try with_reducible rfl)
       try simp only [Act.put]
       simp only [List.getElem_toArray, List.getElem_cons_succ, List.getElem_cons_zero, List.setIfInBounds_toArray, List.set_cons_succ, List.set_cons_zero]
       refine wpAnyE_takes [9] (i := 8) rfl (by kernel_rfl) (by kernel_rfl) (by kernel_rfl) (by kernel_rfl) (by kernel_rfl) (fun _ _ _ h => h) (yieldsIf_load_mid (by rfl) 43 (.tmp 47) rfl g (a * 6) (by rfl) cJ _ (fun X hX => hX.2) Tryz.underlying43 rfl (by rw [show (Tryz.prog.info? 43).map (·.size) = some 6 from file_size]; exact congrArg some (Eq.symm (by assumption)))) hy ?_
       try simp only [Act.put]
       simp only [List.getElem_toArray, List.getElem_cons_succ, List.getElem_cons_zero, List.setIfInBounds_toArray, List.set_cons_succ, List.set_cons_zero]
       refine wpAnyE_one (i := 9) (by kernel_rfl) rfl (fun K hK => ?_)
       refine step_callf2_dv (by rfl) (some 49) (by rfl) (.tmp 40) (.tmp 44) (.tmp 48) (by rfl) (by rfl) (.agg cI.toArray) (.agg cJ.toArray) rfl rfl (enters_of Tryz.func43 (by kernel_rfl) rfl) _ KP.out ?_
       rintro e w5 ⟨x, rfl, hx, hl⟩
       have HL5 := hid hl
       have hy5 := HRG.out w5 hl
       refine ⟨_, rfl, ?_⟩
       refine hK _ _ hy5 ?_
       clear hK K hl hy KP
       simp only [Act.put, List.setIfInBounds_toArray, List.set_cons_succ, List.set_cons_zero]
       refine wpAnyE_last (by kernel_rfl) (by kernel_rfl) rfl (fun K hK => ?_)
       go_simp
       refine hK _ _ ?_
       clear hK
       go_wp2_with fail
       go_meet
       exact ⟨by rw [HBL0.out], HL5⟩
     case rest =>
       obtain ⟨rfl, HL2⟩ := hcut
       obtain ⟨bl, hbl⟩ : ∃ bl, bl = ltV d[h]! d[a]! := ⟨_, rfl⟩
       rw [← hbl]
       have HBL := hid hbl
       clear hbl HL
       rcases bl with _ | _
       · go_wp2_with fail
         exact ⟨⟨i, h, rfl, rfl, hmi, hh1, by omega, HL2, hid ⟨HC.out.1, .inr HBL.out.symm⟩⟩, by simp only [intOf]; omega⟩
       · go_wp2_with fail
         exact ⟨⟨h + 1, j, by simp, rfl, by omega, by omega, hjb, HL2, hid ⟨.inr (by rw [show h + 1 - 1 = h by omega]; exact HBL.out.symm), HC.out.2⟩⟩, by simp only [intOf]; omega⟩
   · have hlt' : ¬ (i : Int) < (j : Int) := by omega
     have hji : j = i := by omega
     subst hji
     go_wp2_with fail
     go_loopw [13] (fun x wr2 => ∃ (k : Nat) (dk : Array Vf), x = .int .i64 (k : Int) ∧ a ≤ k ∧ k ≤ j - 1 ∧ Hid (Lay w0 base g c dk wr2) ∧ Hid (Rot a (a + 1) (k + 1) d dk ∧ PermIn a b d dk)) (fun x _ => j - (intOf x).toNat)
     case atStart => exact ⟨a, d, rfl, Nat.le_refl _, by omega, HL, hid ⟨Rot.left d (.inr rfl), permIn_refl _ _ _⟩⟩
     case round =>
       obtain ⟨k, dk, rfl, hak, hkj, HL, HR⟩ := hrel
       have HSZ : Hid (dk.size = d.size) := hid HR.out.2.1
       by_cases hlt2 : k < j - 1
       · have hlt2' : (k : Int) < (j : Int) - 1 := by omega
         have hi : k < dk.size := by rw [HSZ.out]; omega
         have hj : k + 1 < dk.size := by rw [HSZ.out]; omega
         have HE : Hid (Rot a (a + 1) (k + 2) d (swp dk k (k + 1)) ∧ PermIn a b d (swp dk k (k + 1))) := hid ⟨Rot.up (by omega) hak HR.out.1, permIn_trans _ _ _ _ _ HR.out.2 (swp_permIn _ a b _ _ (by omega) (by omega) (by omega) (by omega) (by rw [HSZ.out]; exact hb))⟩
         have b1 : (k : Int) < (d.size : Int) := by omega
         have fp0 : (0 : Int) ≤ ((k : Int) + 1) := by omega
         have fb0 : ((k : Int) + 1) < (d.size : Int) := by omega
         have fe0 : (((k : Int) + 1)).toNat = k + 1 := by omega
         have fu0 : IntKind.i64.wrap (((k : Int) + 1)) = ((k : Int) + 1) := by rw [IntKind.wrap_i64]; omega
         obtain ⟨V, hV⟩ : ∃ V, V = wr.drew := ⟨_, rfl⟩
         have hLV : Lay w0 base g c dk V := by rw [hV]; exact HL.out.drew
         have r1 := hLV.rg hi
         have r2 := hLV.rg hj
         have T1 := hid (hLV.there hi)
         have T2 : Hid ((V.setCells g (k * 6) (dk[(k + 1)]!).cells).there g ((k + 1) * 6) 6) := hid ((hLV.put hi _ (hLV.okk hj)).there (by simpa using hj))
         have HN : Hid (Lay w0 base g c (swp dk k (k + 1)) ((V.setCells g (k * 6) (dk[(k + 1)]!).cells).setCells g ((k + 1) * 6) (dk[k]!).cells)) := hid (hLV.swap hi hj)
         have n1 : (dk[k]!).cells.length = 6 := rfl
         have n2 : (dk[(k + 1)]!).cells.length = 6 := rfl
         have o1 := vf_one (dk[k]!)
         have o2 := vf_one (dk[(k + 1)]!)
         generalize (dk[k]!).cells = cI at HN r1 T2 n1 o1
         generalize (dk[(k + 1)]!).cells = cJ at HN r2 T2 n2 o2
         have O1 := hid o1
         have O2 := hid o2
         have hy := And.intro r1 r2
         clear hi hj hLV r1 r2 o1 o2
         go_wp2_with fail
         refine wp_region_Z [2, 3, 4, 10, 11, 12, 14, 15, 16, 17] (fun X => X.rangeAt g (k * 6) cI ∧ X.rangeAt g ((k + 1) * 6) cJ) (by kernel_rfl) ?_
         rw [← hV]
         clear hV
         refine wpAnyZ_pure (i := 2) (v := ?_) rfl (by kernel_rfl) (by kernel_rfl) (by kernel_rfl) (by kernel_rfl) (fun _ _ _ h => h) (Or.inl ⟨by rfl, ?_⟩) ?_
         rotate_left
         · (intro wy hSw; go_simp; try with_reducible rfl)
         try simp only [Act.put, List.setIfInBounds_toArray]
         refine wpAnyZ_pure (i := 3) (v := ?_) rfl (by kernel_rfl) (by kernel_rfl) (by kernel_rfl) (by kernel_rfl) (fun _ _ _ h => h) (Or.inl ⟨by rfl, ?_⟩) ?_
         rotate_left
         · (intro wy hSw; go_simp; try with_reducible rfl)
         try simp only [Act.put]
         refine wpAnyZ_pure (i := 4) (v := ?_) rfl (by kernel_rfl) (by kernel_rfl) (by kernel_rfl) (by kernel_rfl) (fun _ _ _ h => h) (Or.inl ⟨by rfl, ?_⟩) ?_
         rotate_left
         · (intro wy hSw; go_simp; try with_reducible rfl)
         try simp only [Act.put]
         refine wpAnyZ_pure (i := 10) (v := ?_) rfl (by kernel_rfl) (by kernel_rfl) (by kernel_rfl) (by kernel_rfl) (fun _ _ _ h => h) (Or.inl ⟨by rfl, ?_⟩) ?_
         rotate_left
         · (intro wy hSw; go_simp; try with_reducible rfl)
         try simp only [Act.put]
         refine wpAnyZ_pure (i := 11) (v := ?_) rfl (by kernel_rfl) (by kernel_rfl) (by kernel_rfl) (by kernel_rfl) (fun _ _ _ h => h) (Or.inl ⟨by rfl, ?_⟩) ?_
         rotate_left
         · (intro wy hSw; go_simp; try with_reducible rfl)
         try simp only [Act.put]
         refine wpAnyZ_pure (i := 12) (v := ?_) rfl (by kernel_rfl) (by kernel_rfl) (by kernel_rfl) (by kernel_rfl) (fun _ _ _ h => h) (Or.inl ⟨by rfl, ?_⟩) ?_
         rotate_left
         · (intro wy hSw; go_simp; try with_reducible rfl)
         try simp only [Act.put]
         refine wpAnyZ_take (i := 0) (v := ?_) rfl (by kernel_rfl) (by kernel_rfl) (by kernel_rfl) (by kernel_rfl) (fun _ _ _ h => h) (Or.inl ⟨by rfl, ?_⟩) hy ?_
         rotate_left
         · (intro wy hSw; go_simp; try with_reducible rfl)
         try simp only [Act.put]
         refine wpAnyZ_take (i := 1) (v := ?_) rfl (by kernel_rfl) (by kernel_rfl) (by kernel_rfl) (by kernel_rfl) (fun _ _ _ h => h) (Or.inl ⟨by rfl, ?_⟩) hy ?_
         rotate_left
         · (intro wy hSw; go_simp; try with_reducible rfl)
         try simp only [Act.put]
         refine wpAnyZ_take (i := 5) (v := ?_) rfl (by kernel_rfl) (by kernel_rfl) (by kernel_rfl) (by kernel_rfl) (fun _ _ _ h => h) (Or.inl ⟨by rfl, ?_⟩) hy ?_
         rotate_left
         · (intro wy hSw; go_simp; try with_reducible rfl)
         try simp only [Act.put]
         refine wpAnyZ_take (i := 6) (v := ?_) rfl (by kernel_rfl) (by kernel_rfl) (by kernel_rfl) (by kernel_rfl) (fun _ _ _ h => h) (Or.inl ⟨by rfl, ?_⟩) hy ?_
         rotate_left
         · (intro wy hSw; go_simp; try with_reducible rfl)
         try simp only [Act.put]
         refine wpAnyZ_take (i := 7) (v := ?_) rfl (by kernel_rfl) (by kernel_rfl) (by kernel_rfl) (by kernel_rfl) (fun _ _ _ h => h) (Or.inl ⟨by rfl, ?_⟩) hy ?_
         rotate_left
         · (intro wy hSw; go_simp; try with_reducible rfl)
         try simp only [Act.put]
         refine wpAnyZ_take (i := 8) (v := ?_) rfl (by kernel_rfl) (by kernel_rfl) (by kernel_rfl) (by kernel_rfl) (fun _ _ _ h => h) (Or.inl ⟨by rfl, ?_⟩) hy ?_
         rotate_left
         · (intro wy hSw; go_simp; try with_reducible rfl)
         try simp only [Act.put]
         simp only [List.getElem_toArray, List.getElem_cons_succ, List.getElem_cons_zero, List.setIfInBounds_toArray, List.set_cons_succ, List.set_cons_zero]
         refine wpAnyZ_take (i := 9) rfl (by kernel_rfl) (by kernel_rfl) (by kernel_rfl) (by kernel_rfl) (fun _ _ _ h => h) (yieldsIf_load_mid (by rfl) 43 (.tmp 69) rfl g ((k + 1) * 6) (by rfl) cJ _ (fun X hX => hX.2) Tryz.underlying43 rfl (by rw [show (Tryz.prog.info? 43).map (·.size) = some 6 from file_size]; exact congrArg some (Eq.symm (by assumption)))) hy ?_
         try simp only [Act.put]
         refine wpAnyZ_take (i := 13) rfl (by kernel_rfl) (by kernel_rfl) (by kernel_rfl) (by kernel_rfl) (fun _ _ _ h => h) (yieldsIf_load_mid (by rfl) 43 (.tmp 73) rfl g (k * 6) (by rfl) cI _ (fun X hX => hX.1) Tryz.underlying43 rfl (by rw [show (Tryz.prog.info? 43).map (·.size) = some 6 from file_size]; exact congrArg some (Eq.symm (by assumption)))) hy ?_
         try simp only [Act.put]
         refine wpAnyZ_pure (i := 14) (v := ?_) rfl (by kernel_rfl) (by kernel_rfl) (by kernel_rfl) (by kernel_rfl) (fun _ _ _ h => h) (Or.inl ⟨by rfl, ?_⟩) ?_
         rotate_left
         · (intro wy hSw; go_simp; try with_reducible rfl)
         try simp only [Act.put]
         simp only [List.getElem_toArray, List.getElem_cons_succ, List.getElem_cons_zero, List.setIfInBounds_toArray, List.set_cons_succ, List.set_cons_zero]
         refine wpAnyZ_one (i := 15) (by kernel_rfl) (by kernel_rfl) rfl (fun K hK => ?_)
         refine step_store_mid (by rfl) (by rfl) 43 (.tmp 75) (.tmp 70) (by rfl) g (k * 6) cJ.toArray (by rfl) (by rfl) (by rw [List.size_toArray, n2]; exact T1.out) (by rw [List.size_toArray, n2]; exact file_size) (all_oneCell_toArray O2.out) ?_
         refine hK _ _ ?_
         clear hK
         refine wpAnyZ_pure (i := 16) (v := ?_) rfl (by kernel_rfl) (by kernel_rfl) (by kernel_rfl) (by kernel_rfl) (fun _ _ _ h => h) (Or.inl ⟨by rfl, ?_⟩) ?_
         rotate_left
         · (intro wy hSw; go_simp; try with_reducible rfl)
         try simp only [Act.put]
         simp only [List.getElem_toArray, List.getElem_cons_succ, List.getElem_cons_zero, List.setIfInBounds_toArray, List.set_cons_succ, List.set_cons_zero]
         refine wpAnyZ_one (i := 17) (by kernel_rfl) (by kernel_rfl) rfl (fun K hK => ?_)
         refine step_store_mid (by rfl) (by rfl) 43 (.tmp 76) (.tmp 74) (by rfl) g ((k + 1) * 6) cI.toArray (by rfl) (by rfl) (by rw [List.size_toArray, n1]; exact T2.out) (by rw [List.size_toArray, n1]; exact file_size) (all_oneCell_toArray O1.out) ?_
         refine hK _ _ ?_
         clear hK
         refine wpAnyZ_end (by kernel_rfl) ?_
         rw [List.toList_toArray]
         have HN2 := HN
         generalize (V.setCells g (k * 6) cJ).setCells g ((k + 1) * 6) cI = W2 at HN2 ⊢
         clear HN
         go_wp2_with fail
         exact ⟨⟨k + 1, _, by simp, by omega, by omega, HN2, HE⟩, by simp only [intOf]; omega⟩
       · have hlt2' : ¬ (k : Int) < (j : Int) - 1 := by omega
         have hke : k = j - 1 := by omega
         have HS : Hid (SortedIn ltV a b dk) := hid (one_left ltV_swo (i := j) (by omega) (by omega) (by rw [← HM1.out]; exact HSR.out) (by rw [← HM1.out]; exact HC.out.1) HC.out.2 (by rw [show j = k + 1 by omega]; exact HR.out.1))
         go_wp2_with fail
         go_end0
         exact ⟨rfl, dk, HL.out, HR.out.2, HS.out⟩
set_option maxHeartbeats 4000000 in
set_option maxRecDepth 100000 in
theorem merge_last (w0 w : World) (base g c : Nat) (d : Array Vf) (a m b : Nat) (h : Lay w0 base g c d w) (ham : a < m) (hmb : m < b) (hb : b ≤ d.size) (hd : d.size ≤ 1000000) (hL : SortedIn ltV a m d) (hR : SortedIn ltV m b d) (hm1 : ¬ m = a + 1) (hb1 : b = m + 1) :
   Calls Tryz.prog 157 #[.slice (some ⟨g, 0, none⟩) d.size c, .int .i64 (a : Int), .int .i64 (m : Int), .int .i64 (b : Int), plF] w (MergeP w0 base g c d a b) := by
 have H0 := hid h
 have HSL := hid hL
 have HSR := hid hR
 clear h hL hR
 unfold plF
 have HB1 := hid hb1
 have hb2 : b ≤ m + 1 := by omega
 clear hb1
 have t1 : ((m : Int) - (a : Int) == 1) = false := by
   have : ¬ (m : Int) - (a : Int) = 1 := by omega
   simp [this]
 have t2 : ((b : Int) - (m : Int) == 1) = true := by
   have : (b : Int) - (m : Int) = 1 := by omega
   simp [this]
 go_enter Tryz.func157, Tryz.ntmps157
 go_wp2_with fail
 go_loopw [14, 15] (fun x y wr => ∃ i j : Nat, x = .int .i64 (i : Int) ∧ y = .int .i64 (j : Int) ∧ a ≤ i ∧ i ≤ j ∧ j ≤ m ∧ Hid (Lay w0 base g c d wr) ∧ Hid ((i = a ∨ ltV d[m]! d[i - 1]! = false) ∧ (j = m ∨ ltV d[m]! d[j]! = true))) (fun x y _ => (intOf y).toNat - (intOf x).toNat)
 case atStart => exact ⟨a, m, rfl, rfl, Nat.le_refl _, by omega, Nat.le_refl _, H0, hid ⟨.inl rfl, .inl rfl⟩⟩
 case round =>
   obtain ⟨i, j, rfl, rfl, hmi, hij, hjb, HL, HC⟩ := hrel
   by_cases hlt : i < j
   · have hlt' : (i : Int) < (j : Int) := by omega
     obtain ⟨h, hh⟩ : ∃ h, h = (i + j) / 2 := ⟨_, rfl⟩
     have hh1 : i ≤ h := by omega
     have hh2 : h < j := by omega
     have e3 : ((i : Int) + (j : Int)) / 2 = (h : Int) := by omega
     have hi : m < d.size := by omega
     have hj : h < d.size := by omega
     clear hh
     have b1 : (h : Int) < (d.size : Int) := by omega
     have b2 : (m : Int) < (d.size : Int) := by omega
     go_upto_region 17 with fail
     go_cut [103] from 83 to 106 (fun v wx => v = .bool (!ltV d[m]! d[h]!) ∧ Hid (Lay w0 base g c d wx))
     case first =>
       obtain ⟨V, hV⟩ : ∃ V, V = wr.drew := ⟨_, rfl⟩
       have hLV : Lay w0 base g c d V := by rw [hV]; exact HL.out.drew
       have r1 := hLV.rg hi
       have r2 := hLV.rg hj
       have KP := hid (place_at hLV hi hj)
       have HRG : Hid (∀ X, Lay w0 base g c d X → X.rangeAt g (m * 6) (d[m]!).cells ∧ X.rangeAt g (h * 6) (d[h]!).cells) := hid (fun X hX => ⟨hX.rg hi, hX.rg hj⟩)
       have n1 : (d[m]!).cells.length = 6 := rfl
       have n2 : (d[h]!).cells.length = 6 := rfl
       obtain ⟨bl, hbl⟩ : ∃ bl, bl = ltV d[m]! d[h]! := ⟨_, rfl⟩
       rw [← hbl] at KP
       have HBL0 := hid hbl
       generalize (d[m]!).cells = cI at r1 KP n1 HRG
       generalize (d[h]!).cells = cJ at r2 KP n2 HRG
       have hy := And.intro r1 r2
       clear hLV r1 r2 hbl hi hj
       refine wp_region_E 11 (fun X => X.rangeAt g (m * 6) cI ∧ X.rangeAt g (h * 6) cJ) (by kernel_rfl) ?_
       rw [← hV]
       clear hV
       refine wTs [10, 9] (i := 0) (v := ?_) rfl (Or.inl ⟨by rfl, ?_⟩) hy ?_
       rotate_left
       · (intro wy hSw; go_simp; try with_reducible rfl)
       try simp only [Act.put, List.setIfInBounds_toArray]
       refine wTs [10, 9, 4, 3] (i := 1) (v := ?_) rfl (Or.inl ⟨by rfl, ?_⟩) hy ?_
       rotate_left
       · (intro wy hSw; go_simp; try with_reducible rfl)
       try simp only [Act.put]
       refine wTs [10, 9, 4, 3] (i := 2) (v := ?_) rfl (Or.inl ⟨by rfl, ?_⟩) hy ?_
       rotate_left
       · (intro wy hSw; go_simp; try with_reducible rfl)
       try simp only [Act.put]
       refine wTs [10, 9, 4] (i := 3) (v := ?_) rfl (Or.inl ⟨by rfl, ?_⟩) hy ?_
       rotate_left
       · (intro wy hSw; go_simp; try with_reducible rfl)
       try simp only [Act.put]
       simp only [List.getElem_toArray, List.getElem_cons_succ, List.getElem_cons_zero, List.setIfInBounds_toArray, List.set_cons_succ, List.set_cons_zero]
       refine wpAnyE_takes [10, 9] (i := 4) rfl (by kernel_rfl) (by kernel_rfl) (by kernel_rfl) (by kernel_rfl) (by kernel_rfl) (fun _ _ _ h => h) (yieldsIf_load_mid (by rfl) 43 (.tmp 95) rfl g (m * 6) (by rfl) cI _ (fun X hX => hX.1) Tryz.underlying43 rfl (by rw [show (Tryz.prog.info? 43).map (·.size) = some 6 from file_size]; exact congrArg some (Eq.symm (by assumption)))) hy ?_
       try simp only [Act.put]
       refine wTs [10, 9, 8, 7] (i := 5) (v := ?_) rfl (Or.inl ⟨by rfl, ?_⟩) hy ?_
       rotate_left
       · (intro wy hSw; go_simp; try with_reducible rfl)
       try simp only [Act.put]
       refine wTs [10, 9, 8, 7] (i := 6) (v := ?_) rfl (Or.inl ⟨by rfl, ?_⟩) hy ?_
       rotate_left
       · (intro wy hSw; go_simp; try with_reducible rfl)
       try simp only [Act.put]
       refine wTs [10, 9, 8] (i := 7) (v := ?_) rfl (Or.inl ⟨by rfl, ?_⟩) hy ?_
       rotate_left
       · (intro wy hSw; go_simp; try with_reducible rfl)
       try simp only [Act.put]
       simp only [List.getElem_toArray, List.getElem_cons_succ, List.getElem_cons_zero, List.setIfInBounds_toArray, List.set_cons_succ, List.set_cons_zero]
       refine wpAnyE_takes [10, 9] (i := 8) rfl (by kernel_rfl) (by kernel_rfl) (by kernel_rfl) (by kernel_rfl) (by kernel_rfl) (fun _ _ _ h => h) (yieldsIf_load_mid (by rfl) 43 (.tmp 99) rfl g (h * 6) (by rfl) cJ _ (fun X hX => hX.2) Tryz.underlying43 rfl (by rw [show (Tryz.prog.info? 43).map (·.size) = some 6 from file_size]; exact congrArg some (Eq.symm (by assumption)))) hy ?_
       try simp only [Act.put]
       simp only [List.getElem_toArray, List.getElem_cons_succ, List.getElem_cons_zero, List.setIfInBounds_toArray, List.set_cons_succ, List.set_cons_zero]
       refine wpAnyE_one (i := 9) (by kernel_rfl) rfl (fun K hK => ?_)
       refine step_callf2_dv (by rfl) (some 101) (by rfl) (.tmp 92) (.tmp 96) (.tmp 100) (by rfl) (by rfl) (.agg cI.toArray) (.agg cJ.toArray) rfl rfl (enters_of Tryz.func43 (by kernel_rfl) rfl) _ KP.out ?_
       rintro e w5 ⟨x, rfl, hx, hl⟩
       have HL5 := hid hl
       have hy5 := HRG.out w5 hl
       refine ⟨_, rfl, ?_⟩
       refine hK _ _ hy5 ?_
       clear hK K hl hy KP
       simp only [Act.put, List.setIfInBounds_toArray, List.set_cons_succ, List.set_cons_zero]
       refine wTs [] (i := 10) (v := ?_) rfl (Or.inl ⟨by rfl, ?_⟩) hy5 ?_
       rotate_left
       · (intro wy hSw; obtain ⟨hs1, hs2⟩ := hSw; go_simp; try with_reducible rfl)
       try simp only [Act.put]
       refine wpAnyE_last (by kernel_rfl) (by kernel_rfl) rfl (fun K hK => ?_)
       go_simp
       refine hK _ _ ?_
       clear hK
       go_wp2_with fail
       go_meet
       exact ⟨by rw [HBL0.out], HL5⟩
     case rest =>
       obtain ⟨rfl, HL2⟩ := hcut
       obtain ⟨bl, hbl⟩ : ∃ bl, bl = ltV d[m]! d[h]! := ⟨_, rfl⟩
       rw [← hbl]
       have HBL := hid hbl
       clear hbl HL
       rcases bl with _ | _
       · go_wp2_with fail
         exact ⟨⟨h + 1, j, by simp, rfl, by omega, by omega, hjb, HL2, hid ⟨.inr (by rw [show h + 1 - 1 = h by omega]; exact HBL.out.symm), HC.out.2⟩⟩, by simp only [intOf]; omega⟩
       · go_wp2_with fail
         exact ⟨⟨i, h, rfl, rfl, hmi, hh1, by omega, HL2, hid ⟨HC.out.1, .inr HBL.out.symm⟩⟩, by simp only [intOf]; omega⟩
   · have hlt' : ¬ (i : Int) < (j : Int) := by omega
     have hji : j = i := by omega
     subst hji
     go_wp2_with fail
     go_loopw [17] (fun x wr2 => ∃ (k : Nat) (dk : Array Vf), x = .int .i64 (k : Int) ∧ j ≤ k ∧ k ≤ m ∧ Hid (Lay w0 base g c dk wr2) ∧ Hid (Rot k m (m + 1) d dk ∧ PermIn a b d dk)) (fun x _ => (intOf x).toNat)
     case atStart => exact ⟨m, d, rfl, by omega, Nat.le_refl _, HL, hid ⟨Rot.left d (.inl rfl), permIn_refl _ _ _⟩⟩
     case round =>
       obtain ⟨k, dk, rfl, hak, hkj, HL, HR⟩ := hrel
       have HSZ : Hid (dk.size = d.size) := hid HR.out.2.1
       by_cases hlt2 : j < k
       · obtain ⟨kp, rfl⟩ : ∃ kp, k = kp + 1 := ⟨k - 1, by omega⟩
         have hlt2' : (j : Int) < (kp : Int) + 1 := by omega
         have hi : kp + 1 < dk.size := by rw [HSZ.out]; omega
         have hj : kp < dk.size := by rw [HSZ.out]; omega
         have HE : Hid (Rot kp m (m + 1) d (swp dk (kp + 1) kp) ∧ PermIn a b d (swp dk (kp + 1) kp)) := hid ⟨Rot.down (by omega) (by omega) HR.out.1, permIn_trans _ _ _ _ _ HR.out.2 (swp_permIn _ a b _ _ (by omega) (by omega) (by omega) (by omega) (by rw [HSZ.out]; exact hb))⟩
         have b1 : (kp : Int) < (d.size : Int) := by omega
         have uw : IntKind.i64.wrap (kp : Int) = (kp : Int) := by rw [IntKind.wrap_i64]; omega
         have fp0 : (0 : Int) ≤ ((kp : Int) + 1) := by omega
         have fb0 : ((kp : Int) + 1) < (d.size : Int) := by omega
         have fe0 : (((kp : Int) + 1)).toNat = kp + 1 := by omega
         have fu0 : IntKind.i64.wrap (((kp : Int) + 1)) = ((kp : Int) + 1) := by rw [IntKind.wrap_i64]; omega
         obtain ⟨V, hV⟩ : ∃ V, V = wr.drew := ⟨_, rfl⟩
         have hLV : Lay w0 base g c dk V := by rw [hV]; exact HL.out.drew
         have r1 := hLV.rg hi
         have r2 := hLV.rg hj
         have T1 := hid (hLV.there hi)
         have T2 : Hid ((V.setCells g ((kp + 1) * 6) (dk[kp]!).cells).there g (kp * 6) 6) := hid ((hLV.put hi _ (hLV.okk hj)).there (by simpa using hj))
         have HN : Hid (Lay w0 base g c (swp dk (kp + 1) kp) ((V.setCells g ((kp + 1) * 6) (dk[kp]!).cells).setCells g (kp * 6) (dk[(kp + 1)]!).cells)) := hid (hLV.swap hi hj)
         have n1 : (dk[(kp + 1)]!).cells.length = 6 := rfl
         have n2 : (dk[kp]!).cells.length = 6 := rfl
         have o1 := vf_one (dk[(kp + 1)]!)
         have o2 := vf_one (dk[kp]!)
         generalize (dk[(kp + 1)]!).cells = cI at HN r1 T2 n1 o1
         generalize (dk[kp]!).cells = cJ at HN r2 T2 n2 o2
         have O1 := hid o1
         have O2 := hid o2
         have hy := And.intro r1 r2
         clear hi hj hLV r1 r2 o1 o2
         go_wp2_with fail
         refine wp_region_Z [2, 3, 4, 10, 11, 12, 14, 15, 16, 17] (fun X => X.rangeAt g ((kp + 1) * 6) cI ∧ X.rangeAt g (kp * 6) cJ) (by kernel_rfl) ?_
         rw [← hV]
         clear hV
         refine wpAnyZ_pure (i := 2) (v := ?_) rfl (by kernel_rfl) (by kernel_rfl) (by kernel_rfl) (by kernel_rfl) (fun _ _ _ h => h) (Or.inl ⟨by rfl, ?_⟩) ?_
         rotate_left
         · (intro wy hSw; go_simp; try with_reducible rfl)
         try simp only [Act.put, List.setIfInBounds_toArray]
         refine wpAnyZ_pure (i := 3) (v := ?_) rfl (by kernel_rfl) (by kernel_rfl) (by kernel_rfl) (by kernel_rfl) (fun _ _ _ h => h) (Or.inl ⟨by rfl, ?_⟩) ?_
         rotate_left
         · (intro wy hSw; go_simp; try with_reducible rfl)
         try simp only [Act.put]
         refine wpAnyZ_pure (i := 4) (v := ?_) rfl (by kernel_rfl) (by kernel_rfl) (by kernel_rfl) (by kernel_rfl) (fun _ _ _ h => h) (Or.inl ⟨by rfl, ?_⟩) ?_
         rotate_left
         · (intro wy hSw; go_simp; try with_reducible rfl)
         try simp only [Act.put]
         refine wpAnyZ_pure (i := 10) (v := ?_) rfl (by kernel_rfl) (by kernel_rfl) (by kernel_rfl) (by kernel_rfl) (fun _ _ _ h => h) (Or.inl ⟨by rfl, ?_⟩) ?_
         rotate_left
         · (intro wy hSw; go_simp; try with_reducible rfl)
         try simp only [Act.put]
         refine wpAnyZ_pure (i := 11) (v := ?_) rfl (by kernel_rfl) (by kernel_rfl) (by kernel_rfl) (by kernel_rfl) (fun _ _ _ h => h) (Or.inl ⟨by rfl, ?_⟩) ?_
         rotate_left
         · (intro wy hSw; go_simp; try with_reducible rfl)
         try simp only [Act.put]
         refine wpAnyZ_pure (i := 12) (v := ?_) rfl (by kernel_rfl) (by kernel_rfl) (by kernel_rfl) (by kernel_rfl) (fun _ _ _ h => h) (Or.inl ⟨by rfl, ?_⟩) ?_
         rotate_left
         · (intro wy hSw; go_simp; try with_reducible rfl)
         try simp only [Act.put]
         refine wpAnyZ_take (i := 0) (v := ?_) rfl (by kernel_rfl) (by kernel_rfl) (by kernel_rfl) (by kernel_rfl) (fun _ _ _ h => h) (Or.inl ⟨by rfl, ?_⟩) hy ?_
         rotate_left
         · (intro wy hSw; go_simp; try with_reducible rfl)
         try simp only [Act.put]
         refine wpAnyZ_take (i := 1) (v := ?_) rfl (by kernel_rfl) (by kernel_rfl) (by kernel_rfl) (by kernel_rfl) (fun _ _ _ h => h) (Or.inl ⟨by rfl, ?_⟩) hy ?_
         rotate_left
         · (intro wy hSw; go_simp; try with_reducible rfl)
         try simp only [Act.put]
         refine wpAnyZ_take (i := 5) (v := ?_) rfl (by kernel_rfl) (by kernel_rfl) (by kernel_rfl) (by kernel_rfl) (fun _ _ _ h => h) (Or.inl ⟨by rfl, ?_⟩) hy ?_
         rotate_left
         · (intro wy hSw; go_simp; try with_reducible rfl)
         try simp only [Act.put]
         refine wpAnyZ_take (i := 6) (v := ?_) rfl (by kernel_rfl) (by kernel_rfl) (by kernel_rfl) (by kernel_rfl) (fun _ _ _ h => h) (Or.inl ⟨by rfl, ?_⟩) hy ?_
         rotate_left
         · (intro wy hSw; go_simp; try with_reducible rfl)
         try simp only [Act.put]
         refine wpAnyZ_take (i := 7) (v := ?_) rfl (by kernel_rfl) (by kernel_rfl) (by kernel_rfl) (by kernel_rfl) (fun _ _ _ h => h) (Or.inl ⟨by rfl, ?_⟩) hy ?_
         rotate_left
         · (intro wy hSw; go_simp; try with_reducible rfl)
         try simp only [Act.put]
         refine wpAnyZ_take (i := 8) (v := ?_) rfl (by kernel_rfl) (by kernel_rfl) (by kernel_rfl) (by kernel_rfl) (fun _ _ _ h => h) (Or.inl ⟨by rfl, ?_⟩) hy ?_
         rotate_left
         · (intro wy hSw; go_simp; try with_reducible rfl)
         try simp only [Act.put]
         simp only [List.getElem_toArray, List.getElem_cons_succ, List.getElem_cons_zero, List.setIfInBounds_toArray, List.set_cons_succ, List.set_cons_zero]
         refine wpAnyZ_take (i := 9) rfl (by kernel_rfl) (by kernel_rfl) (by kernel_rfl) (by kernel_rfl) (fun _ _ _ h => h) (yieldsIf_load_mid (by rfl) 43 (.tmp 121) rfl g (kp * 6) (by rfl) cJ _ (fun X hX => hX.2) Tryz.underlying43 rfl (by rw [show (Tryz.prog.info? 43).map (·.size) = some 6 from file_size]; exact congrArg some (Eq.symm (by assumption)))) hy ?_
         try simp only [Act.put]
         refine wpAnyZ_take (i := 13) rfl (by kernel_rfl) (by kernel_rfl) (by kernel_rfl) (by kernel_rfl) (fun _ _ _ h => h) (yieldsIf_load_mid (by rfl) 43 (.tmp 125) rfl g ((kp + 1) * 6) (by rfl) cI _ (fun X hX => hX.1) Tryz.underlying43 rfl (by rw [show (Tryz.prog.info? 43).map (·.size) = some 6 from file_size]; exact congrArg some (Eq.symm (by assumption)))) hy ?_
         try simp only [Act.put]
         refine wpAnyZ_pure (i := 14) (v := ?_) rfl (by kernel_rfl) (by kernel_rfl) (by kernel_rfl) (by kernel_rfl) (fun _ _ _ h => h) (Or.inl ⟨by rfl, ?_⟩) ?_
         rotate_left
         · (intro wy hSw; go_simp; try with_reducible rfl)
         try simp only [Act.put]
         simp only [List.getElem_toArray, List.getElem_cons_succ, List.getElem_cons_zero, List.setIfInBounds_toArray, List.set_cons_succ, List.set_cons_zero]
         refine wpAnyZ_one (i := 15) (by kernel_rfl) (by kernel_rfl) rfl (fun K hK => ?_)
         refine step_store_mid (by rfl) (by rfl) 43 (.tmp 127) (.tmp 122) (by rfl) g ((kp + 1) * 6) cJ.toArray (by rfl) (by rfl) (by rw [List.size_toArray, n2]; exact T1.out) (by rw [List.size_toArray, n2]; exact file_size) (all_oneCell_toArray O2.out) ?_
         refine hK _ _ ?_
         clear hK
         refine wpAnyZ_pure (i := 16) (v := ?_) rfl (by kernel_rfl) (by kernel_rfl) (by kernel_rfl) (by kernel_rfl) (fun _ _ _ h => h) (Or.inl ⟨by rfl, ?_⟩) ?_
         rotate_left
         · (intro wy hSw; go_simp; try with_reducible rfl)
         try simp only [Act.put]
         simp only [List.getElem_toArray, List.getElem_cons_succ, List.getElem_cons_zero, List.setIfInBounds_toArray, List.set_cons_succ, List.set_cons_zero]
         refine wpAnyZ_one (i := 17) (by kernel_rfl) (by kernel_rfl) rfl (fun K hK => ?_)
         refine step_store_mid (by rfl) (by rfl) 43 (.tmp 128) (.tmp 126) (by rfl) g (kp * 6) cI.toArray (by rfl) (by rfl) (by rw [List.size_toArray, n1]; exact T2.out) (by rw [List.size_toArray, n1]; exact file_size) (all_oneCell_toArray O1.out) ?_
         refine hK _ _ ?_
         clear hK
         refine wpAnyZ_end (by kernel_rfl) ?_
         rw [List.toList_toArray]
         have HN2 := HN
         generalize (V.setCells g ((kp + 1) * 6) cJ).setCells g (kp * 6) cI = W2 at HN2 ⊢
         clear HN
         go_wp2_with fail
         exact ⟨⟨kp, _, by simp, by omega, by omega, HN2, HE⟩, by simp only [intOf]; omega⟩
       · have hlt2' : ¬ (j : Int) < (k : Int) := by omega
         have hke : k = j := by omega
         have HS : Hid (SortedIn ltV a b dk) := hid (by
           rw [HB1.out]
           exact one_right ltV_swo (i := j) (by omega) (by omega) HSL.out HC.out.1 HC.out.2 (by rw [← hke]; exact HR.out.1))
         go_wp2_with fail
         go_end0
         exact ⟨rfl, dk, HL.out, HR.out.2, HS.out⟩
end Sym
namespace Sym
set_option maxHeartbeats 4000000 in
set_option maxRecDepth 100000 in
theorem merge_step (w0 w : World) (base g c : Nat) (d : Array Vf) (a m b : Nat) (h : Lay w0 base g c d w) (ham : a < m) (hmb : m < b) (hb : b ≤ d.size) (hd : d.size ≤ 1000000) (hL : SortedIn ltV a m d) (hR : SortedIn ltV m b d) (hm1 : ¬ m = a + 1) (hb1 : ¬ b = m + 1)
   (KI : ∀ (W : World) (e : Array Vf) (x y z : Nat), e.size = d.size → z - x < b - a → Lay w0 base g c e W → x < y → y < z → z ≤ d.size → SortedIn ltV x y e → SortedIn ltV y z e →
     Calls Tryz.prog 157 #[.slice (some ⟨g, 0, none⟩) d.size c, .int .i64 (x : Int), .int .i64 (y : Int), .int .i64 (z : Int), plF] W (MergeP w0 base g c e x z)) :
   Calls Tryz.prog 157 #[.slice (some ⟨g, 0, none⟩) d.size c, .int .i64 (a : Int), .int .i64 (m : Int), .int .i64 (b : Int), plF] w (MergeP w0 base g c d a b) := by
 have H0 := hid h
 have HSL := hid hL
 have HSR := hid hR
 clear h hL hR
 unfold plF
 have HKI := hid KI
 clear KI
 unfold plF at HKI
 have t1 : ((m : Int) - (a : Int) == 1) = false := by
   have : ¬ (m : Int) - (a : Int) = 1 := by omega
   simp [this]
 have t2 : ((b : Int) - (m : Int) == 1) = false := by
   have : ¬ (b : Int) - (m : Int) = 1 := by omega
   simp [this]
 obtain ⟨mid, hmid⟩ : ∃ mid, mid = (a + b) / 2 := ⟨_, rfl⟩
 obtain ⟨n, hn⟩ : ∃ n, n = mid + m := ⟨_, rfl⟩
 obtain ⟨p, hp⟩ : ∃ p, p = n - 1 := ⟨_, rfl⟩
 have hm2 : a < mid := by omega
 have hm3 : mid < b := by omega
 have f1 : ((a : Int) + (b : Int)) / 2 = (mid : Int) := by omega
 have f2 : (mid : Int) + (m : Int) = (n : Int) := by omega
 have f3 : (n : Int) - 1 = (p : Int) := by omega
 obtain ⟨lo', hlo⟩ : ∃ x, x = lo a m b := ⟨_, rfl⟩
 obtain ⟨hi', hhi⟩ : ∃ x, x = hi a m b := ⟨_, rfl⟩
 have HLO := hid hlo
 have HHI := hid hhi
 have HMID := hid (And.intro hmid (And.intro hn hp))
 have hbd : a ≤ lo' ∧ lo' ≤ hi' ∧ hi' ≤ m ∧ hi' ≤ mid ∧ n - 1 - lo' < b ∧ (mid < m → lo' = n - b ∧ hi' = mid ∧ b ≤ n) ∧ (¬ mid < m → lo' = a ∧ hi' = m) := by
   rw [hlo, hhi]
   unfold lo hi
   rw [← hmid]
   split <;> omega
 obtain ⟨c1, c2, c3, c4, c5, c6, c7⟩ := hbd
 have HC6 := hid c6
 have HC7 := hid c7
 have hnn : n ≤ 2000000 := by omega
 have hpn : p + 1 = n := by omega
 have hnm : hi' < n := by omega
 clear hlo hhi hmid c6 c7 hp hn hpn
 go_enter Tryz.func157, Tryz.ntmps157
 go_upto_if 140 with fail
 go_cut [20, 21] from 138 to 146 (fun x y wx => x = .int .i64 (lo' : Int) ∧ y = .int .i64 (hi' : Int) ∧ wx = w)
 case first =>
   by_cases hmm : mid < m
   · have hmm' : (mid : Int) < (m : Int) := by omega
     obtain ⟨q1, q2, q3⟩ := HC6.out hmm
     have q4 : (n : Int) - (b : Int) = (lo' : Int) := by omega
     have q5 : (mid : Int) = (hi' : Int) := by omega
     have Q5 := hid q5
     clear q1 q2 q3 q5
     go_wp2_with fail
     go_meet
     exact ⟨rfl, by rw [Q5.out], rfl⟩
   · have hmm' : ¬ (mid : Int) < (m : Int) := by omega
     obtain ⟨q1, q2⟩ := HC7.out hmm
     have q4 : (a : Int) = (lo' : Int) := by omega
     have q5 : (m : Int) = (hi' : Int) := by omega
     have Q4 := hid q4
     have Q5 := hid q5
     clear q1 q2 q4 q5
     go_wp2_with fail
     go_meet
     exact ⟨by rw [Q4.out], by rw [Q5.out], rfl⟩
 case rest =>
   obtain ⟨rfl, rfl, rfl⟩ := hcut
   go_wp2_with fail
   go_loopw [20, 21] (fun x y wr => ∃ s r : Nat, x = .int .i64 (s : Int) ∧ y = .int .i64 (r : Int) ∧ lo' ≤ s ∧ s ≤ r ∧ r ≤ hi' ∧ Hid (Lay w0 base g c d wr) ∧ Hid ((s = lo' ∨ ltV d[n - 1 - (s - 1)]! d[s - 1]! = false) ∧ (r = hi' ∨ ltV d[n - 1 - r]! d[r]! = true))) (fun x y _ => (intOf y).toNat - (intOf x).toNat)
   case atStart => exact ⟨lo', hi', rfl, rfl, Nat.le_refl _, c2, Nat.le_refl _, H0, hid ⟨.inl rfl, .inl rfl⟩⟩
   case round =>
     obtain ⟨s, r, rfl, rfl, hls, hsr, hrh, HL, HC⟩ := hrel
     by_cases hlt : s < r
     · have hlt' : (s : Int) < (r : Int) := by omega
       obtain ⟨h, hh⟩ : ∃ h, h = (s + r) / 2 := ⟨_, rfl⟩
       have hh1 : s ≤ h := by omega
       have hh2 : h < r := by omega
       have e3 : ((s : Int) + (r : Int)) / 2 = (h : Int) := by omega
       obtain ⟨q, hq⟩ : ∃ q, q = p - h := ⟨_, rfl⟩
       have e4 : (p : Int) - (h : Int) = (q : Int) := by omega
       have HQ : Hid (n - 1 - h = q) := hid (by omega)
       have hi : q < d.size := by omega
       have hj : h < d.size := by omega
       clear hh hq
       have b1 : (q : Int) < (d.size : Int) := by omega
       have b2 : (h : Int) < (d.size : Int) := by omega
       have uw : IntKind.i64.wrap (q : Int) = (q : Int) := by rw [IntKind.wrap_i64]; omega
       go_upto_region 35 with fail
       go_cut [171] from 149 to 174 (fun v wx => v = .bool (!ltV d[q]! d[h]!) ∧ Hid (Lay w0 base g c d wx))
       case first =>
         obtain ⟨V, hV⟩ : ∃ V, V = wr.drew := ⟨_, rfl⟩
         have hLV : Lay w0 base g c d V := by rw [hV]; exact HL.out.drew
         have r1 := hLV.rg hi
         have r2 := hLV.rg hj
         have KP := hid (place_at hLV hi hj)
         have HRG : Hid (∀ X, Lay w0 base g c d X → X.rangeAt g (q * 6) (d[q]!).cells ∧ X.rangeAt g (h * 6) (d[h]!).cells) := hid (fun X hX => ⟨hX.rg hi, hX.rg hj⟩)
         have n1 : (d[q]!).cells.length = 6 := rfl
         have n2 : (d[h]!).cells.length = 6 := rfl
         obtain ⟨bl, hbl⟩ : ∃ bl, bl = ltV d[q]! d[h]! := ⟨_, rfl⟩
         rw [← hbl] at KP
         have HBL0 := hid hbl
         generalize (d[q]!).cells = cI at r1 KP n1 HRG
         generalize (d[h]!).cells = cJ at r2 KP n2 HRG
         have hy := And.intro r1 r2
         clear hLV r1 r2 hbl hi hj
         refine wp_region_E 13 (fun X => X.rangeAt g (q * 6) cI ∧ X.rangeAt g (h * 6) cJ) (by kernel_rfl) ?_
         rw [← hV]
         clear hV
         refine wTs [12, 11] (i := 0) (v := ?_) rfl (Or.inl ⟨by rfl, ?_⟩) hy ?_
         rotate_left
         · (intro wy hSw; go_simp; try with_reducible rfl)
         try simp only [Act.put, List.setIfInBounds_toArray]
         refine wTs [12, 11, 6, 5] (i := 1) (v := ?_) rfl (Or.inl ⟨by rfl, ?_⟩) hy ?_
         rotate_left
         · (intro wy hSw; go_simp; try with_reducible rfl)
         try simp only [Act.put]
         refine wTs [12, 11, 6, 5, 4] (i := 2) (v := ?_) rfl (Or.inl ⟨by rfl, ?_⟩) hy ?_
         rotate_left
         · (intro wy hSw; go_simp; try with_reducible rfl)
         try simp only [Act.put]
         refine wTs [12, 11, 6, 5, 4] (i := 3) (v := ?_) rfl (Or.inl ⟨by rfl, ?_⟩) hy ?_
         rotate_left
         · (intro wy hSw; go_simp; try with_reducible rfl)
         try simp only [Act.put]
         refine wTs [12, 11, 6, 5] (i := 4) (v := ?_) rfl (Or.inl ⟨by rfl, ?_⟩) hy ?_
         rotate_left
         · (intro wy hSw; go_simp; try with_reducible rfl)
         try simp only [Act.put]
         refine wTs [12, 11, 6] (i := 5) (v := ?_) rfl (Or.inl ⟨by rfl, ?_⟩) hy ?_
         rotate_left
         · (intro wy hSw; go_simp; try with_reducible rfl)
         try simp only [Act.put]
         simp only [List.getElem_toArray, List.getElem_cons_succ, List.getElem_cons_zero, List.setIfInBounds_toArray, List.set_cons_succ, List.set_cons_zero]
         refine wpAnyE_takes [12, 11] (i := 6) rfl (by kernel_rfl) (by kernel_rfl) (by kernel_rfl) (by kernel_rfl) (by kernel_rfl) (fun _ _ _ h => h) (yieldsIf_load_mid (by rfl) 43 (.tmp 163) rfl g (q * 6) (by rfl) cI _ (fun X hX => hX.1) Tryz.underlying43 rfl (by rw [show (Tryz.prog.info? 43).map (·.size) = some 6 from file_size]; exact congrArg some (Eq.symm (by assumption)))) hy ?_
         try simp only [Act.put]
         refine wTs [12, 11, 10, 9] (i := 7) (v := ?_) rfl (Or.inl ⟨by rfl, ?_⟩) hy ?_
         rotate_left
         · (intro wy hSw; go_simp; try with_reducible rfl)
         try simp only [Act.put]
         refine wTs [12, 11, 10, 9] (i := 8) (v := ?_) rfl (Or.inl ⟨by rfl, ?_⟩) hy ?_
         rotate_left
         · (intro wy hSw; go_simp; try with_reducible rfl)
         try simp only [Act.put]
         refine wTs [12, 11, 10] (i := 9) (v := ?_) rfl (Or.inl ⟨by rfl, ?_⟩) hy ?_
         rotate_left
         · (intro wy hSw; go_simp; try with_reducible rfl)
         try simp only [Act.put]
         simp only [List.getElem_toArray, List.getElem_cons_succ, List.getElem_cons_zero, List.setIfInBounds_toArray, List.set_cons_succ, List.set_cons_zero]
         refine wpAnyE_takes [12, 11] (i := 10) rfl (by kernel_rfl) (by kernel_rfl) (by kernel_rfl) (by kernel_rfl) (by kernel_rfl) (fun _ _ _ h => h) (yieldsIf_load_mid (by rfl) 43 (.tmp 167) rfl g (h * 6) (by rfl) cJ _ (fun X hX => hX.2) Tryz.underlying43 rfl (by rw [show (Tryz.prog.info? 43).map (·.size) = some 6 from file_size]; exact congrArg some (Eq.symm (by assumption)))) hy ?_
         try simp only [Act.put]
         simp only [List.getElem_toArray, List.getElem_cons_succ, List.getElem_cons_zero, List.setIfInBounds_toArray, List.set_cons_succ, List.set_cons_zero]
         refine wpAnyE_one (i := 11) (by kernel_rfl) rfl (fun K hK => ?_)
         refine step_callf2_dv (by rfl) (some 169) (by rfl) (.tmp 158) (.tmp 164) (.tmp 168) (by rfl) (by rfl) (.agg cI.toArray) (.agg cJ.toArray) rfl rfl (enters_of Tryz.func43 (by kernel_rfl) rfl) _ KP.out ?_
         rintro e w5 ⟨x, rfl, hx, hl⟩
         have HL5 := hid hl
         have hy5 := HRG.out w5 hl
         refine ⟨_, rfl, ?_⟩
         refine hK _ _ hy5 ?_
         clear hK K hl hy KP
         simp only [Act.put, List.setIfInBounds_toArray, List.set_cons_succ, List.set_cons_zero]
         refine wTs [] (i := 12) (v := ?_) rfl (Or.inl ⟨by rfl, ?_⟩) hy5 ?_
         rotate_left
         · (intro wy hSw; obtain ⟨hs1, hs2⟩ := hSw; go_simp; try with_reducible rfl)
         try simp only [Act.put]
         refine wpAnyE_last (by kernel_rfl) (by kernel_rfl) rfl (fun K hK => ?_)
         go_simp
         refine hK _ _ ?_
         clear hK
         go_wp2_with fail
         go_meet
         exact ⟨by rw [HBL0.out], HL5⟩
       case rest =>
         obtain ⟨rfl, HL2⟩ := hcut
         obtain ⟨bl, hbl⟩ : ∃ bl, bl = ltV d[q]! d[h]! := ⟨_, rfl⟩
         rw [← hbl]
         have HBL := hid hbl
         clear hbl HL
         rcases bl with _ | _
         · go_wp2_with fail
           exact ⟨⟨h + 1, r, by simp, rfl, by omega, by omega, hrh, HL2, hid ⟨.inr (by rw [show h + 1 - 1 = h by omega, HQ.out]; exact HBL.out.symm), HC.out.2⟩⟩, by simp only [intOf]; omega⟩
         · go_wp2_with fail
           exact ⟨⟨s, h, rfl, rfl, hls, hh1, by omega, HL2, hid ⟨HC.out.1, .inr (by rw [HQ.out]; exact HBL.out.symm)⟩⟩, by simp only [intOf]; omega⟩
     · have hlt' : ¬ (s : Int) < (r : Int) := by omega
       have hrs : r = s := by omega
       subst hrs
       obtain ⟨t, ht⟩ : ∃ t, t = n - r := ⟨_, rfl⟩
       have e5 : (n : Int) - (r : Int) = (t : Int) := by omega
       have htb : t ≤ b := by omega
       have HT := hid ht
       have hrm : r ≤ m := by omega
       have hmt0 : m ≤ t := by
         have h9 := HMID.out.2.1
         rcases Nat.lt_or_ge mid m with h8 | h8
         · have := HC6.out h8; omega
         · have := HC7.out (by omega); omega
       clear ht hlt hlt'
       have hlt' : ¬ (r : Int) < (r : Int) := by omega
       obtain ⟨z, hz⟩ : ∃ z, z = (decide (r < m) && decide (m < t)) := ⟨_, rfl⟩
       have HZ := hid hz
       clear hz
       go_upto_region 39 with fail
       go_cut [185] from 178 to 185 (fun v wx => v = .bool z ∧ wx = wr)
       case first =>
         by_cases hsm : r < m
         · have hsm' : (r : Int) < (m : Int) := by omega
           by_cases hmt : m < t
           · have hmt' : (m : Int) < (t : Int) := by omega
             go_wp2_with fail
             go_meet
             exact ⟨by rw [HZ.out]; simp [hsm, hmt], rfl⟩
           · have hmt' : ¬ (m : Int) < (t : Int) := by omega
             go_wp2_with fail
             go_meet
             exact ⟨by rw [HZ.out]; simp [hmt], rfl⟩
         · have hsm' : ¬ (r : Int) < (m : Int) := by omega
           go_wp2_with fail
           go_meet
           exact ⟨by rw [HZ.out]; simp [hsm], rfl⟩
       case rest =>
       obtain ⟨rfl, rfl⟩ := hcut
       go_upto_if 185 with fail
       go_cut [] from 178 to 191 (fun wx => ∃ e, Hid (Lay w0 base g c e wx) ∧ Hid (Rot r m t d e ∧ PermIn a b d e))
       case first =>
         rcases z with _ | _
         · have HX : Hid (Rot r m t d d) := hid (Rot.left d (by
             have h1 := HZ.out.symm
             rw [Bool.and_eq_false_iff] at h1
             rcases h1 with h1 | h1
             · have := of_decide_eq_false h1
               exact .inl (by omega)
             · have h2 := of_decide_eq_false h1
               exact .inr (by omega)))
           go_wp2_with fail
           go_meet
           exact ⟨d, HL, hid ⟨HX.out, permIn_refl _ _ _⟩⟩
         · have hsm : r < m := by
             have h1 := HZ.out.symm
             rw [Bool.and_eq_true] at h1
             exact of_decide_eq_true h1.1
           have hmt : m < t := by
             have h1 := HZ.out.symm
             rw [Bool.and_eq_true] at h1
             exact of_decide_eq_true h1.2
           have KR := hid (rotate_int (.func (.func 43) #[] #[]) w0 _ base g c d r m t d.size rfl HL.out hsm hmt (by omega) hd)
           go_wp2_with fail
           refine KR.out.mono ?_
           rintro x w5 ⟨rfl, e, l1, l2, l3⟩
           have HX : Hid (Lay w0 base g c e w5 ∧ Rot r m t d e ∧ PermIn a b d e) := hid ⟨l1, l2, permIn_mono _ _ r t a b (by omega) (by omega) hb l3⟩
           clear l1 l2 l3 KR
           go_wp2_with fail
           go_meet
           exact ⟨e, hid HX.out.1, hid HX.out.2⟩
       case rest =>
         obtain ⟨e, HLE, HRE⟩ := hcut
         have HES : Hid (e.size = d.size) := hid HRE.out.1.size
         obtain ⟨x1, x2, x3, x4, x5, y1, y2, y3, y4, y5, y6⟩ := cross ltV_swo (s := r) (t := t) (n := n) (mid := mid) ham hmb HMID.out.1 HMID.out.2.1 HSL.out HSR.out (by rw [← HLO.out]; exact hls) (by rw [← HHI.out]; exact hrh) HT.out (by rw [← HLO.out]; exact HC.out.1) (by rw [← HHI.out]; exact HC.out.2) HRE.out.1
         have HX := hid (And.intro x1 (And.intro x2 (And.intro x3 (And.intro x4 x5))))
         clear x1 x2 x3 x4 x5
         obtain ⟨z, hz⟩ : ∃ z, z = (decide (a < r) && decide (r < mid)) := ⟨_, rfl⟩
         have HZ := hid hz
         clear hz
         go_upto_region 41 with fail
         go_cut [199] from 192 to 199 (fun v wx => v = .bool z ∧ wx = wc)
         case first =>
           by_cases hsm : a < r
           · have hsm' : (a : Int) < (r : Int) := by omega
             by_cases hmt : r < mid
             · have hmt' : (r : Int) < (mid : Int) := by omega
               go_wp2_with fail
               go_meet
               exact ⟨by rw [HZ.out]; simp [hsm, hmt], rfl⟩
             · have hmt' : ¬ (r : Int) < (mid : Int) := by omega
               go_wp2_with fail
               go_meet
               exact ⟨by rw [HZ.out]; simp [hmt], rfl⟩
           · have hsm' : ¬ (a : Int) < (r : Int) := by omega
             go_wp2_with fail
             go_meet
             exact ⟨by rw [HZ.out]; simp [hsm], rfl⟩
         case rest =>
         obtain ⟨rfl, rfl⟩ := hcut
         go_upto_if 199 with fail
         go_cut [] from 192 to 205 (fun wx => ∃ e2, Hid (Lay w0 base g c e2 wx) ∧ Hid (PermIn a mid e e2 ∧ SortedIn ltV a mid e2))
         case first =>
           rcases z with _ | _
           · have HX9 : Hid (SortedIn ltV a mid e) := hid (by
               have h1 := HZ.out.symm
               rw [Bool.and_eq_false_iff] at h1
               rcases h1 with h1 | h1
               · have := of_decide_eq_false h1
                 rw [show a = r by omega]; exact HX.out.2.2.1
               · have := of_decide_eq_false h1
                 rw [show mid = r by omega]; exact HX.out.2.1)
             go_wp2_with fail
             go_meet
             exact ⟨e, HLE, hid ⟨permIn_refl _ _ _, HX9.out⟩⟩
           · have has : a < r := by
               have h1 := HZ.out.symm
               rw [Bool.and_eq_true] at h1
               exact of_decide_eq_true h1.1
             have hsd : r < mid := by
               have h1 := HZ.out.symm
               rw [Bool.and_eq_true] at h1
               exact of_decide_eq_true h1.2
             have KR := hid (HKI.out _ e a r mid HES.out (by omega) HLE.out has hsd (by omega) HX.out.2.1 HX.out.2.2.1)
             go_wp2_with fail
             refine KR.out.mono ?_
             rintro x w5 ⟨rfl, e2, l1, l2, l3⟩
             have HX2 : Hid (Lay w0 base g c e2 w5 ∧ PermIn a mid e e2 ∧ SortedIn ltV a mid e2) := hid ⟨l1, l2, l3⟩
             clear l1 l2 l3 KR
             go_wp2_with fail
             go_meet
             exact ⟨e2, hid HX2.out.1, hid HX2.out.2⟩
         case rest =>
           obtain ⟨e2, HLE2, HP2⟩ := hcut
           have HE2S : Hid (e2.size = d.size) := hid (HP2.out.1.1.trans HES.out)
           have HS2 : Hid (SortedIn ltV mid t e2 ∧ SortedIn ltV t b e2) := hid ⟨HX.out.2.2.2.1.congr (fun i h1 h2 => HP2.out.1.2.1 i (.inr h1)), HX.out.2.2.2.2.congr (fun i h1 h2 => HP2.out.1.2.1 i (.inr (by omega)))⟩
           have HFIN : Hid (∀ e3, PermIn mid b e2 e3 → SortedIn ltV mid b e3 → PermIn a b d e3 ∧ SortedIn ltV a b e3) := hid (fun e3 p3 s3 => ⟨permIn_trans _ _ _ _ _ HRE.out.2 (permIn_trans _ _ _ _ _ (permIn_mono _ _ a mid a b (Nat.le_refl _) (by omega) (by have := HES.out; omega) HP2.out.1) (permIn_mono _ _ mid b a b (by omega) (Nat.le_refl _) (by have := HE2S.out; omega) p3)),
             halves (by have := HES.out; omega) (by omega) (by omega) HX.out.1 HP2.out.1 HP2.out.2 p3 s3⟩)
           by_cases hmt : mid < t
           · have hmt' : (mid : Int) < (t : Int) := by omega
             by_cases htb2 : t < b
             · have htb' : (t : Int) < (b : Int) := by omega
               have KR := hid (HKI.out _ e2 mid t b HE2S.out (by omega) HLE2.out hmt htb2 hb HS2.out.1 HS2.out.2)
               go_wp2_with fail
               refine KR.out.mono ?_
               rintro x w5 ⟨rfl, e3, l1, l2, l3⟩
               have HX3 : Hid (Lay w0 base g c e3 w5 ∧ PermIn a b d e3 ∧ SortedIn ltV a b e3) := hid ⟨l1, HFIN.out e3 l2 l3⟩
               clear l1 l2 l3 KR
               go_wp2_with fail
               go_end0
               exact ⟨rfl, e3, HX3.out⟩
             · have htb' : ¬ (t : Int) < (b : Int) := by omega
               have HX3 := hid (HFIN.out e2 (permIn_refl _ _ _) (by rw [show b = t by omega]; exact HS2.out.1))
               go_wp2_with fail
               go_end0
               exact ⟨rfl, e2, HLE2.out, HX3.out⟩
           · have hmt' : ¬ (mid : Int) < (t : Int) := by omega
             have HX3 := hid (HFIN.out e2 (permIn_refl _ _ _) (by rw [show mid = t by omega]; exact HS2.out.2))
             go_wp2_with fail
             go_end0
             exact ⟨rfl, e2, HLE2.out, HX3.out⟩
end Sym
namespace Sym
theorem symMerge_any (w0 : World) (base g c : Nat) : ∀ (n : Nat) (w : World) (d : Array Vf) (a m b : Nat), b - a ≤ n → Lay w0 base g c d w → a < m → m < b → b ≤ d.size → d.size ≤ 1000000 → SortedIn ltV a m d → SortedIn ltV m b d →
   Calls Tryz.prog 157 #[.slice (some ⟨g, 0, none⟩) d.size c, .int .i64 (a : Int), .int .i64 (m : Int), .int .i64 (b : Int), plF] w (MergeP w0 base g c d a b) := by
 intro n
 induction n with
 | zero => intro w d a m b h0 _ h1 h2; omega
 | succ n ih =>
   intro w d a m b h0 h ham hmb hb hd hL hR
   by_cases hm1 : m = a + 1
   · exact merge_one w0 w base g c d a m b h ham hmb hb hd hL hR hm1
   · by_cases hb1 : b = m + 1
     · exact merge_last w0 w base g c d a m b h ham hmb hb hd hL hR hm1 hb1
     · refine merge_step w0 w base g c d a m b h ham hmb hb hd hL hR hm1 hb1 (fun W e x y z hs hlt hl hxy hyz hz hsL hsR => ?_)
       have := ih W e x y z (by omega) hl hxy hyz (by omega) (by omega) hsL hsR
       rwa [hs] at this
theorem symMerge_int (w0 w : World) (base g c : Nat) (d : Array Vf) (a m b : Nat) (x y z : Int) (hx : x = (a : Int)) (hy : y = (m : Int)) (hz : z = (b : Int)) (s : Nat) (hs : s = d.size) (h : Lay w0 base g c d w) (ham : a < m) (hmb : m < b) (hb : b ≤ d.size) (hd : d.size ≤ 1000000) (hL : SortedIn ltV a m d) (hR : SortedIn ltV m b d) :
   Calls Tryz.prog 157 #[.slice (some ⟨g, 0, none⟩) s c, .int .i64 x, .int .i64 y, .int .i64 z, plF] w (MergeP w0 base g c d a b) := by
 subst hx hy hz hs
 exact symMerge_any w0 base g c (b - a) w d a m b (Nat.le_refl _) h ham hmb hb hd hL hR
theorem insertion_int (w0 w : World) (base g c : Nat) (d : Array Vf) (a b : Nat) (x y : Int) (hx : x = (a : Int)) (hy : y = (b : Int)) (s : Nat) (hs : s = d.size) (h : Lay w0 base g c d w) (hab : a ≤ b) (hb : b ≤ d.size) (hd : d.size ≤ 1000000) :
   Calls Tryz.prog 156 #[.slice (some ⟨g, 0, none⟩) s c, .int .i64 x, .int .i64 y, plF] w (MergeP w0 base g c d a b) := by
 subst hx hy hs
 exact insertion_any w0 w base g c d a b h hab hb hd
def Runs (s n : Nat) (d : Array Vf) : Prop := ∀ k, SortedIn ltV (k * s) (min ((k + 1) * s) n) d
def Pairs (s n j : Nat) (d : Array Vf) : Prop := (∀ k, k < j → SortedIn ltV (k * (2 * s)) ((k + 1) * (2 * s)) d) ∧ ∀ k, 2 * j ≤ k → SortedIn ltV (k * s) (min ((k + 1) * s) n) d
theorem Runs.pairs {s n : Nat} {d : Array Vf} (h : Runs s n d) : Pairs s n 0 d := ⟨fun k hk => by omega, fun k _ => h k⟩
theorem pairs_at {s j a : Nat} (ha : a = j * (2 * s)) : 2 * j * s = a ∧ (2 * j + 1) * s = a + s ∧ (2 * j + 2) * s = a + 2 * s ∧ (j + 1) * (2 * s) = a + 2 * s := by
 have e1 : 2 * j * s = a := by rw [ha, Nat.mul_comm 2 j, Nat.mul_assoc]
 exact ⟨e1, by rw [Nat.add_mul, e1, Nat.one_mul], by rw [Nat.add_mul, e1], by rw [Nat.add_mul, ← ha, Nat.one_mul]⟩
theorem Pairs.two {s n j a : Nat} {d : Array Vf} (h : Pairs s n j d) (ha : a = j * (2 * s)) : SortedIn ltV a (min (a + s) n) d ∧ SortedIn ltV (a + s) (min (a + 2 * s) n) d := by
 obtain ⟨e1, e2, e3, _⟩ := pairs_at ha
 have h1 := h.2 (2 * j) (Nat.le_refl _)
 have h2 := h.2 (2 * j + 1) (by omega)
 rw [e1, e2] at h1
 rw [e2, show 2 * j + 1 + 1 = 2 * j + 2 from rfl, e3] at h2
 exact ⟨h1, h2⟩
theorem Pairs.next {s n j a : Nat} {d e : Array Vf} (h : Pairs s n j d) (ha : a = j * (2 * s)) (hp : PermIn a (a + 2 * s) d e) (hs : SortedIn ltV a (a + 2 * s) e) : Pairs s n (j + 1) e := by
 obtain ⟨e1, e2, e3, e4⟩ := pairs_at ha
 refine ⟨fun k hk => ?_, fun k hk => ?_⟩
 · rcases Nat.lt_or_ge k j with h1 | h1
   · refine (h.1 k h1).congr (fun i h2 h3 => hp.2.1 i (.inl ?_))
     have : (k + 1) * (2 * s) ≤ j * (2 * s) := Nat.mul_le_mul_right _ h1
     omega
   · have hkj : k = j := by omega
     subst hkj
     rw [← ha, e4]
     exact hs
 · refine (h.2 k (by omega)).congr (fun i h2 h3 => hp.2.1 i (.inr ?_))
   have : (2 * j + 2) * s ≤ k * s := Nat.mul_le_mul_right _ (by omega)
   omega
theorem Pairs.done {s n j a : Nat} {d e : Array Vf} (h : Pairs s n j d) (ha : a = j * (2 * s)) (hn : n < a + 2 * s) (hp : PermIn a n d e) (hs : SortedIn ltV a n e) : Runs (2 * s) n e := by
 obtain ⟨e1, e2, e3, e4⟩ := pairs_at ha
 intro k
 rcases Nat.lt_trichotomy k j with h1 | h1 | h1
 · refine sorted_sub ((h.1 k h1).congr (fun i h2 h3 => hp.2.1 i (.inl ?_))) (Nat.le_refl _) (Nat.min_le_left _ _)
   have : (k + 1) * (2 * s) ≤ j * (2 * s) := Nat.mul_le_mul_right _ h1
   omega
 · subst h1
   rw [← ha]
   exact sorted_sub hs (Nat.le_refl _) (Nat.min_le_right _ _)
 · intro p q h2 h3 h4
   have h5 : (j + 1) * (2 * s) ≤ k * (2 * s) := Nat.mul_le_mul_right _ h1
   have := Nat.min_le_right ((k + 1) * (2 * s)) n
   omega
theorem Runs.all {s n : Nat} {d : Array Vf} (h : Runs s n d) (hn : n ≤ s) : SortedIn ltV 0 n d := by
 have := h 0
 rwa [Nat.zero_mul, Nat.zero_add, Nat.one_mul, Nat.min_eq_right hn] at this
theorem runs_first {n k : Nat} {d e : Array Vf} (h : ∀ i, i < k → SortedIn ltV (i * 20) ((i + 1) * 20) d) (hp : PermIn (k * 20) n d e) (hs : SortedIn ltV (k * 20) n e) (hn : n < k * 20 + 20) : Runs 20 n e := by
 intro i
 rcases Nat.lt_trichotomy i k with h1 | h1 | h1
 · exact sorted_sub ((h i h1).congr (fun x h2 h3 => hp.2.1 x (.inl (by omega)))) (Nat.le_refl _) (Nat.min_le_left _ _)
 · subst h1
   exact sorted_sub hs (Nat.le_refl _) (Nat.min_le_right _ _)
 · intro p q h2 h3 h4
   have := Nat.min_le_right ((i + 1) * 20) n
   omega
set_option maxHeartbeats 2000000 in
set_option maxRecDepth 100000 in
theorem stable_any (w0 w : World) (base g c : Nat) (d : Array Vf) (h : Lay w0 base g c d w) (hd : d.size ≤ 1000000) :
   Calls Tryz.prog 103 #[.slice (some ⟨g, 0, none⟩) d.size c, .int .i64 (d.size : Int), plF] w (MergeP w0 base g c d 0 d.size) := by
 have H0 := hid h
 clear h
 obtain ⟨fn, hfn⟩ : ∃ fn, fn = plF := ⟨_, rfl⟩
 rw [← hfn]
 have HF := hid hfn
 clear hfn
 obtain ⟨n, hn⟩ : ∃ n, n = d.size := ⟨_, rfl⟩
 have HN := hid hn
 rw [← hn] at hd ⊢
 clear hn
 go_enter Tryz.func103, Tryz.ntmps103
 go_wp2_with fail
 go_loopw [7, 8] (fun x y wr => ∃ (k : Nat) (dk : Array Vf), x = .int .i64 (k * 20 : Nat) ∧ y = .int .i64 ((k * 20 + 20 : Nat) : Int) ∧ k * 20 ≤ n ∧ Hid (Lay w0 base g c dk wr) ∧ Hid (PermIn 0 n d dk ∧ ∀ i, i < k → SortedIn ltV (i * 20) ((i + 1) * 20) dk)) (fun _ y _ => n + 20 - (intOf y).toNat)
 case atStart => exact ⟨0, d, rfl, rfl, by omega, H0, hid ⟨permIn_refl _ _ _, fun i hi => by omega⟩⟩
 case round =>
   obtain ⟨k, dk, rfl, rfl, hkn, HL, HP⟩ := hrel
   have HSZ : Hid (dk.size = n) := hid (by rw [HN.out]; exact HP.out.1.1)
   obtain ⟨a, ha⟩ : ∃ a, a = k * 20 := ⟨_, rfl⟩
   have HA := hid ha
   rw [← ha] at hkn ⊢
   clear ha
   by_cases hle : a + 20 ≤ n
   · have hle' : (a : Int) + 20 ≤ (n : Int) := by omega
     have KI := hid (insertion_int w0 wr base g c dk a (a + 20) (a : Int) ((a : Int) + 20) rfl (by omega) n HSZ.out.symm HL.out (by omega) (by rw [HSZ.out]; exact hle) (by rw [HSZ.out]; exact hd))
     rw [← HF.out] at KI
     go_wp2_with fail
     refine KI.out.mono ?_
     rintro r w5 ⟨rfl, e, l1, l2, l3⟩
     have HX : Hid (Lay w0 base g c e w5 ∧ PermIn 0 n d e ∧ ∀ i, i < k + 1 → SortedIn ltV (i * 20) ((i + 1) * 20) e) := hid ⟨l1, permIn_trans _ _ _ _ _ HP.out.1 (permIn_mono _ _ a (a + 20) 0 n (Nat.zero_le _) hle (by rw [HSZ.out]; exact Nat.le_refl _) l2), fun i hi => by
       have hA := HA.out
       rcases Nat.lt_or_ge i k with h1 | h1
       · exact (HP.out.2 i h1).congr (fun x h2 h3 => l2.2.1 x (.inl (by omega)))
       · have : i = k := by omega
         subst this
         rw [show (i + 1) * 20 = a + 20 by omega, ← hA]
         exact l3⟩
     clear l1 l2 l3 KI
     go_wp2_with fail
     exact ⟨⟨k + 1, e, congrArg (Value.int .i64) (by have := HA.out; omega), congrArg (Value.int .i64) (by have := HA.out; omega), by have := HA.out; omega, hid HX.out.1, hid HX.out.2⟩, by simp only [intOf]; omega⟩
   · have hle' : ¬ (a : Int) + 20 ≤ (n : Int) := by omega
     have KI := hid (insertion_int w0 wr base g c dk a n (a : Int) (n : Int) rfl rfl n HSZ.out.symm HL.out (by omega) (by rw [HSZ.out]; exact Nat.le_refl _) (by rw [HSZ.out]; exact hd))
     rw [← HF.out] at KI
     go_wp2_with fail
     refine KI.out.mono ?_
     rintro r w5 ⟨rfl, e, l1, l2, l3⟩
     have HX : Hid (Lay w0 base g c e w5 ∧ PermIn 0 n d e ∧ Runs 20 n e) := hid ⟨l1, permIn_trans _ _ _ _ _ HP.out.1 (permIn_mono _ _ a n 0 n (Nat.zero_le _) (Nat.le_refl _) (by rw [HSZ.out]; exact Nat.le_refl _) l2), runs_first HP.out.2 (by rw [← HA.out]; exact l2) (by rw [← HA.out]; exact l3) (by have := HA.out; omega)⟩
     clear l1 l2 l3 KI
     go_wp2_with fail
     go_loopw [6] (fun x wr => ∃ (s : Nat) (dk : Array Vf), x = .int .i64 (s : Int) ∧ 0 < s ∧ s ≤ 2000000 ∧ Hid (Lay w0 base g c dk wr) ∧ Hid (PermIn 0 n d dk ∧ Runs s n dk)) (fun x _ => n - (intOf x).toNat)
     case atStart => exact ⟨20, e, rfl, by omega, by omega, hid HX.out.1, hid HX.out.2⟩
     case round =>
       clear HX HP HL HSZ HA hkn hle hle'
       obtain ⟨s, dk, rfl, hs0, hs2, HL, HP⟩ := hrel
       have HSZ : Hid (dk.size = n) := hid (by rw [HN.out]; exact HP.out.1.1)
       by_cases hsn : s < n
       · have hsn' : (s : Int) < (n : Int) := by omega
         go_wp2_with fail
         go_loopw [7, 8] (fun x y wr => ∃ (a j : Nat) (dk : Array Vf), x = .int .i64 (a : Int) ∧ y = .int .i64 ((a : Int) + 2 * (s : Int)) ∧ Hid (a = j * (2 * s)) ∧ a ≤ n ∧ Hid (Lay w0 base g c dk wr) ∧ Hid (PermIn 0 n d dk ∧ Pairs s n j dk)) (fun x _ _ => n - (intOf x).toNat)
         case atStart => exact ⟨0, 0, dk, rfl, by simp, hid (by simp), by omega, HL, hid ⟨HP.out.1, HP.out.2.pairs⟩⟩
         case round =>
           clear HP HL HSZ
           obtain ⟨a, j, dk, rfl, rfl, HA, han, HL, HP⟩ := hrel
           have HSZ : Hid (dk.size = n) := hid (by rw [HN.out]; exact HP.out.1.1)
           by_cases hle : a + 2 * s ≤ n
           · have hle' : (a : Int) + 2 * (s : Int) ≤ (n : Int) := by omega
             obtain ⟨p1, p2⟩ := HP.out.2.two HA.out
             rw [Nat.min_eq_left (by omega)] at p1
             rw [Nat.min_eq_left hle] at p2
             have KI := hid (symMerge_int w0 wr base g c dk a (a + s) (a + 2 * s) (a : Int) ((a : Int) + (s : Int)) ((a : Int) + 2 * (s : Int)) rfl (by omega) (by omega) n HSZ.out.symm HL.out (by omega) (by omega) (by rw [HSZ.out]; exact hle) (by rw [HSZ.out]; exact hd) p1 p2)
             rw [← HF.out] at KI
             clear p1 p2
             go_wp2_with fail
             refine KI.out.mono ?_
             rintro r w5 ⟨rfl, e, l1, l2, l3⟩
             have HX : Hid (Lay w0 base g c e w5 ∧ PermIn 0 n d e ∧ Pairs s n (j + 1) e) := hid ⟨l1, permIn_trans _ _ _ _ _ HP.out.1 (permIn_mono _ _ a (a + 2 * s) 0 n (Nat.zero_le _) hle (by rw [HSZ.out]; exact Nat.le_refl _) l2), HP.out.2.next HA.out l2 l3⟩
             have HA2 : Hid (a + 2 * s = (j + 1) * (2 * s)) := hid (pairs_at HA.out).2.2.2.symm
             clear l1 l2 l3 KI
             go_wp2_with fail
             exact ⟨⟨a + 2 * s, j + 1, e, congrArg (Value.int .i64) (by omega), congrArg (Value.int .i64) (by omega), HA2, hle, hid HX.out.1, hid HX.out.2⟩, by simp only [intOf]; omega⟩
           · have hle' : ¬ (a : Int) + 2 * (s : Int) ≤ (n : Int) := by omega
             by_cases hms : a + s < n
             · have hms' : (a : Int) + (s : Int) < (n : Int) := by omega
               obtain ⟨p1, p2⟩ := HP.out.2.two HA.out
               rw [Nat.min_eq_left (by omega)] at p1
               rw [Nat.min_eq_right (by omega)] at p2
               have KI := hid (symMerge_int w0 wr base g c dk a (a + s) n (a : Int) ((a : Int) + (s : Int)) (n : Int) rfl (by omega) rfl n HSZ.out.symm HL.out (by omega) hms (by rw [HSZ.out]; exact Nat.le_refl _) (by rw [HSZ.out]; exact hd) p1 p2)
               rw [← HF.out] at KI
               clear p1 p2
               go_wp2_with fail
               refine KI.out.mono ?_
               rintro r w5 ⟨rfl, e, l1, l2, l3⟩
               have HX : Hid (Lay w0 base g c e w5 ∧ PermIn 0 n d e ∧ Runs (2 * s) n e) := hid ⟨l1, permIn_trans _ _ _ _ _ HP.out.1 (permIn_mono _ _ a n 0 n (Nat.zero_le _) (Nat.le_refl _) (by rw [HSZ.out]; exact Nat.le_refl _) l2), HP.out.2.done HA.out (by omega) l2 l3⟩
               clear l1 l2 l3 KI
               go_wp2_with fail
               exact ⟨⟨2 * s, e, congrArg (Value.int .i64) (by omega), by omega, by omega, hid HX.out.1, hid HX.out.2⟩, by simp only [intOf]; omega⟩
             · have hms' : ¬ (a : Int) + (s : Int) < (n : Int) := by omega
               have HX : Hid (Runs (2 * s) n dk) := hid (HP.out.2.done HA.out (by omega) (permIn_refl _ _ _) (by
                 have p1 := (HP.out.2.two HA.out).1
                 rwa [Nat.min_eq_right (by omega)] at p1))
               go_wp2_with fail
               exact ⟨⟨2 * s, dk, congrArg (Value.int .i64) (by omega), by omega, by omega, HL, hid ⟨HP.out.1, HX.out⟩⟩, by simp only [intOf]; omega⟩
       · have hsn' : ¬ (s : Int) < (n : Int) := by omega
         have HX : Hid (PermIn 0 d.size d dk ∧ SortedIn ltV 0 d.size dk) := hid (by rw [← HN.out]; exact ⟨HP.out.1, HP.out.2.all (by omega)⟩)
         go_wp2_with fail
         go_end0
         exact ⟨rfl, dk, HL.out, by rw [HN.out]; exact HX.out⟩
end Sym
namespace Sym
set_option maxRecDepth 100000 in
theorem insertion_nil (v fn : Value) (w : World) : Calls Tryz.prog 156 #[v, .int .i64 0, .int .i64 0, fn] w fun r w' => r = .returned (.tuple #[]) ∧ w' = w := by
 go_enter Tryz.func156, Tryz.ntmps156
 go_wp2_with fail
 go_loop [8] (fun x => x = .int .i64 1) (fun _ => 0)
 case atStart => rfl
 case round =>
   subst hrel
   go_wp2_with fail
   go_end0
   exact ⟨rfl, rfl⟩
set_option maxRecDepth 100000 in
theorem stable_nil (A : Option Addr) (c : Nat) (fn : Value) (w : World) : Calls Tryz.prog 103 #[.slice A 0 c, .int .i64 0, fn] w fun r w' => r = .returned (.tuple #[]) ∧ w' = w := by
 have KI := hid (insertion_nil (.slice A 0 c) fn w)
 go_enter Tryz.func103, Tryz.ntmps103
 go_wp2_with fail
 go_loop [7, 8] (fun x y => x = .int .i64 0 ∧ y = .int .i64 20) (fun _ _ => 0)
 case atStart => exact ⟨rfl, rfl⟩
 case round =>
   obtain ⟨rfl, rfl⟩ := hrel
   go_wp2_with fail
   refine KI.out.mono ?_
   rintro r w1 ⟨rfl, rfl⟩
   go_wp2_with fail
   go_loop [6] (fun x => x = .int .i64 20) (fun _ => 0)
   case atStart => rfl
   case round =>
     subst hrel
     go_wp2_with fail
     go_end0
     exact ⟨rfl, rfl⟩
theorem perm_all {d e : Array Vf} (h : PermIn 0 d.size d e) : e.toList.Perm d.toList := by
 have h1 := h.2.2
 have e1 : (d.extract 0 d.size) = d := by simp
 have e2 : (e.extract 0 d.size) = e := by rw [← h.1]; simp
 rwa [e1, e2] at h1
theorem srd_all {e : Array Vf} {n : Nat} (hn : n = e.size) (h : SortedIn ltV 0 n e) : Ver.Srd (e.toList.map Vf.fi) := by
 unfold Ver.Srd
 rw [List.pairwise_map, List.pairwise_iff_getElem]
 intro i j hi hj hij
 have hi' : i < e.size := by simpa using hi
 have hj' : j < e.size := by simpa using hj
 have := h i j (Nat.zero_le _) hij (by omega)
 rw [getElem!_pos e i hi', getElem!_pos e j hj'] at this
 simpa [ltV] using this
theorem Tn.low {w w' : World} {g D : Nat} (h : Tn w w' g) (hD : D ≤ g) (hs : D ≤ w.heap.size) : Below D w w' := ⟨h.os, h.tape, h.output, h.size, fun k hk => h.block k (by omega) (by omega)⟩
set_option maxHeartbeats 1000000 in
set_option maxRecDepth 100000 in
theorem sortStable_any (w : World) (base : Nat) (A : Option Addr) (c : Nat) (l : List Vf) (h : OwV w base A c l) (hl : l.length ≤ 1000000) (hbs : base ≤ w.heap.size) :
   Calls Tryz.prog 42 #[.slice A l.length c, plF] w fun r w' => r = .returned (.tuple #[]) ∧ ∃ l' : List Vf, l'.length = l.length ∧ OwV w' base A c l' ∧ (l'.map Vf.fi).Perm (l.map Vf.fi) ∧ Ver.Srd (l'.map Vf.fi) ∧ (∀ v ∈ l', v ∈ l) ∧ Below base w w' := by
 rcases Nat.eq_zero_or_pos l.length with h0 | h0
 · have e0 := List.eq_nil_of_length_eq_zero h0
   subst e0
   have HO := hid h
   have KS := hid (stable_nil A c plF w)
   unfold plF at *
   clear h
   go_enter Tryz.func42, Tryz.ntmps42
   go_wp2_with fail
   refine KS.out.mono ?_
   rintro r w1 ⟨rfl, rfl⟩
   go_wp2_with fail
   go_end0
   exact ⟨rfl, [], rfl, HO.out, List.Perm.refl _, List.Pairwise.nil, fun _ h => h, Below.refl _ _⟩
 · obtain ⟨g, cur, hA, hg, _, _⟩ := h.row.form h0
   subst hA
   have HG := hid hg
   have hz : l.toArray.size = l.length := by simp
   have KS := hid (stable_any w w base g c l.toArray ⟨by simpa using h, Tn.refl _ _⟩ (by simpa using hl))
   have HLL := hid hz
   rw [hz] at KS
   unfold plF at *
   clear h hz hg
   obtain ⟨n, hn⟩ : ∃ n, n = l.length := ⟨_, rfl⟩
   rw [← hn] at KS ⊢
   have HN := hid hn
   clear hn
   go_enter Tryz.func42, Tryz.ntmps42
   go_wp2_with fail
   refine KS.out.mono ?_
   rintro r w1 ⟨rfl, e, l1, l2, l3⟩
   have HX : Hid (∃ l' : List Vf, l'.length = n ∧ OwV w1 base (some ⟨g, 0, none⟩) c l' ∧ (l'.map Vf.fi).Perm (l.map Vf.fi) ∧ Ver.Srd (l'.map Vf.fi) ∧ (∀ v ∈ l', v ∈ l) ∧ Below base w w1) := hid (by
     have hn2 : n = l.toArray.size := by rw [HN.out]; exact HLL.out.symm
     rw [hn2] at l2 l3
     have hp := perm_all l2
     rw [List.toList_toArray] at hp
     exact ⟨e.toList, by rw [hp.length_eq, HN.out], l1.ow, hp.map _, srd_all l2.1.symm l3, fun v hv => hp.mem_iff.1 hv, l1.tn.low HG.out hbs⟩)
   clear l1 l2 l3 KS
   go_wp2_with fail
   go_end0
   exact ⟨rfl, HX.out⟩
end Sym
section
variable {α : Type} {f : α → List Value} {n : Nat} {w : World} {base g c : Nat} {e : TypeId} {l : List α}
theorem OwnS.front (hf : ∀ a, (f a).length = n) (h : OwnS f n w base e (some ⟨g, 0, none⟩) c l) {k : Nat} (hk : k ≤ l.length) : OwnS f n w base e (some ⟨g, 0, none⟩) c (l.take k) := by
 unfold OwnS World.ownsRow at h ⊢
 obtain ⟨h0, h2⟩ := h
 have hkl : (l.take k).length = k := by rw [List.length_take]; omega
 refine ⟨by rw [fm_len hf], ?_⟩
 rcases h2 with ⟨h2, _⟩ | ⟨g', cap, cur, hv, hb, hg, hn, hcap, hsz, htk⟩
 · cases h2
 · injection hv with q1 q2 q3
   injection q1 with q1
   injection q1 with q1
   subst q1 q3
   refine .inr ⟨g, c, cur, rfl, hb, hg, by omega, hcap, hsz, ?_⟩
   rw [hkl, fm_take hf, ← htk, List.take_take, Nat.min_eq_left (Nat.mul_le_mul_right _ hk)]
theorem OwnS.behind (h : OwnS f n w base e (some ⟨g, 0, none⟩) c l) (hc : l.length + 1 ≤ c) (vs : List Value) (hvs : vs.length = n) (h1 : ∀ v ∈ vs, v.oneCell' = true) : OwnS f n (w.setCells g (l.length * n) vs) base e (some ⟨g, 0, none⟩) c l := by
 unfold OwnS World.ownsRow at h ⊢
 obtain ⟨h0, h2⟩ := h
 refine ⟨h0, ?_⟩
 rcases h2 with ⟨h2, _⟩ | ⟨g', cap, cur, hv, hb, hg, hn, hcap, hsz, htk⟩
 · cases h2
 · injection hv with q1 q2 q3
   injection q1 with q1
   injection q1 with q1
   subst q1 q3
   have hkn : l.length * n + n ≤ cur.size := by
     have := Nat.mul_le_mul_right n hc
     rw [Nat.add_mul, Nat.one_mul] at this
     omega
   refine .inr ⟨g, c, (cur.toList.take (l.length * n) ++ vs ++ cur.toList.drop (l.length * n + vs.length)).toArray, rfl, hb, ?_, hn, hcap, ?_, ?_⟩
   · rw [setCells_row w g (l.length * n) e vs cur hg (by omega) h1]
     exact setRow_heap w g cur _ e (0, 0) hg
   · rw [← hsz]
     simp only [List.size_toArray, List.length_append, List.length_take, List.length_drop, Array.length_toList]
     omega
   · rw [List.toList_toArray, List.append_assoc, List.take_append_of_le_length (by simp only [List.length_take, Array.length_toList]; omega), List.take_of_length_le (by rw [List.length_take]; omega), htk]
theorem OwnS.room (h : OwnS f n w base e (some ⟨g, 0, none⟩) c l) (hc : l.length + 1 ≤ c) : w.there g (l.length * n) n := by
 unfold OwnS World.ownsRow at h
 obtain ⟨h0, h2⟩ := h
 rcases h2 with ⟨h2, _⟩ | ⟨g', cap, cur, hv, hb, hg, hn, hcap, hsz, htk⟩
 · cases h2
 · injection hv with q1 q2 q3
   injection q1 with q1
   injection q1 with q1
   subst q1 q3
   have hkn : l.length * n + n ≤ cur.size := by
     have := Nat.mul_le_mul_right n hc
     rw [Nat.add_mul, Nat.one_mul] at this
     omega
   exact fun j hj => ⟨by simp [World.cell?, hg]; omega, by simp [World.frozen?, hg]⟩
end
namespace Sym
def zeroF : List Value := [.int .i64 0, .int .i64 0, .slice none 0 0, .slice none 0 0, .int .i64 0, .int .i64 0]
theorem clear_one (w : World) (ty : TypeId) (g off c : Nat) (ht : w.there g off 6) :
   (Builtin.clear_ #[22] ty #[.slice (some ⟨g, off, none⟩) 1 c]).run Tryz.prog w = .ok (.tuple #[]) (w.setCells g off zeroF) := by
 have hst := run_storeCells_cells (P := Tryz.prog) g off zeroF 0 w (fun j hj => by simpa using (ht j hj).1) (fun j hj => by simpa using (ht j hj).2) (fun v hv => List.all_eq_true.1 (show (zeroF.all fun x => x.oneCell') = true from rfl) v hv)
 have hv : (zeroValue 43).run Tryz.prog w = .ok (.agg zeroF.toArray) w := by kernel_rfl
 have hz : (Builtin.zeroCells (Value.agg zeroF.toArray).cells 1).toList = zeroF := by kernel_rfl
 rw [Nat.add_zero] at hst
 simp [Builtin.clear_, run_underlying Tryz.underlying22, hv, hz, hst]
theorem step_append_spare {P : Program} {ops : Array Oper} {o : Oper} {a : Act} {w : World} {K : Act → World → Prop} {Q : Exit → Act → World → Prop} {E : Prop} (hgd : o.guard = none) (d : Option Tmp) (hd : o.dst = d) (s x : Operand) (t : TypeId)
   (ho : o.op = .call { callee := .builtin .append, args := #[s, x], argTypes := #[t, t] })
   (base : Nat) (e : TypeId) (i : TypeInfo) (size : Nat) (ht : P.underlying t = some (.slice e)) (hi : P.info? e = some i) (hsize : i.size = size)
   (g n cap : Nat) (xs : List Value) (hs : a.eval s = .slice (some ⟨g, 0, none⟩) n cap) (hown : w.ownsRow base e size (.slice (some ⟨g, 0, none⟩) n cap) n xs)
   (ad : Addr) (m c : Nat) (news : List Value) (hx : a.eval x = .slice (some ad) m c) (hl : news.length = m * size) (hnews : ∀ j u, news[j]? = some u → w.cell? (ad.add j) = some u) (h1 : ∀ u ∈ news, u.oneCell' = true)
   (hroom : n + m ≤ cap)
   (h : ∀ w', w'.ownsRow base e size (.slice (some ⟨g, 0, none⟩) (n + m) cap) (n + m) (xs ++ news) → w.grownBy w' (some g) → K (a.put d (.slice (some ⟨g, 0, none⟩) (n + m) cap)) w') :
   if Region.wanted o (yielded ops a.tmps) = true then Oper.wp P o a w K Q else E := by
 subst hd
 have hw : Region.wanted o (yielded ops a.tmps) = true := by simp [Region.wanted, hgd]
 rw [if_pos hw]
 exact wp_append_own_spare w s x t ho base e i size ht hi hsize g n cap xs hs hown ad m c news hx hl hnews h1 hroom h
set_option maxHeartbeats 1000000 in
set_option maxRecDepth 100000 in
theorem delete_any (w : World) (base g c : Nat) (l : List Vf) (i N : Nat) (h : OwV w base (some ⟨g, 0, none⟩) c l) (hN : l.length = N + 1) (hi : i ≤ N) (hl : l.length ≤ 1000000) (hbs : base ≤ w.heap.size) :
   Calls Tryz.prog 41 #[.slice (some ⟨g, 0, none⟩) (N + 1) c, .int .i64 (i : Int), .int .i64 ((i : Int) + 1)] w fun r w' => r = .returned (.slice (some ⟨g, 0, none⟩) N c) ∧ OwV w' base (some ⟨g, 0, none⟩) c (l.take i ++ l.drop (i + 1)) ∧ Below base w w' := by
 have HO := hid h
 have hcap : N + 1 ≤ c := by have := h.row.cap; omega
 have HN := hid hN
 clear h
 have z1 : (i : Int) ≤ (i : Int) + 1 := by omega
 have z2 : (i : Int) + 1 ≤ (N : Int) + 1 := by omega
 have z3 : (N : Int) + 1 ≤ (c : Int) := by omega
 have z4 : (i : Int) ≤ (c : Int) := by omega
 have z6 : (0 : Int) ≤ (i : Int) + 1 := by omega
 have z7 : ¬ c = N := by omega
 obtain ⟨ad, had⟩ : ∃ ad : Addr, (if c = i + 1 then some (⟨g, 0, none⟩ : Addr) else some ⟨g, (i + 1) * 6, none⟩) = some ad := by split <;> exact ⟨_, rfl⟩
 obtain ⟨inf, hinf, hisz⟩ : ∃ inf, Tryz.prog.info? 43 = some inf ∧ inf.size = 6 := by
   have := file_size
   cases hq : Tryz.prog.info? 43 with
   | none => rw [hq] at this; cases this
   | some inf => rw [hq] at this; injection this with this; exact ⟨inf, rfl, this⟩
 have z5 : ((i : Int) == (i : Int) + 1) = false := by
   have : ¬ (i : Int) = (i : Int) + 1 := by omega
   simp [this]
 go_enter Tryz.func41, Tryz.ntmps41
 go_wp2_with fail
 obtain ⟨V, hV⟩ : ∃ V, V = w.drew := ⟨_, rfl⟩
 have HOV : Hid (OwV V base (some ⟨g, 0, none⟩) c l) := hid (by rw [hV]; exact HO.out.below (Below.refl _ _).drew)
 have HBV : Hid (Below w.heap.size w V) := hid (by rw [hV]; exact (Below.refl _ _).drew)
 have HFR : Hid (V.ownsRow base 43 6 (.slice (some ⟨g, 0, none⟩) i c) i ((l.take i).flatMap Vf.cells)) := hid (by
   have h1 := HOV.out.row.front (f := Vf.cells) (n := 6) (fun _ => rfl) (k := i) (by omega)
   unfold OwnS at h1
   rwa [show (l.take i).length = i by rw [List.length_take]; omega] at h1)
 have HNW : Hid (∀ j u, ((l.drop (i + 1)).flatMap Vf.cells)[j]? = some u → V.cell? (ad.add j) = some u) := hid (by
   have hr := HOV.out.row.rd.drop (f := Vf.cells) (n := 6) (k := i + 1) (cap := c) (fun _ => rfl) (by omega) (by omega)
   intro j u hu
   rcases Nat.eq_zero_or_pos (l.drop (i + 1)).length with h0 | h0
   · rw [List.eq_nil_of_length_eq_zero h0] at hu
     cases hu
   · obtain ⟨ad', h1, _, h3⟩ := hr.2 h0
     have h4 : ((some (⟨g, 0, none⟩ : Addr)).map (fun x => x.add ((i + 1) * 6))) = some ⟨g, (i + 1) * 6, none⟩ := by
       simp [Addr.add]
     rw [h4, had] at h1
     injection h1 with h1
     rw [h1]
     exact h3 j u hu)
 have HNL : Hid (((l.drop (i + 1)).flatMap Vf.cells).length = (N - i) * 6) := hid (by rw [fm_len (f := Vf.cells) (n := 6) (fun _ => rfl), List.length_drop, hN, show N + 1 - (i + 1) = N - i by omega])
 refine wp_region_E 7 (fun _ => True) (by kernel_rfl) ?_
 rw [← hV]
 clear hV
 refine wT (i := 0) (v := ?_) rfl (Or.inl ⟨by rfl, ?_⟩) trivial ?_
 rotate_left
 · (intro wy hSw; go_simp; try with_reducible rfl)
 try simp only [Act.put, List.setIfInBounds_toArray]
 refine wT (i := 1) (v := ?_) rfl (Or.inl ⟨by rfl, ?_⟩) trivial ?_
 rotate_left
 · (intro wy hSw; go_simp; try with_reducible rfl)
 try simp only [Act.put]
 refine wT (i := 2) (v := ?_) rfl (Or.inl ⟨by rfl, ?_⟩) trivial ?_
 rotate_left
 · (intro wy hSw; go_simp; try with_reducible rfl)
 try simp only [Act.put]
 refine wT (i := 3) (v := ?_) rfl (Or.inl ⟨by rfl, ?_⟩) trivial ?_
 rotate_left
 · (intro wy hSw; go_simp; try with_reducible rfl)
 try simp only [Act.put]
 refine wT (i := 4) (v := ?_) rfl (Or.inl ⟨by rfl, ?_⟩) trivial ?_
 rotate_left
 · (intro wy hSw; go_simp; try with_reducible rfl)
 try simp only [Act.put]
 refine wT (i := 5) (v := ?_) rfl (Or.inl ⟨by rfl, ?_⟩) trivial ?_
 rotate_left
 · (intro wy hSw; go_simp; try with_reducible rfl)
 try simp only [Act.put]
 simp only [List.getElem_toArray, List.getElem_cons_succ, List.getElem_cons_zero, List.setIfInBounds_toArray, List.set_cons_succ, List.set_cons_zero]
 refine wpAnyE_one (i := 6) (by kernel_rfl) rfl (fun K hK => ?_)
 refine step_append_spare (by rfl) (some 26) (by rfl) (.tmp 22) (.tmp 25) 22 (by rfl) base 43 inf 6 Tryz.underlying22 hinf hisz g i c ((l.take i).flatMap Vf.cells) (by rfl) HFR.out ad (N - i) (c - (i + 1)) ((l.drop (i + 1)).flatMap Vf.cells) (by rfl) HNL.out HNW.out (fm_one vf_one _) (by omega) ?_
 intro w1 ho hg
 have hin : i + (N - i) = N := by omega
 have hlen : (l.take i ++ l.drop (i + 1)).length = N := by rw [List.length_append, List.length_take, List.length_drop, hN]; omega
 have HO1 : Hid (OwnS Vf.cells 6 w1 base 43 (some ⟨g, 0, none⟩) c (l.take i ++ l.drop (i + 1))) := hid (by
   unfold OwnS
   rw [hlen, List.flatMap_append, ← hin]
   exact ho)
 have HG := hid hg
 have HLN := hid hlen
 refine hK _ _ trivial ?_
 clear hK ho hg HFR HNW HNL hlen
 rw [hin]
 clear hin
 simp only [Act.put, List.setIfInBounds_toArray, List.set_cons_succ, List.set_cons_zero]
 refine wpAnyE_last (by kernel_rfl) (by kernel_rfl) rfl (fun K hK => ?_)
 go_simp
 refine hK _ _ ?_
 clear hK
 have HRM : Hid (w1.there g (N * 6) 6) := hid (by
   have h1 := HO1.out.room (by rw [HLN.out]; exact hcap)
   rwa [HLN.out] at h1)
 have KCL : ∀ ty, (Builtin.clear_ #[22] ty #[.slice (some ⟨g, N * 6, none⟩) 1 (c - N)]).run Tryz.prog w1 = .ok (.tuple #[]) (w1.setCells g (N * 6) zeroF) := fun ty => clear_one w1 ty g (N * 6) (c - N) HRM.out
 go_wp2_with fail
 go_ret
 obtain ⟨hgb, hgl⟩ := HOV.out.row.blk_ge g rfl
 have h1 := HO1.out.behind (by rw [HLN.out]; exact hcap) zeroF rfl (fun v hv => List.all_eq_true.1 (show (zeroF.all fun x => x.oneCell') = true from rfl) v hv)
 rw [HLN.out] at h1
 refine ⟨rfl, ⟨h1, fun v hv => ?_⟩, ?_⟩
 · have hm : v ∈ l := by
     rcases List.mem_append.1 hv with h | h
     · exact List.mem_of_mem_take h
     · exact List.mem_of_mem_drop h
   have ho := HOV.out.own v hm
   have key : ∀ q, blk v.FA = some q ∨ blk v.LA = some q → q < V.heap.size ∧ q ≠ g := fun q e => ⟨(ho.at_ e).2.lt, (ho.at_ e).2.ne (Sto.ownTagS HOV.out.row (k := g) rfl) (by decide)⟩
   refine ho.keep (Nat.le_trans HG.out.size (Tn.set w1 g _ _).size) (fun q e => ?_)
   rw [World.heap_setCells_other w1 g _ _ (Nat.lt_of_lt_of_le (key q e).1 HG.out.size) (key q e).2]
   exact HG.out.block q (key q e).1 (fun e2 => (key q e).2 (by injection e2))
 · exact below_setCells hgb _ _ _ (below_grow (HBV.out.mono hbs) HG.out (fun x hx => by injection hx with hx; subst hx; exact hgb) (Nat.le_trans hbs HBV.out.size))
end Sym
end Go.Proofs.YtgmnhdkdicgkcaaGreatDoor
