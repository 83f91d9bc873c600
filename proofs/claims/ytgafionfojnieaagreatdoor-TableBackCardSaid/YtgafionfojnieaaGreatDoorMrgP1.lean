/- 'tallage/tallagelaw11.TableBack' returns true at every input, the listed tables being what the program's text lays (the card ties them); its arguments read behind the call as before it: no condition. -/
import Derived.Test.YtgafionfojnieaaGreatDoorCards
import Derived.Test.YtgafionfojnieaaGreatDoorTie
import Derived.Test.YtgafionfojnieaaGreatDoorMrg23
import Derived.Test.YtgafionfojnieaaGreatDoorMrg25
import Derived.Test.YtgafionfojnieaaGreatDoorMrg51
namespace Go.Proofs.YtgafionfojnieaaGreatDoor.tableBack
open Go.ChangeShapes Go.WideShapes Go.ChangeAt Go.RowKit
open Go.ChangeMaps (open_string shut_string)
set_option linter.unusedVariables false
theorem own : ownKnob Tryz.prog.godebug = none := by kernel_rfl
theorem laidOut : laidOutB Tryz.prog = true := by kernel_rfl
set_option maxRecDepth 100000 in
theorem contract (H : Type) (enc : TypeId × Value → H) (W : World) (base : Nat) (args : Array Value) (ds gs : List (DataW H)) (before : List MemPlace)
   (hval : ∀ (j : Nat) t v, Tryz.f4.params[j]? = some t → args[j]? = some v → Value.okWide Tryz.prog W .any base t v)
   (hW : DataW.Whole enc Tryz.prog Tryz.f4.params.toList Rows.tableBackSpec.vars false W args.toList ds gs before) :
   Calls Tryz.prog 4 args W fun e W' => ∃ v, e = .returned v ∧ Rows.tableBackSpec.post enc Tryz.prog Tryz.f4 false true false false W args v W' := by
 have hW' := hW
 obtain ⟨p, q, hA0, hV, rfl, hfz, hnd⟩ := hW
 have hA : DataW.TrodAll enc Tryz.prog W 0 (fun _ => true) true Tryz.f4.params.toList args.toList ds p := hA0
 rw [Tryz.params4] at hA hval
 obtain ⟨v0, vs0, d0, ds0, p0, q0, hargs, rfl, rfl, h0, r0⟩ := trodAll_cons hA
 obtain ⟨v1, vs1, d1, ds1, p1, q1, rfl, rfl, rfl, h1, r1⟩ := trodAll_cons r0
 obtain ⟨v2, vs2, d2, ds2, p2, q2, rfl, rfl, rfl, h2, r2⟩ := trodAll_cons r1
 obtain ⟨rfl, rfl, rfl⟩ := trodAll_nil r2
 obtain rfl : args = #[v0, v1, v2] := by cases args; simp_all
 obtain ⟨rfl, rfl⟩ := trodVars_none hV
 obtain ⟨a0, len0, cap0, rfl⟩ := okWide_slice Tryz.underlying23 (hval 0 23 v0 rfl rfl)
 have k0 := h0
 have lt0 : ∀ x ∈ p0, x.block < W.heap.size := by obtain ⟨m, hm⟩ := k0; exact DataW.trod_lt m _ _ _ hm
 obtain ⟨l0, hl0, g0⟩ := recs_of h0
 subst hl0
 have k1 := h1
 have lt1 : ∀ x ∈ p1, x.block < W.heap.size := by obtain ⟨m, hm⟩ := k1; exact DataW.trod_lt m _ _ _ hm
 obtain ⟨e1, f1, rfl⟩ := pair_of (hval 1 43 v1 rfl rfl) h1
 obtain ⟨a2, len2, cap2, rfl⟩ := okWide_slice Tryz.underlying23 (hval 2 23 v2 rfl rfl)
 have k2 := h2
 have lt2 : ∀ x ∈ p2, x.block < W.heap.size := by obtain ⟨m, hm⟩ := k2; exact DataW.trod_lt m _ _ _ hm
 obtain ⟨l2, hl2, g2⟩ := recs_of h2
 subst hl2
 clear hA0
 refine (tableBack_walk a0 cap0 l0 e1 f1 a2 cap2 l2 W g0 g2).mono fun e W' ⟨he, bel⟩ => ?_
 subst he
 exact ⟨_, rfl, _, _, _, [], _, [], hW', trodAll_mk1 (shut_bool Tryz.underlying4 _), (trodAll_cons_mk (Below.trod laidOut (by kernel_rfl) (of_decide_eq_true (by kernel_rfl)) k0 bel lt0) (trodAll_cons_mk (Below.trod laidOut (by kernel_rfl) (of_decide_eq_true (by kernel_rfl)) k1 bel lt1) (trodAll_cons_mk (Below.trod laidOut (by kernel_rfl) (of_decide_eq_true (by kernel_rfl)) k2 bel lt2) trodAll_mk0))), rfl, bel.frame _, fun h => by cases h⟩
noncomputable def laidWorld (os : Os) : World := { World.holding Tryz.prog os ⟨#[], #[], []⟩ with heap := (Frame.layAt 1 Rows.laid_unicode_utf8_first (Frame.layAt 2 Rows.laid_unicode_utf8_acceptRanges (World.holding Tryz.prog os ⟨#[], #[], []⟩).heap)) }
theorem laid_met (os : Os) : laidMet Tryz.prog Rows.tableBackRow.laid ((laidWorld os).forCall (fun _ _ => 0) ⟨#[], #[.slice none 0 0, .agg #[.int .i64 0, .int .i64 0], .slice none 0 0], []⟩).memory :=
 laidMet_of_run' 8 (by kernel_rfl) (by kernel_rfl)
theorem reads (os : Os) {H : Type} (enc : TypeId × Value → H) : ∃ places, DataW.whole enc Tryz.prog ((laidWorld os).forCall (fun _ _ => 0) ⟨#[], #[.slice none 0 0, .agg #[.int .i64 0, .int .i64 0], .slice none 0 0], []⟩).memory Tryz.f4.params.toList Rows.tableBackSpec.vars false #[Value.slice none 0 0, .agg #[.int .i64 0, .int .i64 0], .slice none 0 0].toList 8 = some ([.nil, .agg [.lit (.int .i64 0), .lit (.int .i64 0)], .nil], [], places) :=
 ⟨[], by kernel_rfl⟩
set_option maxRecDepth 100000 in
theorem lifted (os : Os) (started : os.Started) (H : Type) (enc : TypeId × Value → H) (F : Stop.Interp) :
   ReturnsInHanded {} Tryz.checked os 4 .any ((OpenSpec.ofChange Rows.tableBackSpec).preRow enc Tryz.prog Tryz.f4 Rows.tableBackRow.domain false Rows.tableBackRow.laid) (((OpenSpec.ofChange Rows.tableBackSpec).at F).post enc Tryz.prog Tryz.f4 false true false false) := by
 obtain ⟨places, hx⟩ := reads os enc
 refine returnsInHanded_of_row (C := Tryz.checked) (s := OpenSpec.ofChange Rows.tableBackSpec) own started (by kernel_rfl) Tryz.func4
   (witness_row_at (enc := enc) (C := Tryz.checked) false (laidWorld os) #[.slice none 0 0, .agg #[.int .i64 0, .int .i64 0], .slice none 0 0] rfl (by kernel_rfl) (by kernel_rfl) (by kernel_rfl)
     (OpenSpec.preRow_of_cond 8 hx (by kernel_rfl) (fun k hk => by cases hk) (by kernel_rfl) (laid_met os))) ?_
 intro W base args ds gs before hval hW _ _ _ _ _ _
 exact contract H enc W base args ds gs before hval hW
theorem said : Rows.TableBackSaid :=
 OpenClaim.holds_of_cond 4 Tryz.f4 rfl rfl rfl rfl rfl rfl rfl ⟨rfl, rfl, rfl, rfl, rfl⟩ rfl rfl rfl rfl rfl (by kernel_rfl) Tryz.func4 (by kernel_rfl)
   (of_decide_eq_true (by kernel_rfl)) (by unfold Func.isWrapper; first | (rw [if_pos (by decide +kernel)]; kernel_rfl) | (rw [if_neg (by decide +kernel)]; exact ⟨rfl, rfl⟩))
   (fun os started H enc _ F => by rw [OpenClaim.pre_eq_preRow]; exact lifted os started H enc F)
theorem plain (f : FuncId) (fn : Func) (hf : Tryz.pinned.checked.prog.funcNamed (Rows.tableBackRow.func) = some f) (hfn : Tryz.pinned.checked.prog.funcs[f]? = some fn) :
   false = Tryz.pinned.checked.prog.looks [] ∧ ∀ (j : Nat) t, fn.params[j]? = some t → Tryz.pinned.checked.prog.wantsStandIn t = false := by
 obtain rfl : f = 4 := Option.some.inj ((show Tryz.prog.funcNamed (Rows.tableBackRow.func) = some 4 by kernel_rfl).symm.trans hf) |>.symm
 obtain rfl : fn = Tryz.f4 := (Option.some.inj (Tryz.func4.symm.trans hfn)).symm
 refine ⟨by kernel_rfl, fun j t ht => ?_⟩
 rw [Tryz.params4] at ht
 have hm := Array.mem_of_getElem? ht
 have ht' : t = 23 ∨ t = 43 ∨ t = 23 := by simpa using hm
 rcases ht' with rfl | rfl | rfl
 · exact (show Tryz.prog.wantsStandIn 23 = false by kernel_rfl)
 · exact (show Tryz.prog.wantsStandIn 43 = false by kernel_rfl)
 · exact (show Tryz.prog.wantsStandIn 23 = false by kernel_rfl)
theorem proved : Rows.TableBackCardSaid :=
 Claim7.holds_tied_plain_at .later [] _ _ _ _ said (fun _ h => by cases h) (by kernel_rfl) (fun _ h => by cases h) tableBack_row_tie rfl ⟨rfl, rfl⟩ (by kernel_rfl) rfl plain (by kernel_rfl)
#print axioms proved
end Go.Proofs.YtgafionfojnieaaGreatDoor.tableBack
