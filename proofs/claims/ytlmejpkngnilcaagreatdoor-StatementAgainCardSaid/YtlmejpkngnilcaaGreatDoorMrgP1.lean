/- 'tallage/tallagelaw22.StatementAgain' returns true at every input, the listed tables being what the program's text lays (the card ties them); its arguments read behind the call as before it: no condition. -/
import Derived.Test.YtlmejpkngnilcaaGreatDoorMrg04
import Derived.Test.YtlmejpkngnilcaaGreatDoorCards
import Derived.Test.YtlmejpkngnilcaaGreatDoorTie
import Derived.Test.YtlmejpkngnilcaaGreatDoorMrg08
import Derived.Test.YtlmejpkngnilcaaGreatDoorMrg09
import Derived.Test.YtlmejpkngnilcaaGreatDoorMrg42
import Derived.LaidSub
import Derived.LaidLaws
import Derived.Stop.LaidErr
namespace Go.Proofs.YtlmejpkngnilcaaGreatDoor.statementAgain
open Go.ChangeShapes Go.WideShapes Go.ChangeAt Go.RowKit
open Go.ChangeMaps (open_string shut_string)
set_option linter.unusedVariables false

theorem own : ownKnob Tryz.prog.godebug = none := by kernel_rfl
theorem laidOut : laidOutB Tryz.prog = true := by kernel_rfl

theorem tab_of (W : World) (h : laidMetH Tryz.prog Rows.statementAgainRow.laid W) : Tab W := by
  have h2 := (laidMetH_iff.1 h).1.filter (fun x => x.1 == "internal/strconv.uint64pow10")
  have e : ((Rows.statementAgainRow.laid).filter fun x => x.2.handleName?.isNone).filter (fun x => x.1 == "internal/strconv.uint64pow10") = [("internal/strconv.uint64pow10", Lib.tabData .u64 Lib.pow10Tab)] := by kernel_rfl
  rw [e] at h2
  exact Lib.tabIs_of_head (g := 2) (t := 186) (e := 80) (n := 20) (by kernel_rfl) (by kernel_rfl) Tryz.underlying186 Tryz.underlying80 (by kernel_rfl) (by kernel_rfl) h2
theorem star : "*" ++ "errors.errorString" = "*errors.errorString" := by decide
theorem row_ (u : TypeId) (h : Tryz.prog.typeName? 3 u = some "*errors.errorString") : u = 215 := typeName_ptr_named (nm := "errors.errorString") (by rw [star]; kernel_rfl) (by kernel_rfl) (by decide) u (by rw [star]; exact h)
theorem errS_ (W : World) (h : laidMetH Tryz.prog Rows.statementAgainRow.laid W) : ∃ v, W.cell? ⟨0, 0, none⟩ = some v ∧ (v = .nilIface ∨ ∃ te pe, v = .iface te pe) := by
  have h2 := (laidMetH_iff.1 h).1.filter (fun x => x.1 == "strconv.ErrSyntax")
  have e : ((Rows.statementAgainRow.laid).filter fun x => x.2.handleName?.isNone).filter (fun x => x.1 == "strconv.ErrSyntax") = [("strconv.ErrSyntax", .iface "*errors.errorString" (.ptr (.agg [.lit (.string [105, 110, 118, 97, 108, 105, 100, 32, 115, 121, 110, 116, 97, 120])])))] := by kernel_rfl
  rw [e] at h2
  obtain ⟨a, s, hv, _⟩ := laid_sentinel (g := 0) (ti := 44) (tp := 215) (te := 217) (ts := 9) h2 (by kernel_rfl) (by kernel_rfl) Tryz.underlying44 row_ Tryz.underlying215 Tryz.underlying217 rfl rfl Tryz.underlying9 (by kernel_rfl) (by kernel_rfl)
  exact ⟨_, by have h0 := World.var?_cell (show Tryz.prog.globalNamed "strconv.ErrSyntax" = some 0 by kernel_rfl) hv 0; simpa using h0, .inr ⟨_, _, rfl⟩⟩
theorem errR_ (W : World) (h : laidMetH Tryz.prog Rows.statementAgainRow.laid W) : ∃ v, W.cell? ⟨1, 0, none⟩ = some v ∧ (v = .nilIface ∨ ∃ te pe, v = .iface te pe) := by
  have h2 := (laidMetH_iff.1 h).1.filter (fun x => x.1 == "strconv.ErrRange")
  have e : ((Rows.statementAgainRow.laid).filter fun x => x.2.handleName?.isNone).filter (fun x => x.1 == "strconv.ErrRange") = [("strconv.ErrRange", .iface "*errors.errorString" (.ptr (.agg [.lit (.string [118, 97, 108, 117, 101, 32, 111, 117, 116, 32, 111, 102, 32, 114, 97, 110, 103, 101])])))] := by kernel_rfl
  rw [e] at h2
  obtain ⟨a, s, hv, _⟩ := laid_sentinel (g := 1) (ti := 44) (tp := 215) (te := 217) (ts := 9) h2 (by kernel_rfl) (by kernel_rfl) Tryz.underlying44 row_ Tryz.underlying215 Tryz.underlying217 rfl rfl Tryz.underlying9 (by kernel_rfl) (by kernel_rfl)
  exact ⟨_, by have h0 := World.var?_cell (show Tryz.prog.globalNamed "strconv.ErrRange" = some 1 by kernel_rfl) hv 0; simpa using h0, .inr ⟨_, _, rfl⟩⟩
set_option maxRecDepth 100000 in
theorem contract (H : Type) (enc : TypeId × Value → H) (W : World) (base : Nat) (args : Array Value) (ds gs : List (DataW H)) (before : List MemPlace)
    (hval : ∀ (j : Nat) t v, Tryz.f4.params[j]? = some t → args[j]? = some v → Value.okWide Tryz.prog W .any base t v)
    (hW : DataW.Whole enc Tryz.prog Tryz.f4.params.toList Rows.statementAgainSpec.vars false W args.toList ds gs before) (hlaid : laidMetH Tryz.prog Rows.statementAgainRow.laid W) (hsh : W.ShapedOpen Tryz.prog) :
    Calls Tryz.prog 4 args W fun e W' => ∃ v, e = .returned v ∧ Rows.statementAgainSpec.post enc Tryz.prog Tryz.f4 false true false false W args v W' := by
  have hW' := hW
  obtain ⟨p, q, hA0, hV, rfl, hfz, hnd⟩ := hW
  have hA : DataW.TrodAll enc Tryz.prog W 0 (fun _ => true) true Tryz.f4.params.toList args.toList ds p := hA0
  rw [Tryz.params4] at hA hval
  obtain ⟨v0, vs0, d0, ds0, p0, q0, hargs, rfl, rfl, h0, r0⟩ := trodAll_cons hA
  obtain ⟨v1, vs1, d1, ds1, p1, q1, rfl, rfl, rfl, h1, r1⟩ := trodAll_cons r0
  obtain ⟨rfl, rfl, rfl⟩ := trodAll_nil r1
  obtain rfl : args = #[v0, v1] := by cases args; simp_all
  obtain ⟨rfl, rfl⟩ := trodVars_none hV
  obtain ⟨a0, rfl, rfl, rfl, w0⟩ := open_string Tryz.underlying9 (hval 0 9 v0 rfl rfl) h0
  obtain ⟨a1, rfl, rfl, rfl, w1⟩ := open_int Tryz.underlying2 (hval 1 2 v1 rfl rfl) h1
  clear hA0
  refine (statementAgain_walk a0 a1 W w0 w1 (tab_of W hlaid) (Tryz.laysM146.s1_3 W hsh) ⟨errS_ W hlaid, errR_ W hlaid⟩).mono fun e W' ⟨he, bel⟩ => ?_
  subst he
  simp only [List.append_nil] at hW'
  exact ⟨_, rfl, post_of_below (pa := []) (pv := []) hW' (fun _ _ _ => (trodAll_cons_mk (shut_bool Tryz.underlying4 _) trodAll_mk0)) (fun sp _ => (trodAll_cons_mk (shut_string Tryz.underlying9 w0) (trodAll_cons_mk (shut_int Tryz.underlying2 w1) trodAll_mk0))) (fun _ _ => rfl) rfl bel (ok_one (by kernel_rfl) rfl (okWide_bool_mk Tryz.underlying4 _))⟩

noncomputable def low : Nat := (World.holding Tryz.prog default ⟨#[], #[], []⟩).heap.size
def layErr (g : Nat) (b : Nat) (h : Array Obj) : Array Obj := h.modify g fun
  | .cells _ t frozen => .cells #[.iface 215 (.pointer (some ⟨b, 0, none⟩))] t frozen
  | o => o
/-- A world for the witness: the settled one, the listed tables laid. -/
noncomputable def laidWorld (os : Os) : World := { World.holding Tryz.prog os ⟨#[.cells #[.string ⟨#[118, 97, 108, 117, 101, 32, 111, 117, 116, 32, 111, 102, 32, 114, 97, 110, 103, 101]⟩] 217, .cells #[.string ⟨#[105, 110, 118, 97, 108, 105, 100, 32, 115, 121, 110, 116, 97, 120]⟩] 217], #[], []⟩ with heap := (Frame.layAt 4 Rows.laid_unicode_utf8_first (layErr 0 (low + 1) (layErr 1 (low + 0) (Frame.layAt 5 Rows.laid_unicode_utf8_acceptRanges (Frame.layAt 2 Rows.laid_internal_strconv_uint64pow10 (Frame.layAt 7 Rows.laid_math_bits_deBruijn64tab (Frame.layAt 6 Rows.laid_math_bits_deBruijn32tab (World.holding Tryz.prog os ⟨#[.cells #[.string ⟨#[118, 97, 108, 117, 101, 32, 111, 117, 116, 32, 111, 102, 32, 114, 97, 110, 103, 101]⟩] 217, .cells #[.string ⟨#[105, 110, 118, 97, 108, 105, 100, 32, 115, 121, 110, 116, 97, 120]⟩] 217], #[], []⟩).heap))))))) }
theorem laid_met (os : Os) : laidMet Tryz.prog Rows.statementAgainRow.laid ((laidWorld os).forCall (fun _ _ => 0) ⟨#[], #[.string ByteArray.empty, .int .i64 0], []⟩).memory :=
  laidMet_of_run' 8 (by kernel_rfl) (by kernel_rfl)
theorem reads (os : Os) {H : Type} (enc : TypeId × Value → H) : ∃ places, DataW.whole enc Tryz.prog ((laidWorld os).forCall (fun _ _ => 0) ⟨#[], #[.string ByteArray.empty, .int .i64 0], []⟩).memory Tryz.f4.params.toList Rows.statementAgainSpec.vars false #[Value.string ByteArray.empty, .int .i64 0].toList 8 = some ([.lit (.string []), .lit (.int .i64 0)], [], places) :=
  ⟨[], by kernel_rfl⟩

set_option maxRecDepth 100000 in
theorem lifted (os : Os) (started : os.Started) (H : Type) (enc : TypeId × Value → H) (F : Stop.Interp) :
    ReturnsInHanded {} Tryz.checked os 4 .any ((OpenSpec.ofChange Rows.statementAgainSpec).preRow enc Tryz.prog Tryz.f4 Rows.statementAgainRow.domain false Rows.statementAgainRow.laid) (((OpenSpec.ofChange Rows.statementAgainSpec).at F).post enc Tryz.prog Tryz.f4 false true false false) := by
  obtain ⟨places, hx⟩ := reads os enc
  refine returnsInHanded_of_row (C := Tryz.checked) (s := OpenSpec.ofChange Rows.statementAgainSpec) own started (by kernel_rfl) Tryz.func4
    (witness_row_at (enc := enc) (C := Tryz.checked) false (laidWorld os) #[.string ByteArray.empty, .int .i64 0] rfl (by kernel_rfl) (by kernel_rfl) (by kernel_rfl)
      (OpenSpec.preRow_of_cond 8 hx (by kernel_rfl) (fun k hk => by cases hk) (by kernel_rfl) (laid_met os))) ?_
  intro W base args ds gs before hval hW _ _ _ hl hs _
  exact contract H enc W base args ds gs before hval hW hl hs

theorem said : Rows.StatementAgainSaid :=
  OpenClaim.holds_of_cond 4 Tryz.f4 rfl rfl rfl rfl rfl rfl rfl ⟨rfl, rfl, rfl, rfl, rfl⟩ rfl rfl rfl rfl rfl (by kernel_rfl) Tryz.func4 (by kernel_rfl)
    (of_decide_eq_true (by kernel_rfl)) (by unfold Func.isWrapper; first | (rw [if_pos (by decide +kernel)]; kernel_rfl) | (rw [if_neg (by decide +kernel)]; exact ⟨rfl, rfl⟩))
    (fun os started H enc _ F => by rw [OpenClaim.pre_eq_preRow]; exact lifted os started H enc F)

theorem plain (f : FuncId) (fn : Func) (hf : Tryz.pinned.checked.prog.funcNamed (Rows.statementAgainRow.func) = some f) (hfn : Tryz.pinned.checked.prog.funcs[f]? = some fn) :
    true = Tryz.pinned.checked.prog.looks [] ∧ ∀ (j : Nat) t, fn.params[j]? = some t → Tryz.pinned.checked.prog.wantsStandIn t = false := by
  obtain rfl : f = 4 := Option.some.inj ((show Tryz.prog.funcNamed (Rows.statementAgainRow.func) = some 4 by kernel_rfl).symm.trans hf) |>.symm
  obtain rfl : fn = Tryz.f4 := (Option.some.inj (Tryz.func4.symm.trans hfn)).symm
  refine ⟨by kernel_rfl, fun j t ht => ?_⟩
  rw [Tryz.params4] at ht
  have hm := Array.mem_of_getElem? ht
  have ht' : t = 9 ∨ t = 2 := by simpa using hm
  rcases ht' with rfl | rfl
  · exact (show Tryz.prog.wantsStandIn 9 = false by kernel_rfl)
  · exact (show Tryz.prog.wantsStandIn 2 = false by kernel_rfl)

theorem proved : Rows.StatementAgainCardSaid :=
  Claim7.holds_tied_plain_at .later [] _ _ _ _ said (fun _ h => by cases h) (by kernel_rfl) (fun _ h => by cases h) statementAgain_row_tie rfl ⟨rfl, rfl⟩ (by kernel_rfl) rfl plain (by kernel_rfl)
#print axioms proved
end Go.Proofs.YtlmejpkngnilcaaGreatDoor.statementAgain
