/- 'tallage/tallagelaw22.StatementBack' returns true at every input, the listed tables being what the program's text lays (the card ties them); its arguments read behind the call as before it: no condition. -/
import Derived.Test.YtlmejpkngnilcaaGreatDoorMrg04
import Derived.Test.YtlmejpkngnilcaaGreatDoorCards
import Derived.Test.YtlmejpkngnilcaaGreatDoorTie
import Derived.Test.YtlmejpkngnilcaaGreatDoorMrg08
import Derived.Test.YtlmejpkngnilcaaGreatDoorMrg09
import Derived.Test.YtlmejpkngnilcaaGreatDoorQrg03
import Derived.LaidSub
import Derived.LaidLaws
import Derived.Stop.LaidErr
namespace Go.Proofs.YtlmejpkngnilcaaGreatDoor.statementBack
open Go.ChangeShapes Go.WideShapes Go.ChangeAt Go.RowKit
open Go.ChangeMaps (open_string shut_string)
set_option linter.unusedVariables false

theorem own : ownKnob Tryz.prog.godebug = none := by kernel_rfl
theorem laidOut : laidOutB Tryz.prog = true := by kernel_rfl

theorem tab_of (W : World) (h : laidMetH Tryz.prog Rows.statementBackRow.laid W) : Tab W := by
  have h2 := (laidMetH_iff.1 h).1.filter (fun x => x.1 == "internal/strconv.uint64pow10")
  have e : ((Rows.statementBackRow.laid).filter fun x => x.2.handleName?.isNone).filter (fun x => x.1 == "internal/strconv.uint64pow10") = [("internal/strconv.uint64pow10", Lib.tabData .u64 Lib.pow10Tab)] := by kernel_rfl
  rw [e] at h2
  exact Lib.tabIs_of_head (g := 2) (t := 186) (e := 80) (n := 20) (by kernel_rfl) (by kernel_rfl) Tryz.underlying186 Tryz.underlying80 (by kernel_rfl) (by kernel_rfl) h2
theorem star : "*" ++ "errors.errorString" = "*errors.errorString" := by decide
theorem row_ (u : TypeId) (h : Tryz.prog.typeName? 3 u = some "*errors.errorString") : u = 215 := typeName_ptr_named (nm := "errors.errorString") (by rw [star]; kernel_rfl) (by kernel_rfl) (by decide) u (by rw [star]; exact h)
theorem errS_ (W : World) (h : laidMetH Tryz.prog Rows.statementBackRow.laid W) : ∃ v, W.cell? ⟨0, 0, none⟩ = some v ∧ (v = .nilIface ∨ ∃ te pe, v = .iface te pe) := by
  have h2 := (laidMetH_iff.1 h).1.filter (fun x => x.1 == "strconv.ErrSyntax")
  have e : ((Rows.statementBackRow.laid).filter fun x => x.2.handleName?.isNone).filter (fun x => x.1 == "strconv.ErrSyntax") = [("strconv.ErrSyntax", .iface "*errors.errorString" (.ptr (.agg [.lit (.string [105, 110, 118, 97, 108, 105, 100, 32, 115, 121, 110, 116, 97, 120])])))] := by kernel_rfl
  rw [e] at h2
  obtain ⟨a, s, hv, _⟩ := laid_sentinel (g := 0) (ti := 44) (tp := 215) (te := 217) (ts := 9) h2 (by kernel_rfl) (by kernel_rfl) Tryz.underlying44 row_ Tryz.underlying215 Tryz.underlying217 rfl rfl Tryz.underlying9 (by kernel_rfl) (by kernel_rfl)
  exact ⟨_, by have h0 := World.var?_cell (show Tryz.prog.globalNamed "strconv.ErrSyntax" = some 0 by kernel_rfl) hv 0; simpa using h0, .inr ⟨_, _, rfl⟩⟩
theorem errR_ (W : World) (h : laidMetH Tryz.prog Rows.statementBackRow.laid W) : ∃ v, W.cell? ⟨1, 0, none⟩ = some v ∧ (v = .nilIface ∨ ∃ te pe, v = .iface te pe) := by
  have h2 := (laidMetH_iff.1 h).1.filter (fun x => x.1 == "strconv.ErrRange")
  have e : ((Rows.statementBackRow.laid).filter fun x => x.2.handleName?.isNone).filter (fun x => x.1 == "strconv.ErrRange") = [("strconv.ErrRange", .iface "*errors.errorString" (.ptr (.agg [.lit (.string [118, 97, 108, 117, 101, 32, 111, 117, 116, 32, 111, 102, 32, 114, 97, 110, 103, 101])])))] := by kernel_rfl
  rw [e] at h2
  obtain ⟨a, s, hv, _⟩ := laid_sentinel (g := 1) (ti := 44) (tp := 215) (te := 217) (ts := 9) h2 (by kernel_rfl) (by kernel_rfl) Tryz.underlying44 row_ Tryz.underlying215 Tryz.underlying217 rfl rfl Tryz.underlying9 (by kernel_rfl) (by kernel_rfl)
  exact ⟨_, by have h0 := World.var?_cell (show Tryz.prog.globalNamed "strconv.ErrRange" = some 1 by kernel_rfl) hv 0; simpa using h0, .inr ⟨_, _, rfl⟩⟩
set_option maxRecDepth 100000 in
theorem contract (H : Type) (enc : TypeId × Value → H) (W : World) (base : Nat) (args : Array Value) (ds gs : List (DataW H)) (before : List MemPlace)
    (hval : ∀ (j : Nat) t v, Tryz.f3.params[j]? = some t → args[j]? = some v → Value.okWide Tryz.prog W .any base t v)
    (hW : DataW.Whole enc Tryz.prog Tryz.f3.params.toList Rows.statementBackSpec.vars false W args.toList ds gs before) (hlaid : laidMetH Tryz.prog Rows.statementBackRow.laid W) (hsh : W.ShapedOpen Tryz.prog) :
    Calls Tryz.prog 3 args W fun e W' => ∃ v, e = .returned v ∧ Rows.statementBackSpec.post enc Tryz.prog Tryz.f3 false true false false W args v W' := by
  have hW' := hW
  obtain ⟨p, q, hA0, hV, rfl, hfz, hnd⟩ := hW
  have hA : DataW.TrodAll enc Tryz.prog W 0 (fun _ => true) true Tryz.f3.params.toList args.toList ds p := hA0
  rw [Tryz.params3] at hA hval
  obtain ⟨v0, vs0, d0, ds0, p0, q0, hargs, rfl, rfl, h0, r0⟩ := trodAll_cons hA
  obtain ⟨rfl, rfl, rfl⟩ := trodAll_nil r0
  obtain rfl : args = #[v0] := by cases args; simp_all
  obtain ⟨rfl, rfl⟩ := trodVars_none hV
  have k0 := h0
  have lt0 : ∀ x ∈ p0, x.block < W.heap.size := by obtain ⟨m, hm⟩ := k0; exact DataW.trod_lt m _ _ _ hm
  obtain ⟨e0, f0, g0, x0, y0, A0, l0, c0, B0, m0, cc0, rfl, r0_, b0_⟩ := stmt_of (hval 0 25 v0 rfl rfl) h0
  clear hA0
  refine (statementBack_walk e0 f0 g0 x0 y0 A0 B0 c0 cc0 l0 m0 W r0_ b0_ (tab_of W hlaid) (Tryz.laysM146.s1_3 W hsh) ⟨errS_ W hlaid, errR_ W hlaid⟩).mono fun e W' ⟨he, bel⟩ => ?_
  subst he
  exact ⟨_, rfl, _, _, _, [], _, [], hW', trodAll_mk1 (shut_bool Tryz.underlying4 _), (trodAll_cons_mk (Below.trod laidOut (by kernel_rfl) (of_decide_eq_true (by kernel_rfl)) k0 bel lt0) trodAll_mk0), rfl, bel.frame _, fun h => by cases h⟩

noncomputable def low : Nat := (World.holding Tryz.prog default ⟨#[], #[], []⟩).heap.size
def layErr (g : Nat) (b : Nat) (h : Array Obj) : Array Obj := h.modify g fun
  | .cells _ t frozen => .cells #[.iface 215 (.pointer (some ⟨b, 0, none⟩))] t frozen
  | o => o
/-- A world for the witness: the settled one, the listed tables laid. -/
noncomputable def laidWorld (os : Os) : World := { World.holding Tryz.prog os ⟨#[.cells #[.string ⟨#[118, 97, 108, 117, 101, 32, 111, 117, 116, 32, 111, 102, 32, 114, 97, 110, 103, 101]⟩] 217, .cells #[.string ⟨#[105, 110, 118, 97, 108, 105, 100, 32, 115, 121, 110, 116, 97, 120]⟩] 217], #[], []⟩ with heap := (Frame.layAt 4 Rows.laid_unicode_utf8_first (layErr 0 (low + 1) (layErr 1 (low + 0) (Frame.layAt 5 Rows.laid_unicode_utf8_acceptRanges (Frame.layAt 2 Rows.laid_internal_strconv_uint64pow10 (Frame.layAt 7 Rows.laid_math_bits_deBruijn64tab (Frame.layAt 6 Rows.laid_math_bits_deBruijn32tab (World.holding Tryz.prog os ⟨#[.cells #[.string ⟨#[118, 97, 108, 117, 101, 32, 111, 117, 116, 32, 111, 102, 32, 114, 97, 110, 103, 101]⟩] 217, .cells #[.string ⟨#[105, 110, 118, 97, 108, 105, 100, 32, 115, 121, 110, 116, 97, 120]⟩] 217], #[], []⟩).heap))))))) }
theorem laid_met (os : Os) : laidMet Tryz.prog Rows.statementBackRow.laid ((laidWorld os).forCall (fun _ _ => 0) ⟨#[], #[.agg #[.int .i64 0, .int .i64 0, .int .i64 0, .int .i64 0, .int .i64 0, .slice none 0 0, .slice none 0 0]], []⟩).memory :=
  laidMet_of_run' 8 (by kernel_rfl) (by kernel_rfl)
theorem reads (os : Os) {H : Type} (enc : TypeId × Value → H) : ∃ places, DataW.whole enc Tryz.prog ((laidWorld os).forCall (fun _ _ => 0) ⟨#[], #[.agg #[.int .i64 0, .int .i64 0, .int .i64 0, .int .i64 0, .int .i64 0, .slice none 0 0, .slice none 0 0]], []⟩).memory Tryz.f3.params.toList Rows.statementBackSpec.vars false #[Value.agg #[.int .i64 0, .int .i64 0, .int .i64 0, .int .i64 0, .int .i64 0, .slice none 0 0, .slice none 0 0]].toList 8 = some ([.agg [.lit (.int .i64 0), .lit (.int .i64 0), .lit (.int .i64 0), .lit (.int .i64 0), .lit (.int .i64 0), .nil, .nil]], [], places) :=
  ⟨[], by kernel_rfl⟩

set_option maxRecDepth 100000 in
theorem lifted (os : Os) (started : os.Started) (H : Type) (enc : TypeId × Value → H) (F : Stop.Interp) :
    ReturnsInHanded {} Tryz.checked os 3 .any ((OpenSpec.ofChange Rows.statementBackSpec).preRow enc Tryz.prog Tryz.f3 Rows.statementBackRow.domain false Rows.statementBackRow.laid) (((OpenSpec.ofChange Rows.statementBackSpec).at F).post enc Tryz.prog Tryz.f3 false true false false) := by
  obtain ⟨places, hx⟩ := reads os enc
  refine returnsInHanded_of_row (C := Tryz.checked) (s := OpenSpec.ofChange Rows.statementBackSpec) own started (by kernel_rfl) Tryz.func3
    (witness_row_at (enc := enc) (C := Tryz.checked) false (laidWorld os) #[.agg #[.int .i64 0, .int .i64 0, .int .i64 0, .int .i64 0, .int .i64 0, .slice none 0 0, .slice none 0 0]] rfl (by kernel_rfl) (by kernel_rfl) (by kernel_rfl)
      (OpenSpec.preRow_of_cond 8 hx (by kernel_rfl) (fun k hk => by cases hk) (by kernel_rfl) (laid_met os))) ?_
  intro W base args ds gs before hval hW _ _ _ hl hs _
  exact contract H enc W base args ds gs before hval hW hl hs

theorem said : Rows.StatementBackSaid :=
  OpenClaim.holds_of_cond 3 Tryz.f3 rfl rfl rfl rfl rfl rfl rfl ⟨rfl, rfl, rfl, rfl, rfl⟩ rfl rfl rfl rfl rfl (by kernel_rfl) Tryz.func3 (by kernel_rfl)
    (of_decide_eq_true (by kernel_rfl)) (by unfold Func.isWrapper; first | (rw [if_pos (by decide +kernel)]; kernel_rfl) | (rw [if_neg (by decide +kernel)]; exact ⟨rfl, rfl⟩))
    (fun os started H enc _ F => by rw [OpenClaim.pre_eq_preRow]; exact lifted os started H enc F)

theorem plain (f : FuncId) (fn : Func) (hf : Tryz.pinned.checked.prog.funcNamed (Rows.statementBackRow.func) = some f) (hfn : Tryz.pinned.checked.prog.funcs[f]? = some fn) :
    true = Tryz.pinned.checked.prog.looks [] ∧ ∀ (j : Nat) t, fn.params[j]? = some t → Tryz.pinned.checked.prog.wantsStandIn t = false := by
  obtain rfl : f = 3 := Option.some.inj ((show Tryz.prog.funcNamed (Rows.statementBackRow.func) = some 3 by kernel_rfl).symm.trans hf) |>.symm
  obtain rfl : fn = Tryz.f3 := (Option.some.inj (Tryz.func3.symm.trans hfn)).symm
  refine ⟨by kernel_rfl, fun j t ht => ?_⟩
  rw [Tryz.params3] at ht
  have hm := Array.mem_of_getElem? ht
  have ht' : t = 25 := by simpa using hm
  rcases ht' with rfl
  · exact (show Tryz.prog.wantsStandIn 25 = false by kernel_rfl)

theorem proved : Rows.StatementBackCardSaid :=
  Claim7.holds_tied_plain_at .later [] _ _ _ _ said (fun _ h => by cases h) (by kernel_rfl) (fun _ h => by cases h) statementBack_row_tie rfl ⟨rfl, rfl⟩ (by kernel_rfl) rfl plain (by kernel_rfl)
#print axioms proved
end Go.Proofs.YtlmejpkngnilcaaGreatDoor.statementBack
