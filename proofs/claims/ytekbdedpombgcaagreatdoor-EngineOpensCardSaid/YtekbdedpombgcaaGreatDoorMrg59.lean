/- Parts of the proof, one behind the other: Facts of the row, each by itself. -/
import Derived.Test.YtekbdedpombgcaaGreatDoorCards
import Derived.Test.YtekbdedpombgcaaGreatDoorTie
import Derived.Test.YtekbdedpombgcaaGreatDoorMrg58
import Derived.JoinedCond
import Derived.ProofKit
namespace Go.Proofs.YtekbdedpombgcaaGreatDoor.engineOpens
open Go.ChangeShapes Go.WideShapes Go.ChangeAt Go.RowKit
set_option linter.unusedVariables false
theorem joined_of {P : Program} {f : FuncId} {fn : Func} {s : ChangeSpec} {c : OpenClaim} (h0 : (c.wf (OpenSpec.ofChange s)) = true) (h1 : (laidOutB P) = true) (h2 : (mapsRowed P) = true) (h3 : (fn.params.all (P.readableRec ·)) = true) (h4 : (namedTie P c.named s.vars) = true) (h5 : ((c.stops == [])) = true) (h6 : ((P.stops == [])) = true) (h7 : ((c.knobs == [])) = true) (h8 : ((P.stopKnobs == [])) = true) (h9 : ((c.inPlace == P.inPlace f)) = true) (h10 : ((c.unfollowed == P.unfollowed f)) = true) (h11 : ((c.recurses == P.recurses f)) = true) (h12 : ((c.named == P.varsNamed f)) = true) (h13 : ((c.maps == (fn.params.toList ++ s.plain.varTypes P).any (P.mapsRec ·))) = true) (h14 : ((c.ifaces == (fn.params.toList ++ s.plain.varTypes P).any (P.ifacesRec ·))) = true) (h15 : ((c.mapsOut == P.mapsAmong fn.resultTypes.toList)) = true) (h16 : ((c.loops == (fn.params.toList ++ s.plain.varTypes P).any (P.loopsFrom ·))) = true) (h17 : ((c.wideKeys == (fn.params.toList ++ s.plain.varTypes P ++ fn.resultTypes.toList).any (P.wideKeysFrom ·))) = true) (h18 : (s.vars.all (P.varReadable ·)) = true) (h19 : (fn.resultTypes.all (fun t => P.readableRec t && decide (t < P.types.size))) = true) (h20 : ((c.ifacesOut == fn.resultTypes.toList.any (P.ifacesRec ·))) = true) (h21 : ((c.loopsOut == fn.resultTypes.toList.any (P.loopsFrom ·))) = true) (h22 : ((c.plainKeys == P.plainKeys)) = true) (h23 : (c.shortTexts.isNone) = true) (h24 : (P.stopsHeard) = true) (h25 : (P.mayEnter) = true) (h26 : ((c.lifted == P.liftsFinal)) = true) (h27 : ((P.make == some c.make)) = true) (h28 : (kindsOk P fn c) = true) (h29 : ((c.pinned == c.pinnedBy)) = true) (h30 : ((c.veiled == (fn.params.toList ++ s.plain.varTypes P ++ fn.resultTypes.toList).any (P.veiledRec ·))) = true) (h31 : (c.veiledFits P fn.params.toList (fn.params.toList ++ s.plain.varTypes P ++ fn.resultTypes.toList)) = true) : joinedFacts P f fn s c = true := by
  unfold joinedFacts
  simp only [Bool.and_eq_true]
  exact ⟨⟨⟨⟨⟨⟨⟨⟨⟨⟨⟨⟨⟨⟨⟨⟨⟨⟨⟨⟨⟨⟨⟨⟨⟨⟨⟨⟨⟨⟨⟨h0, h1⟩, h2⟩, h3⟩, h4⟩, h5⟩, h6⟩, h7⟩, h8⟩, h9⟩, h10⟩, h11⟩, h12⟩, h13⟩, h14⟩, h15⟩, h16⟩, h17⟩, h18⟩, h19⟩, h20⟩, h21⟩, h22⟩, h23⟩, h24⟩, h25⟩, h26⟩, h27⟩, h28⟩, h29⟩, h30⟩, h31⟩
theorem closed : joinedFacts Tryz.pinned.checked.prog 3 Tryz.f3 (OpenSpec.ofChange Rows.engineOpensSpec).bare Rows.engineOpensRow = true := joined_of k0 k1 k2 k3 k4 k5 k6 k7 k8 k9 k10 k11 k12 k13 k14 k15 k16 k17 k18 k19 k20 k21 k22 k23 k24 k25 k26 k27 k28 k29 k30 k31
theorem named : Tryz.pinned.checked.prog.funcNamed Rows.engineOpensRow.func = some 3 := by kernel_rfl
theorem inst_ : Tryz.f3.isInstance Tryz.pinned.checked.prog Rows.engineOpensRow.origin Rows.engineOpensRow.targs := of_decide_eq_true (by kernel_rfl)
theorem wrap_ : Tryz.f3.isWrapper Tryz.pinned.checked.prog Rows.engineOpensRow.wrapper Rows.engineOpensRow.mainSum := (by unfold Func.isWrapper; first | (rw [if_pos (by decide +kernel)]; kernel_rfl) | (rw [if_neg (by decide +kernel)]; exact ⟨rfl, rfl⟩))
end Go.Proofs.YtekbdedpombgcaaGreatDoor.engineOpens
