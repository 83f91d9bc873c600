/-
  No cell of these rows narrows 'for every input' (looked for: loops, veiled, ifaces, maps, wideKeys, modest, calm, conditions, laid).
  DERIVED. THE GIVEN ROWS OF THIS SEAT. 4 by the template 'for every input the law returns true; each argument reads behind the call as it read before'; 0 by the template 'total and deterministic' (their statements: YtfifbcniilaehaaTotals.lean).
  GIVEN WITH THE SEED: the statements are not yours to turn. If you find one false, say at which input.
  Laid BY PROGRAM, IN A SANDBOX (cutbox-rows.mjs): the forced cells as the released guide's own fill.sh prints them over the translation 8eed7fe672d84b0d… (all of the seat's roots in one cut). By AI agents, Wed Nov 11 2026. No macro, syntax, notation, axiom, sorry.
-/
import Derived.Test.YtfifbcniilaehaaChecked
import GoSem.Claim
import GoSem.ClaimJoined
import GoSem.ClaimMapViews
import Derived.JoinedTies
import Derived.KernelRfl
namespace Go.Proofs.Ytfifbcniilaehaa
/- THE CELL 'sum', in the pinned program and in every row, IS THE sha256 OF THE DUMP (.gsa) THAT YtfifbcniilaehaaProg.lean LOADS. Nothing in Lean hashes anything: it is a label: what it is worth is what the hold of that sum in a sandbox is worth. -/
noncomputable def Try.pinned : Pinned := { name := "ytfifbcniilaehaa", sum := "8eed7fe672d84b0dd9c16aa49a852e9cd5531e80cbb6a274fd2155dbf330066b", checked := Try.checked }
namespace Rows
def none {H : Type} : Left H := { results := [], args := [] }

/-- 'tallagelaw02.CivilDays': WHATEVER THE INPUT: true; the input reads as it did. -/
def civilDaysSpec : ChangeSpec := { name := "civilDays", fn := fun _ => fun
  | [d1, d2, d3] => { results := [.lit (.bool true)], args := [d1, d2, d3] }
  | _ => none }
def civilDaysRow : OpenClaim := { program := "ytfifbcniilaehaa", sum := "8eed7fe672d84b0dd9c16aa49a852e9cd5531e80cbb6a274fd2155dbf330066b", func := "tallage/tallagelaw02.CivilDays", spec := "civilDays", apart := false }
def CivilDaysSaid : Prop := civilDaysRow.holds Try.pinned (OpenSpec.ofChange civilDaysSpec)

/-- ITS FALSE NEIGHBOUR: 'it returns false'. Refute it at one input. -/
def civilDaysWrong : ChangeSpec := { name := "civilDays", fn := fun _ => fun
  | [d1, d2, d3] => { results := [.lit (.bool false)], args := [d1, d2, d3] }
  | _ => none }
def CivilDaysWrongFalsely : Prop := civilDaysRow.holds Try.pinned (OpenSpec.ofChange civilDaysWrong)

/-- 'tallagelaw02.CivilAges': WHATEVER THE INPUT: true; the input reads as it did. -/
def civilAgesSpec : ChangeSpec := { name := "civilAges", fn := fun _ => fun
  | [d] => { results := [.lit (.bool true)], args := [d] }
  | _ => none }
def civilAgesRow : OpenClaim := { program := "ytfifbcniilaehaa", sum := "8eed7fe672d84b0dd9c16aa49a852e9cd5531e80cbb6a274fd2155dbf330066b", func := "tallage/tallagelaw02.CivilAges", spec := "civilAges", apart := false }
def CivilAgesSaid : Prop := civilAgesRow.holds Try.pinned (OpenSpec.ofChange civilAgesSpec)

/-- ITS FALSE NEIGHBOUR: 'it returns false'. Refute it at one input. -/
def civilAgesWrong : ChangeSpec := { name := "civilAges", fn := fun _ => fun
  | [d] => { results := [.lit (.bool false)], args := [d] }
  | _ => none }
def CivilAgesWrongFalsely : Prop := civilAgesRow.holds Try.pinned (OpenSpec.ofChange civilAgesWrong)

/-- 'tallagelaw02.CivilMonths': WHATEVER THE INPUT: true; the input reads as it did. -/
def civilMonthsSpec : ChangeSpec := { name := "civilMonths", fn := fun _ => fun
  | [d1, d2] => { results := [.lit (.bool true)], args := [d1, d2] }
  | _ => none }
def civilMonthsRow : OpenClaim := { program := "ytfifbcniilaehaa", sum := "8eed7fe672d84b0dd9c16aa49a852e9cd5531e80cbb6a274fd2155dbf330066b", func := "tallage/tallagelaw02.CivilMonths", spec := "civilMonths", apart := false }
def CivilMonthsSaid : Prop := civilMonthsRow.holds Try.pinned (OpenSpec.ofChange civilMonthsSpec)

/-- ITS FALSE NEIGHBOUR: 'it returns false'. Refute it at one input. -/
def civilMonthsWrong : ChangeSpec := { name := "civilMonths", fn := fun _ => fun
  | [d1, d2] => { results := [.lit (.bool false)], args := [d1, d2] }
  | _ => none }
def CivilMonthsWrongFalsely : Prop := civilMonthsRow.holds Try.pinned (OpenSpec.ofChange civilMonthsWrong)

/-- 'tallagelaw02.CivilTwelve': WHATEVER THE INPUT: true; the input reads as it did. -/
def civilTwelveSpec : ChangeSpec := { name := "civilTwelve", fn := fun _ => fun
  | [d] => { results := [.lit (.bool true)], args := [d] }
  | _ => none }
def civilTwelveRow : OpenClaim := { program := "ytfifbcniilaehaa", sum := "8eed7fe672d84b0dd9c16aa49a852e9cd5531e80cbb6a274fd2155dbf330066b", func := "tallage/tallagelaw02.CivilTwelve", spec := "civilTwelve", apart := false }
def CivilTwelveSaid : Prop := civilTwelveRow.holds Try.pinned (OpenSpec.ofChange civilTwelveSpec)

/-- ITS FALSE NEIGHBOUR: 'it returns false'. Refute it at one input. -/
def civilTwelveWrong : ChangeSpec := { name := "civilTwelve", fn := fun _ => fun
  | [d] => { results := [.lit (.bool false)], args := [d] }
  | _ => none }
def CivilTwelveWrongFalsely : Prop := civilTwelveRow.holds Try.pinned (OpenSpec.ofChange civilTwelveWrong)

/- THE SECOND FORM. 'bulk': how many values and letters a reading holds, each counted each time it is reached (what is shared counts as often as it is met; a slice's spare places count too). A statement '..UptoSaid' is the law's where the arguments, and the package variables that the reading takes, are together of bulk at most 1048576: NARROWER than '..Said'. Prove '..Said' where nothing that the law and all that it calls make is longer than what came in: it says more and counts as full. Else prove '..UptoSaid'. A law counts once. -/
mutual
def uptoBulk {H : Type} : DataW H → Nat
  | .lit (.string bytes) => bytes.length + 1
  | .lit _ => 1
  | .nil => 1
  | .ptr d => uptoBulk d + 1
  | .slice elems spare => uptoBulkAll elems + uptoBulkAll spare + 1
  | .agg parts => uptoBulkAll parts + 1
  | .iface _ d => uptoBulk d + 1
  | .map entries => uptoBulkEntries entries + 1
  | .held _ => 1
def uptoBulkAll {H : Type} : List (DataW H) → Nat
  | [] => 0
  | d :: r => uptoBulk d + uptoBulkAll r
def uptoBulkEntries {H : Type} : List (Lit × DataW H) → Nat
  | [] => 0
  | x :: r => uptoBulkEntry x + uptoBulkEntries r
def uptoBulkEntry {H : Type} : Lit × DataW H → Nat
  | (.string bytes, d) => bytes.length + uptoBulk d + 1
  | (_, d) => uptoBulk d + 1
 end
def uptoSmall : (H : Type) → List (DataW H) → Bool := fun _ ds => decide (uptoBulkAll ds ≤ 1048576)
def OpenSpec.upto (s : _root_.Go.ChangeSpec) : _root_.Go.OpenSpec := { _root_.Go.OpenSpec.ofChange s with cond := some uptoSmall }

/-- 'tallagelaw02.CivilDays', WHERE WHAT IT READS IS OF BULK AT MOST 1048576: true; the input reads as it did. -/
def civilDaysUptoRow : OpenClaim := { program := "ytfifbcniilaehaa", sum := "8eed7fe672d84b0dd9c16aa49a852e9cd5531e80cbb6a274fd2155dbf330066b", func := "tallage/tallagelaw02.CivilDays", spec := "civilDays", apart := false, narrowed := true }
def CivilDaysUptoSaid : Prop := civilDaysUptoRow.holds Try.pinned (OpenSpec.upto civilDaysSpec)

/-- 'tallagelaw02.CivilAges', WHERE WHAT IT READS IS OF BULK AT MOST 1048576: true; the input reads as it did. -/
def civilAgesUptoRow : OpenClaim := { program := "ytfifbcniilaehaa", sum := "8eed7fe672d84b0dd9c16aa49a852e9cd5531e80cbb6a274fd2155dbf330066b", func := "tallage/tallagelaw02.CivilAges", spec := "civilAges", apart := false, narrowed := true }
def CivilAgesUptoSaid : Prop := civilAgesUptoRow.holds Try.pinned (OpenSpec.upto civilAgesSpec)

/-- 'tallagelaw02.CivilMonths', WHERE WHAT IT READS IS OF BULK AT MOST 1048576: true; the input reads as it did. -/
def civilMonthsUptoRow : OpenClaim := { program := "ytfifbcniilaehaa", sum := "8eed7fe672d84b0dd9c16aa49a852e9cd5531e80cbb6a274fd2155dbf330066b", func := "tallage/tallagelaw02.CivilMonths", spec := "civilMonths", apart := false, narrowed := true }
def CivilMonthsUptoSaid : Prop := civilMonthsUptoRow.holds Try.pinned (OpenSpec.upto civilMonthsSpec)

/-- 'tallagelaw02.CivilTwelve', WHERE WHAT IT READS IS OF BULK AT MOST 1048576: true; the input reads as it did. -/
def civilTwelveUptoRow : OpenClaim := { program := "ytfifbcniilaehaa", sum := "8eed7fe672d84b0dd9c16aa49a852e9cd5531e80cbb6a274fd2155dbf330066b", func := "tallage/tallagelaw02.CivilTwelve", spec := "civilTwelve", apart := false, narrowed := true }
def CivilTwelveUptoSaid : Prop := civilTwelveUptoRow.holds Try.pinned (OpenSpec.upto civilTwelveSpec)

end Rows
end Go.Proofs.Ytfifbcniilaehaa
