/-
  NARROWER THAN 'FOR EVERY INPUT', by the rows' own cells (each row's printed sentence says how): CodeKeys: laid · CodeOrder: laid · CodeAgain: laid · CodeTakes: laid · CodeParts: laid · CodeBack: laid.
  DERIVED. THE GIVEN ROWS OF THIS SEAT. 6 by the template 'for every input the law returns true; each argument reads behind the call as it read before'; 0 by the template 'total and deterministic' (their statements: YtnlmiicbdhomaaaDoorTotals.lean).
  GIVEN WITH THE SEED: the statements are not yours to turn. If you find one false, say at which input.
  Laid BY PROGRAM, IN A SANDBOX (cutbox-rows.mjs): the forced cells as the released guide's own fill.sh prints them over the translation 8db7a1d613da29a2… (all of the seat's roots in one cut). By AI agents, Wed Nov 11 2026. No macro, syntax, notation, axiom, sorry.
-/
import Derived.Test.YtnlmiicbdhomaaaDoorChecked
import GoSem.PinnedTables
import GoSem.Claim
import GoSem.ClaimJoined
import GoSem.ClaimMapViews
import Derived.JoinedTies
import Derived.KernelRfl
namespace Go.Proofs.YtnlmiicbdhomaaaDoor
/- THE CELL 'sum', in the pinned program and in every row, IS THE sha256 OF THE DUMP (.gsa) THAT YtnlmiicbdhomaaaDoorProg.lean LOADS. Nothing in Lean hashes anything: it is a label: what it is worth is what the hold of that sum in a sandbox is worth. -/
noncomputable def Tryd.pinned : Pinned := { name := "ytnlmiicbdhomaaadoor", sum := "8db7a1d613da29a2e6e46350a0b32f1f2068d93772d4f48c0a458f707cd26052", checked := Tryd.checked }
namespace Rows
def none {H : Type} : Left H := { results := [], args := [] }

/- WHAT THE LISTED PACKAGE-LEVEL VARIABLES READ AS WHEN THE CALL BEGINS. Each datum BY PROGRAM (the guide's laid-datum.mjs) off the statement by which the dump's own 'gosem.cut.vars' lays the variable. In a bare row this is a premise. The card (YtnlmiicbdhomaaaDoorCards.lean) ties it to the program's text. -/
def laid_unicode_utf8_acceptRanges {H : Type} : DataW H := .agg [.agg [.lit (.int .u8 128), .lit (.int .u8 191)], .agg [.lit (.int .u8 160), .lit (.int .u8 191)], .agg [.lit (.int .u8 128), .lit (.int .u8 159)], .agg [.lit (.int .u8 144), .lit (.int .u8 191)], .agg [.lit (.int .u8 128), .lit (.int .u8 143)], .agg [.lit (.int .u8 0), .lit (.int .u8 0)], .agg [.lit (.int .u8 0), .lit (.int .u8 0)], .agg [.lit (.int .u8 0), .lit (.int .u8 0)], .agg [.lit (.int .u8 0), .lit (.int .u8 0)], .agg [.lit (.int .u8 0), .lit (.int .u8 0)], .agg [.lit (.int .u8 0), .lit (.int .u8 0)], .agg [.lit (.int .u8 0), .lit (.int .u8 0)], .agg [.lit (.int .u8 0), .lit (.int .u8 0)], .agg [.lit (.int .u8 0), .lit (.int .u8 0)], .agg [.lit (.int .u8 0), .lit (.int .u8 0)], .agg [.lit (.int .u8 0), .lit (.int .u8 0)]]
/-- One of Go's own tables, pinned by name: the form's constant. -/
def laid_unicode_utf8_first : DataW Unit := Go.Pinned.utf8First

/-- 'tallagelaw03.CodeKeys': WHATEVER THE INPUT: true; the input reads as it did. -/
def codeKeysSpec : ChangeSpec := { name := "codeKeys", fn := fun _ => fun
  | [d] => { results := [.lit (.bool true)], args := [d] }
  | _ => none }
def codeKeysRow : OpenClaim := { program := "ytnlmiicbdhomaaadoor", sum := "8db7a1d613da29a2e6e46350a0b32f1f2068d93772d4f48c0a458f707cd26052", func := "tallage/tallagelaw03.CodeKeys", spec := "codeKeys", inPlace := ["internal/bytealg.Count", "internal/bytealg.IndexByte", "internal/bytealg.Index"], named := ["internal/bytealg.MaxLen", "unicode/utf8.first", "unicode/utf8.acceptRanges"], apart := false, laid := [("unicode/utf8.acceptRanges", laid_unicode_utf8_acceptRanges), ("unicode/utf8.first", laid_unicode_utf8_first)] }
def CodeKeysSaid : Prop := codeKeysRow.holds Tryd.pinned (OpenSpec.ofChange codeKeysSpec)

/-- ITS FALSE NEIGHBOUR: 'it returns false'. Refute it at one input. -/
def codeKeysWrong : ChangeSpec := { name := "codeKeys", fn := fun _ => fun
  | [d] => { results := [.lit (.bool false)], args := [d] }
  | _ => none }
def CodeKeysWrongFalsely : Prop := codeKeysRow.holds Tryd.pinned (OpenSpec.ofChange codeKeysWrong)

/-- 'tallagelaw03.CodeOrder': WHATEVER THE INPUT: true; the input reads as it did. -/
def codeOrderSpec : ChangeSpec := { name := "codeOrder", fn := fun _ => fun
  | [d1, d2] => { results := [.lit (.bool true)], args := [d1, d2] }
  | _ => none }
def codeOrderRow : OpenClaim := { program := "ytnlmiicbdhomaaadoor", sum := "8db7a1d613da29a2e6e46350a0b32f1f2068d93772d4f48c0a458f707cd26052", func := "tallage/tallagelaw03.CodeOrder", spec := "codeOrder", inPlace := ["internal/bytealg.Count", "internal/bytealg.IndexByte", "internal/bytealg.Index"], named := ["internal/bytealg.MaxLen", "unicode/utf8.first", "unicode/utf8.acceptRanges"], apart := false, laid := [("unicode/utf8.acceptRanges", laid_unicode_utf8_acceptRanges), ("unicode/utf8.first", laid_unicode_utf8_first)] }
def CodeOrderSaid : Prop := codeOrderRow.holds Tryd.pinned (OpenSpec.ofChange codeOrderSpec)

/-- ITS FALSE NEIGHBOUR: 'it returns false'. Refute it at one input. -/
def codeOrderWrong : ChangeSpec := { name := "codeOrder", fn := fun _ => fun
  | [d1, d2] => { results := [.lit (.bool false)], args := [d1, d2] }
  | _ => none }
def CodeOrderWrongFalsely : Prop := codeOrderRow.holds Tryd.pinned (OpenSpec.ofChange codeOrderWrong)

/-- 'tallagelaw03.CodeAgain': WHATEVER THE INPUT: true; the input reads as it did. -/
def codeAgainSpec : ChangeSpec := { name := "codeAgain", fn := fun _ => fun
  | [d] => { results := [.lit (.bool true)], args := [d] }
  | _ => none }
def codeAgainRow : OpenClaim := { program := "ytnlmiicbdhomaaadoor", sum := "8db7a1d613da29a2e6e46350a0b32f1f2068d93772d4f48c0a458f707cd26052", func := "tallage/tallagelaw03.CodeAgain", spec := "codeAgain", inPlace := ["internal/bytealg.Count", "internal/bytealg.IndexByte", "internal/bytealg.Index"], named := ["internal/bytealg.MaxLen", "unicode/utf8.first", "unicode/utf8.acceptRanges"], apart := false, laid := [("unicode/utf8.acceptRanges", laid_unicode_utf8_acceptRanges), ("unicode/utf8.first", laid_unicode_utf8_first)] }
def CodeAgainSaid : Prop := codeAgainRow.holds Tryd.pinned (OpenSpec.ofChange codeAgainSpec)

/-- ITS FALSE NEIGHBOUR: 'it returns false'. Refute it at one input. -/
def codeAgainWrong : ChangeSpec := { name := "codeAgain", fn := fun _ => fun
  | [d] => { results := [.lit (.bool false)], args := [d] }
  | _ => none }
def CodeAgainWrongFalsely : Prop := codeAgainRow.holds Tryd.pinned (OpenSpec.ofChange codeAgainWrong)

/-- 'tallagelaw03.CodeTakes': WHATEVER THE INPUT: true; the input reads as it did. -/
def codeTakesSpec : ChangeSpec := { name := "codeTakes", fn := fun _ => fun
  | [d] => { results := [.lit (.bool true)], args := [d] }
  | _ => none }
def codeTakesRow : OpenClaim := { program := "ytnlmiicbdhomaaadoor", sum := "8db7a1d613da29a2e6e46350a0b32f1f2068d93772d4f48c0a458f707cd26052", func := "tallage/tallagelaw03.CodeTakes", spec := "codeTakes", inPlace := ["internal/bytealg.Count", "internal/bytealg.IndexByte", "internal/bytealg.Index"], unfollowed := true, recurses := true, named := ["internal/bytealg.MaxLen", "unicode/utf8.first", "unicode/utf8.acceptRanges"], apart := false, laid := [("unicode/utf8.acceptRanges", laid_unicode_utf8_acceptRanges), ("unicode/utf8.first", laid_unicode_utf8_first)] }
def CodeTakesSaid : Prop := codeTakesRow.holds Tryd.pinned (OpenSpec.ofChange codeTakesSpec)

/-- ITS FALSE NEIGHBOUR: 'it returns false'. Refute it at one input. -/
def codeTakesWrong : ChangeSpec := { name := "codeTakes", fn := fun _ => fun
  | [d] => { results := [.lit (.bool false)], args := [d] }
  | _ => none }
def CodeTakesWrongFalsely : Prop := codeTakesRow.holds Tryd.pinned (OpenSpec.ofChange codeTakesWrong)

/-- 'tallagelaw03.CodeParts': WHATEVER THE INPUT: true; the input reads as it did. -/
def codePartsSpec : ChangeSpec := { name := "codeParts", fn := fun _ => fun
  | [d] => { results := [.lit (.bool true)], args := [d] }
  | _ => none }
def codePartsRow : OpenClaim := { program := "ytnlmiicbdhomaaadoor", sum := "8db7a1d613da29a2e6e46350a0b32f1f2068d93772d4f48c0a458f707cd26052", func := "tallage/tallagelaw03.CodeParts", spec := "codeParts", inPlace := ["internal/bytealg.Count", "internal/bytealg.IndexByte", "internal/bytealg.Index"], unfollowed := true, recurses := true, named := ["internal/bytealg.MaxLen", "unicode/utf8.first", "unicode/utf8.acceptRanges"], apart := false, laid := [("unicode/utf8.acceptRanges", laid_unicode_utf8_acceptRanges), ("unicode/utf8.first", laid_unicode_utf8_first)] }
def CodePartsSaid : Prop := codePartsRow.holds Tryd.pinned (OpenSpec.ofChange codePartsSpec)

/-- ITS FALSE NEIGHBOUR: 'it returns false'. Refute it at one input. -/
def codePartsWrong : ChangeSpec := { name := "codeParts", fn := fun _ => fun
  | [d] => { results := [.lit (.bool false)], args := [d] }
  | _ => none }
def CodePartsWrongFalsely : Prop := codePartsRow.holds Tryd.pinned (OpenSpec.ofChange codePartsWrong)

/-- 'tallagelaw03.CodeBack': WHATEVER THE INPUT: true; the input reads as it did. -/
def codeBackSpec : ChangeSpec := { name := "codeBack", fn := fun _ => fun
  | [d1, d2, d3] => { results := [.lit (.bool true)], args := [d1, d2, d3] }
  | _ => none }
def codeBackRow : OpenClaim := { program := "ytnlmiicbdhomaaadoor", sum := "8db7a1d613da29a2e6e46350a0b32f1f2068d93772d4f48c0a458f707cd26052", func := "tallage/tallagelaw03.CodeBack", spec := "codeBack", inPlace := ["internal/bytealg.Count", "internal/bytealg.IndexByte", "internal/bytealg.Index"], unfollowed := true, recurses := true, named := ["internal/bytealg.MaxLen", "unicode/utf8.first", "unicode/utf8.acceptRanges"], apart := false, laid := [("unicode/utf8.acceptRanges", laid_unicode_utf8_acceptRanges), ("unicode/utf8.first", laid_unicode_utf8_first)] }
def CodeBackSaid : Prop := codeBackRow.holds Tryd.pinned (OpenSpec.ofChange codeBackSpec)

/-- ITS FALSE NEIGHBOUR: 'it returns false'. Refute it at one input. -/
def codeBackWrong : ChangeSpec := { name := "codeBack", fn := fun _ => fun
  | [d1, d2, d3] => { results := [.lit (.bool false)], args := [d1, d2, d3] }
  | _ => none }
def CodeBackWrongFalsely : Prop := codeBackRow.holds Tryd.pinned (OpenSpec.ofChange codeBackWrong)

/- THE SECOND FORM. 'bulk': how many values and letters a reading holds, each counted each time it is reached (what is shared counts as often as it is met; a slice's spare places count too). A statement '..UptoSaid' is the law's where the arguments, and the package variables that the reading takes, are together of bulk at most 1048576: NARROWER than '..Said'. Prove '..Said' where nothing that the law and all that it calls make is longer than what came in: it says more and counts as full. Else prove '..UptoSaid'. A law counts once. -/
mutual
def uptoBulk {H : Type} : DataW H → Nat
  | .lit (.string bytes) => bytes.length + 1
  | .lit _ => 1
  | .nil => 1
  | .ptr d => uptoBulk d + 1
  | .slice elems spare => uptoBulkAll elems + uptoBulkAll spare + 1
  | .agg parts => uptoBulkAll parts + 1
  | .iface _ d => uptoBulk d + 1
  | .map entries => uptoBulkEntries entries + 1
  | .held _ => 1
def uptoBulkAll {H : Type} : List (DataW H) → Nat
  | [] => 0
  | d :: r => uptoBulk d + uptoBulkAll r
def uptoBulkEntries {H : Type} : List (Lit × DataW H) → Nat
  | [] => 0
  | x :: r => uptoBulkEntry x + uptoBulkEntries r
def uptoBulkEntry {H : Type} : Lit × DataW H → Nat
  | (.string bytes, d) => bytes.length + uptoBulk d + 1
  | (_, d) => uptoBulk d + 1
 end
def uptoSmall : (H : Type) → List (DataW H) → Bool := fun _ ds => decide (uptoBulkAll ds ≤ 1048576)
def OpenSpec.upto (s : _root_.Go.ChangeSpec) : _root_.Go.OpenSpec := { _root_.Go.OpenSpec.ofChange s with cond := some uptoSmall }

/-- 'tallagelaw03.CodeKeys', WHERE WHAT IT READS IS OF BULK AT MOST 1048576: true; the input reads as it did. -/
def codeKeysUptoRow : OpenClaim := { program := "ytnlmiicbdhomaaadoor", sum := "8db7a1d613da29a2e6e46350a0b32f1f2068d93772d4f48c0a458f707cd26052", func := "tallage/tallagelaw03.CodeKeys", spec := "codeKeys", inPlace := ["internal/bytealg.Count", "internal/bytealg.IndexByte", "internal/bytealg.Index"], named := ["internal/bytealg.MaxLen", "unicode/utf8.first", "unicode/utf8.acceptRanges"], apart := false, laid := [("unicode/utf8.acceptRanges", laid_unicode_utf8_acceptRanges), ("unicode/utf8.first", laid_unicode_utf8_first)], narrowed := true }
def CodeKeysUptoSaid : Prop := codeKeysUptoRow.holds Tryd.pinned (OpenSpec.upto codeKeysSpec)

/-- 'tallagelaw03.CodeOrder', WHERE WHAT IT READS IS OF BULK AT MOST 1048576: true; the input reads as it did. -/
def codeOrderUptoRow : OpenClaim := { program := "ytnlmiicbdhomaaadoor", sum := "8db7a1d613da29a2e6e46350a0b32f1f2068d93772d4f48c0a458f707cd26052", func := "tallage/tallagelaw03.CodeOrder", spec := "codeOrder", inPlace := ["internal/bytealg.Count", "internal/bytealg.IndexByte", "internal/bytealg.Index"], named := ["internal/bytealg.MaxLen", "unicode/utf8.first", "unicode/utf8.acceptRanges"], apart := false, laid := [("unicode/utf8.acceptRanges", laid_unicode_utf8_acceptRanges), ("unicode/utf8.first", laid_unicode_utf8_first)], narrowed := true }
def CodeOrderUptoSaid : Prop := codeOrderUptoRow.holds Tryd.pinned (OpenSpec.upto codeOrderSpec)

/-- 'tallagelaw03.CodeAgain', WHERE WHAT IT READS IS OF BULK AT MOST 1048576: true; the input reads as it did. -/
def codeAgainUptoRow : OpenClaim := { program := "ytnlmiicbdhomaaadoor", sum := "8db7a1d613da29a2e6e46350a0b32f1f2068d93772d4f48c0a458f707cd26052", func := "tallage/tallagelaw03.CodeAgain", spec := "codeAgain", inPlace := ["internal/bytealg.Count", "internal/bytealg.IndexByte", "internal/bytealg.Index"], named := ["internal/bytealg.MaxLen", "unicode/utf8.first", "unicode/utf8.acceptRanges"], apart := false, laid := [("unicode/utf8.acceptRanges", laid_unicode_utf8_acceptRanges), ("unicode/utf8.first", laid_unicode_utf8_first)], narrowed := true }
def CodeAgainUptoSaid : Prop := codeAgainUptoRow.holds Tryd.pinned (OpenSpec.upto codeAgainSpec)

/-- 'tallagelaw03.CodeTakes', WHERE WHAT IT READS IS OF BULK AT MOST 1048576: true; the input reads as it did. -/
def codeTakesUptoRow : OpenClaim := { program := "ytnlmiicbdhomaaadoor", sum := "8db7a1d613da29a2e6e46350a0b32f1f2068d93772d4f48c0a458f707cd26052", func := "tallage/tallagelaw03.CodeTakes", spec := "codeTakes", inPlace := ["internal/bytealg.Count", "internal/bytealg.IndexByte", "internal/bytealg.Index"], unfollowed := true, recurses := true, named := ["internal/bytealg.MaxLen", "unicode/utf8.first", "unicode/utf8.acceptRanges"], apart := false, laid := [("unicode/utf8.acceptRanges", laid_unicode_utf8_acceptRanges), ("unicode/utf8.first", laid_unicode_utf8_first)], narrowed := true }
def CodeTakesUptoSaid : Prop := codeTakesUptoRow.holds Tryd.pinned (OpenSpec.upto codeTakesSpec)

/-- 'tallagelaw03.CodeParts', WHERE WHAT IT READS IS OF BULK AT MOST 1048576: true; the input reads as it did. -/
def codePartsUptoRow : OpenClaim := { program := "ytnlmiicbdhomaaadoor", sum := "8db7a1d613da29a2e6e46350a0b32f1f2068d93772d4f48c0a458f707cd26052", func := "tallage/tallagelaw03.CodeParts", spec := "codeParts", inPlace := ["internal/bytealg.Count", "internal/bytealg.IndexByte", "internal/bytealg.Index"], unfollowed := true, recurses := true, named := ["internal/bytealg.MaxLen", "unicode/utf8.first", "unicode/utf8.acceptRanges"], apart := false, laid := [("unicode/utf8.acceptRanges", laid_unicode_utf8_acceptRanges), ("unicode/utf8.first", laid_unicode_utf8_first)], narrowed := true }
def CodePartsUptoSaid : Prop := codePartsUptoRow.holds Tryd.pinned (OpenSpec.upto codePartsSpec)

/-- 'tallagelaw03.CodeBack', WHERE WHAT IT READS IS OF BULK AT MOST 1048576: true; the input reads as it did. -/
def codeBackUptoRow : OpenClaim := { program := "ytnlmiicbdhomaaadoor", sum := "8db7a1d613da29a2e6e46350a0b32f1f2068d93772d4f48c0a458f707cd26052", func := "tallage/tallagelaw03.CodeBack", spec := "codeBack", inPlace := ["internal/bytealg.Count", "internal/bytealg.IndexByte", "internal/bytealg.Index"], unfollowed := true, recurses := true, named := ["internal/bytealg.MaxLen", "unicode/utf8.first", "unicode/utf8.acceptRanges"], apart := false, laid := [("unicode/utf8.acceptRanges", laid_unicode_utf8_acceptRanges), ("unicode/utf8.first", laid_unicode_utf8_first)], narrowed := true }
def CodeBackUptoSaid : Prop := codeBackUptoRow.holds Tryd.pinned (OpenSpec.upto codeBackSpec)

end Rows
end Go.Proofs.YtnlmiicbdhomaaaDoor
