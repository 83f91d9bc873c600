/-
  DERIVED. GIVEN WITH THE SEED: THE CARDS: each row of YtnlmiicbdhomaaaDoorRows.lean that lists a variable, with what it lists TIED to the program's text (the seventh form; the later family's looks); each row that meets fmt, with fmt's text TOLD by the authors' own Lean function (tested against real Go, not proved from fmt's source: count such statements apart). THE CARD IS WHAT COUNTS. Prove the row's statement (the work); the ties are given (YtnlmiicbdhomaaaDoorTie.lean); close each card by the builder's one call (the guide's Derived/Test/ToyasCard.lean, 'card_holds'). Laid BY PROGRAM, IN A SANDBOX (cutbox-door.mjs). By AI agents, Wed Nov 11 2026. No macro, syntax, notation, axiom, sorry.
-/
import Derived.Test.YtnlmiicbdhomaaaDoorRows
import GoSem.ClaimSeven
namespace Go.Proofs.YtnlmiicbdhomaaaDoor
namespace Rows

/-- THE TIED CARD OF 'tallagelaw03.CodeKeys'. -/
def codeKeysCard : Claim7 := { stood := { row := codeKeysRow, standIns := [], harness := (true, "f6820b88b52f52e00bb3cebe8f38548db878f5bed399c15cdcc2cfdb5b15336c"), looks := false }, kinds := [], alts := [], laidByText := true, laidKinds := [.data, .pinned], laidTests := true, laidLooks := .later }
def CodeKeysCardSaid : Prop := Claim7.holds Tryd.pinned (.plain (OpenSpec.ofChange codeKeysSpec)) codeKeysCard

/-- THE TIED CARD OF 'tallagelaw03.CodeOrder'. -/
def codeOrderCard : Claim7 := { stood := { row := codeOrderRow, standIns := [], harness := (true, "f6820b88b52f52e00bb3cebe8f38548db878f5bed399c15cdcc2cfdb5b15336c"), looks := false }, kinds := [], alts := [], laidByText := true, laidKinds := [.data, .pinned], laidTests := true, laidLooks := .later }
def CodeOrderCardSaid : Prop := Claim7.holds Tryd.pinned (.plain (OpenSpec.ofChange codeOrderSpec)) codeOrderCard

/-- THE TIED CARD OF 'tallagelaw03.CodeAgain'. -/
def codeAgainCard : Claim7 := { stood := { row := codeAgainRow, standIns := [], harness := (true, "f6820b88b52f52e00bb3cebe8f38548db878f5bed399c15cdcc2cfdb5b15336c"), looks := false }, kinds := [], alts := [], laidByText := true, laidKinds := [.data, .pinned], laidTests := true, laidLooks := .later }
def CodeAgainCardSaid : Prop := Claim7.holds Tryd.pinned (.plain (OpenSpec.ofChange codeAgainSpec)) codeAgainCard

/-- THE TIED CARD OF 'tallagelaw03.CodeTakes'. -/
def codeTakesCard : Claim7 := { stood := { row := codeTakesRow, standIns := [], harness := (true, "f6820b88b52f52e00bb3cebe8f38548db878f5bed399c15cdcc2cfdb5b15336c"), looks := false }, kinds := [], alts := [], laidByText := true, laidKinds := [.data, .pinned], laidTests := true, laidLooks := .later }
def CodeTakesCardSaid : Prop := Claim7.holds Tryd.pinned (.plain (OpenSpec.ofChange codeTakesSpec)) codeTakesCard

/-- THE TIED CARD OF 'tallagelaw03.CodeParts'. -/
def codePartsCard : Claim7 := { stood := { row := codePartsRow, standIns := [], harness := (true, "f6820b88b52f52e00bb3cebe8f38548db878f5bed399c15cdcc2cfdb5b15336c"), looks := false }, kinds := [], alts := [], laidByText := true, laidKinds := [.data, .pinned], laidTests := true, laidLooks := .later }
def CodePartsCardSaid : Prop := Claim7.holds Tryd.pinned (.plain (OpenSpec.ofChange codePartsSpec)) codePartsCard

/-- THE TIED CARD OF 'tallagelaw03.CodeBack'. -/
def codeBackCard : Claim7 := { stood := { row := codeBackRow, standIns := [], harness := (true, "f6820b88b52f52e00bb3cebe8f38548db878f5bed399c15cdcc2cfdb5b15336c"), looks := false }, kinds := [], alts := [], laidByText := true, laidKinds := [.data, .pinned], laidTests := true, laidLooks := .later }
def CodeBackCardSaid : Prop := Claim7.holds Tryd.pinned (.plain (OpenSpec.ofChange codeBackSpec)) codeBackCard

/-- THE SECOND FORM's CARD OF 'tallagelaw03.CodeKeys'. -/
def codeKeysUptoCard : Claim7 := { stood := { row := codeKeysUptoRow, standIns := [], harness := (true, "f6820b88b52f52e00bb3cebe8f38548db878f5bed399c15cdcc2cfdb5b15336c"), looks := false }, kinds := [], alts := [], laidByText := true, laidKinds := [.data, .pinned], laidTests := true, laidLooks := .later }
def CodeKeysUptoCardSaid : Prop := Claim7.holds Tryd.pinned (.plain (OpenSpec.upto codeKeysSpec)) codeKeysUptoCard

/-- THE SECOND FORM's CARD OF 'tallagelaw03.CodeOrder'. -/
def codeOrderUptoCard : Claim7 := { stood := { row := codeOrderUptoRow, standIns := [], harness := (true, "f6820b88b52f52e00bb3cebe8f38548db878f5bed399c15cdcc2cfdb5b15336c"), looks := false }, kinds := [], alts := [], laidByText := true, laidKinds := [.data, .pinned], laidTests := true, laidLooks := .later }
def CodeOrderUptoCardSaid : Prop := Claim7.holds Tryd.pinned (.plain (OpenSpec.upto codeOrderSpec)) codeOrderUptoCard

/-- THE SECOND FORM's CARD OF 'tallagelaw03.CodeAgain'. -/
def codeAgainUptoCard : Claim7 := { stood := { row := codeAgainUptoRow, standIns := [], harness := (true, "f6820b88b52f52e00bb3cebe8f38548db878f5bed399c15cdcc2cfdb5b15336c"), looks := false }, kinds := [], alts := [], laidByText := true, laidKinds := [.data, .pinned], laidTests := true, laidLooks := .later }
def CodeAgainUptoCardSaid : Prop := Claim7.holds Tryd.pinned (.plain (OpenSpec.upto codeAgainSpec)) codeAgainUptoCard

/-- THE SECOND FORM's CARD OF 'tallagelaw03.CodeTakes'. -/
def codeTakesUptoCard : Claim7 := { stood := { row := codeTakesUptoRow, standIns := [], harness := (true, "f6820b88b52f52e00bb3cebe8f38548db878f5bed399c15cdcc2cfdb5b15336c"), looks := false }, kinds := [], alts := [], laidByText := true, laidKinds := [.data, .pinned], laidTests := true, laidLooks := .later }
def CodeTakesUptoCardSaid : Prop := Claim7.holds Tryd.pinned (.plain (OpenSpec.upto codeTakesSpec)) codeTakesUptoCard

/-- THE SECOND FORM's CARD OF 'tallagelaw03.CodeParts'. -/
def codePartsUptoCard : Claim7 := { stood := { row := codePartsUptoRow, standIns := [], harness := (true, "f6820b88b52f52e00bb3cebe8f38548db878f5bed399c15cdcc2cfdb5b15336c"), looks := false }, kinds := [], alts := [], laidByText := true, laidKinds := [.data, .pinned], laidTests := true, laidLooks := .later }
def CodePartsUptoCardSaid : Prop := Claim7.holds Tryd.pinned (.plain (OpenSpec.upto codePartsSpec)) codePartsUptoCard

/-- THE SECOND FORM's CARD OF 'tallagelaw03.CodeBack'. -/
def codeBackUptoCard : Claim7 := { stood := { row := codeBackUptoRow, standIns := [], harness := (true, "f6820b88b52f52e00bb3cebe8f38548db878f5bed399c15cdcc2cfdb5b15336c"), looks := false }, kinds := [], alts := [], laidByText := true, laidKinds := [.data, .pinned], laidTests := true, laidLooks := .later }
def CodeBackUptoCardSaid : Prop := Claim7.holds Tryd.pinned (.plain (OpenSpec.upto codeBackSpec)) codeBackUptoCard
end Rows
end Go.Proofs.YtnlmiicbdhomaaaDoor
