/-
  DERIVED. GIVEN WITH THE SEED: THE CARDS: each row of YtgafionfojnieaaDoorRows.lean that lists a variable, with what it lists TIED to the program's text (the seventh form; the later family's looks); each row that meets fmt, with fmt's text TOLD by the authors' own Lean function (tested against real Go, not proved from fmt's source: count such statements apart). THE CARD IS WHAT COUNTS. Prove the row's statement (the work); the ties are given (YtgafionfojnieaaDoorTie.lean); close each card by the builder's one call (the guide's Derived/Test/ToyasCard.lean, 'card_holds'). Laid BY PROGRAM, IN A SANDBOX (cutbox-door.mjs). By AI agents, Wed Nov 11 2026. No macro, syntax, notation, axiom, sorry.
-/
import Derived.Test.YtgafionfojnieaaDoorRows
import GoSem.ClaimSeven
namespace Go.Proofs.YtgafionfojnieaaDoor
namespace Rows

/-- THE TIED CARD OF 'tallagelaw11.TableBuilds'. -/
def tableBuildsCard : Claim7 := { stood := { row := tableBuildsRow, standIns := [], harness := (true, "7951f023363d16406844b4baafdc6dbb63a42f13e833adaf8bc876b6ef0504ce"), looks := false }, kinds := [], alts := [], laidByText := true, laidKinds := [.data, .pinned], laidTests := true, laidLooks := .later }
def TableBuildsCardSaid : Prop := Claim7.holds Tryd.pinned (.plain (OpenSpec.ofChange tableBuildsSpec)) tableBuildsCard

/-- THE TIED CARD OF 'tallagelaw11.TableTurned'. -/
def tableTurnedCard : Claim7 := { stood := { row := tableTurnedRow, standIns := [], harness := (true, "7951f023363d16406844b4baafdc6dbb63a42f13e833adaf8bc876b6ef0504ce"), looks := false }, kinds := [], alts := [], laidByText := true, laidKinds := [.data, .pinned], laidTests := true, laidLooks := .later }
def TableTurnedCardSaid : Prop := Claim7.holds Tryd.pinned (.plain (OpenSpec.ofChange tableTurnedSpec)) tableTurnedCard

/-- THE SECOND FORM's CARD OF 'tallagelaw11.TableBuilds'. -/
def tableBuildsUptoCard : Claim7 := { stood := { row := tableBuildsUptoRow, standIns := [], harness := (true, "7951f023363d16406844b4baafdc6dbb63a42f13e833adaf8bc876b6ef0504ce"), looks := false }, kinds := [], alts := [], laidByText := true, laidKinds := [.data, .pinned], laidTests := true, laidLooks := .later }
def TableBuildsUptoCardSaid : Prop := Claim7.holds Tryd.pinned (.plain (OpenSpec.upto tableBuildsSpec)) tableBuildsUptoCard

/-- THE SECOND FORM's CARD OF 'tallagelaw11.TableTurned'. -/
def tableTurnedUptoCard : Claim7 := { stood := { row := tableTurnedUptoRow, standIns := [], harness := (true, "7951f023363d16406844b4baafdc6dbb63a42f13e833adaf8bc876b6ef0504ce"), looks := false }, kinds := [], alts := [], laidByText := true, laidKinds := [.data, .pinned], laidTests := true, laidLooks := .later }
def TableTurnedUptoCardSaid : Prop := Claim7.holds Tryd.pinned (.plain (OpenSpec.upto tableTurnedSpec)) tableTurnedUptoCard
end Rows
end Go.Proofs.YtgafionfojnieaaDoor
