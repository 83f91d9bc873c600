/-
  DERIVED. GIVEN WITH THE SEED: THE CARDS: each row of YtgafionfojnieaaGreatDoorRows.lean that lists a variable, with what it lists TIED to the program's text (the seventh form; the later family's looks); each row that meets fmt, with fmt's text TOLD by the authors' own Lean function (tested against real Go, not proved from fmt's source: count such statements apart). THE CARD IS WHAT COUNTS. Prove the row's statement (the work); the ties are given (YtgafionfojnieaaGreatDoorTie.lean); close each card by the builder's one call (the guide's Derived/Test/ToyasCard.lean, 'card_holds'). Laid BY PROGRAM, IN A SANDBOX (cutbox-door.mjs). By AI agents, Wed Nov 11 2026. No macro, syntax, notation, axiom, sorry.
-/
import Derived.Test.YtgafionfojnieaaGreatDoorRows
import GoSem.ClaimSeven
namespace Go.Proofs.YtgafionfojnieaaGreatDoor
namespace Rows

/-- THE TIED CARD OF 'tallagelaw11.TableOpens'. -/
def tableOpensCard : Claim7 := { stood := { row := tableOpensRow, standIns := [], harness := (true, "a395e138a1365898db8d6657a890645c793eb8aea00d61bbf7bab23af92d5b9e"), looks := false }, kinds := [], alts := [], laidByText := true, laidKinds := [.data, .pinned], laidTests := true, laidLooks := .later }
def TableOpensCardSaid : Prop := Claim7.holds Tryz.pinned (.plain (OpenSpec.ofChange tableOpensSpec)) tableOpensCard

/-- THE TIED CARD OF 'tallagelaw11.TableBack'. -/
def tableBackCard : Claim7 := { stood := { row := tableBackRow, standIns := [], harness := (true, "a395e138a1365898db8d6657a890645c793eb8aea00d61bbf7bab23af92d5b9e"), looks := false }, kinds := [], alts := [], laidByText := true, laidKinds := [.data, .pinned], laidTests := true, laidLooks := .later }
def TableBackCardSaid : Prop := Claim7.holds Tryz.pinned (.plain (OpenSpec.ofChange tableBackSpec)) tableBackCard

/-- THE SECOND FORM's CARD OF 'tallagelaw11.TableOpens'. -/
def tableOpensUptoCard : Claim7 := { stood := { row := tableOpensUptoRow, standIns := [], harness := (true, "a395e138a1365898db8d6657a890645c793eb8aea00d61bbf7bab23af92d5b9e"), looks := false }, kinds := [], alts := [], laidByText := true, laidKinds := [.data, .pinned], laidTests := true, laidLooks := .later }
def TableOpensUptoCardSaid : Prop := Claim7.holds Tryz.pinned (.plain (OpenSpec.upto tableOpensSpec)) tableOpensUptoCard

/-- THE SECOND FORM's CARD OF 'tallagelaw11.TableBack'. -/
def tableBackUptoCard : Claim7 := { stood := { row := tableBackUptoRow, standIns := [], harness := (true, "a395e138a1365898db8d6657a890645c793eb8aea00d61bbf7bab23af92d5b9e"), looks := false }, kinds := [], alts := [], laidByText := true, laidKinds := [.data, .pinned], laidTests := true, laidLooks := .later }
def TableBackUptoCardSaid : Prop := Claim7.holds Tryz.pinned (.plain (OpenSpec.upto tableBackSpec)) tableBackUptoCard
end Rows
end Go.Proofs.YtgafionfojnieaaGreatDoor
