/-
  DERIVED. GIVEN WITH THE SEED: THE CARDS: each row of YtlmejpkngnilcaaGreatDoorRows.lean that lists a variable, with what it lists TIED to the program's text (the seventh form; the later family's looks); each row that meets fmt, with fmt's text TOLD by the authors' own Lean function (tested against real Go, not proved from fmt's source: count such statements apart). THE CARD IS WHAT COUNTS. Prove the row's statement (the work); the ties are given (YtlmejpkngnilcaaGreatDoorTie.lean); close each card by the builder's one call (the guide's Derived/Test/ToyasCard.lean, 'card_holds'). Laid BY PROGRAM, IN A SANDBOX (cutbox-door.mjs). By AI agents, Wed Nov 11 2026. No macro, syntax, notation, axiom, sorry.
-/
import Derived.Test.YtlmejpkngnilcaaGreatDoorRows
import GoSem.ClaimSeven
namespace Go.Proofs.YtlmejpkngnilcaaGreatDoor
namespace Rows

/-- THE TIED CARD OF 'tallagelaw22.StatementBack'. -/
def statementBackCard : Claim7 := { stood := { row := statementBackRow, standIns := [], harness := (true, "30975239ff4de1be4b2f682f7dec84f3c5c82a1be2188e123089735793fcfe6e"), looks := true }, kinds := [], alts := [], laidByText := true, laidKinds := [.data, .data, .data, .data, .sentinel, .sentinel, .pinned], laidTests := true, laidLooks := .later }
def StatementBackCardSaid : Prop := Claim7.holds Tryz.pinned (.plain (OpenSpec.ofChange statementBackSpec)) statementBackCard

/-- THE TIED CARD OF 'tallagelaw22.StatementAgain'. -/
def statementAgainCard : Claim7 := { stood := { row := statementAgainRow, standIns := [], harness := (true, "30975239ff4de1be4b2f682f7dec84f3c5c82a1be2188e123089735793fcfe6e"), looks := true }, kinds := [], alts := [], laidByText := true, laidKinds := [.data, .data, .data, .data, .sentinel, .sentinel, .pinned], laidTests := true, laidLooks := .later }
def StatementAgainCardSaid : Prop := Claim7.holds Tryz.pinned (.plain (OpenSpec.ofChange statementAgainSpec)) statementAgainCard

/-- THE SECOND FORM's CARD OF 'tallagelaw22.StatementBack'. -/
def statementBackUptoCard : Claim7 := { stood := { row := statementBackUptoRow, standIns := [], harness := (true, "30975239ff4de1be4b2f682f7dec84f3c5c82a1be2188e123089735793fcfe6e"), looks := true }, kinds := [], alts := [], laidByText := true, laidKinds := [.data, .data, .data, .data, .sentinel, .sentinel, .pinned], laidTests := true, laidLooks := .later }
def StatementBackUptoCardSaid : Prop := Claim7.holds Tryz.pinned (.plain (OpenSpec.upto statementBackSpec)) statementBackUptoCard

/-- THE SECOND FORM's CARD OF 'tallagelaw22.StatementAgain'. -/
def statementAgainUptoCard : Claim7 := { stood := { row := statementAgainUptoRow, standIns := [], harness := (true, "30975239ff4de1be4b2f682f7dec84f3c5c82a1be2188e123089735793fcfe6e"), looks := true }, kinds := [], alts := [], laidByText := true, laidKinds := [.data, .data, .data, .data, .sentinel, .sentinel, .pinned], laidTests := true, laidLooks := .later }
def StatementAgainUptoCardSaid : Prop := Claim7.holds Tryz.pinned (.plain (OpenSpec.upto statementAgainSpec)) statementAgainUptoCard
end Rows
end Go.Proofs.YtlmejpkngnilcaaGreatDoor
