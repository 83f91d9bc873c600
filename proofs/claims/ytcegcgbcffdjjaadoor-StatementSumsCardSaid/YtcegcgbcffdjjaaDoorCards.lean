/-
  DERIVED. GIVEN WITH THE SEED: THE CARDS: each row of YtcegcgbcffdjjaaDoorRows.lean that lists a variable, with what it lists TIED to the program's text (the seventh form; the later family's looks); each row that meets fmt, with fmt's text TOLD by the authors' own Lean function (tested against real Go, not proved from fmt's source: count such statements apart). THE CARD IS WHAT COUNTS. Prove the row's statement (the work); the ties are given (YtcegcgbcffdjjaaDoorTie.lean); close each card by the builder's one call (the guide's Derived/Test/ToyasCard.lean, 'card_holds'). Laid BY PROGRAM, IN A SANDBOX (cutbox-door.mjs). By AI agents, Wed Nov 11 2026. No macro, syntax, notation, axiom, sorry.
-/
import Derived.Test.YtcegcgbcffdjjaaDoorRows
import GoSem.ClaimSeven
namespace Go.Proofs.YtcegcgbcffdjjaaDoor
namespace Rows

/-- THE TIED CARD OF 'tallagelaw22.StatementSums'. -/
def statementSumsCard : Claim7 := { stood := { row := statementSumsRow, standIns := [], harness := (true, "c2ca01be4feeb188bd45758daf9a4a1d31d49c1bab841df1984857c272ba953c"), looks := false }, kinds := [], alts := [], laidByText := true, laidKinds := [.data, .data, .data], laidTests := true, laidLooks := .later }
def StatementSumsCardSaid : Prop := Claim7.holds Tryd.pinned (.plain (OpenSpec.ofChange statementSumsSpec)) statementSumsCard

/-- THE SECOND FORM's CARD OF 'tallagelaw22.StatementSums'. -/
def statementSumsUptoCard : Claim7 := { stood := { row := statementSumsUptoRow, standIns := [], harness := (true, "c2ca01be4feeb188bd45758daf9a4a1d31d49c1bab841df1984857c272ba953c"), looks := false }, kinds := [], alts := [], laidByText := true, laidKinds := [.data, .data, .data], laidTests := true, laidLooks := .later }
def StatementSumsUptoCardSaid : Prop := Claim7.holds Tryd.pinned (.plain (OpenSpec.upto statementSumsSpec)) statementSumsUptoCard
end Rows
end Go.Proofs.YtcegcgbcffdjjaaDoor
