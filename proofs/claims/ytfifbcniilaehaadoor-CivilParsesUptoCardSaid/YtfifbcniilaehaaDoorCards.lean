/-
  DERIVED. GIVEN WITH THE SEED: THE CARDS: each row of YtfifbcniilaehaaDoorRows.lean that lists a variable, with what it lists TIED to the program's text (the seventh form; the later family's looks); each row that meets fmt, with fmt's text TOLD by the authors' own Lean function (tested against real Go, not proved from fmt's source: count such statements apart). THE CARD IS WHAT COUNTS. Prove the row's statement (the work); the ties are given (YtfifbcniilaehaaDoorTie.lean); close each card by the builder's one call (the guide's Derived/Test/ToyasCard.lean, 'card_holds'). Laid BY PROGRAM, IN A SANDBOX (cutbox-door.mjs). By AI agents, Wed Nov 11 2026. No macro, syntax, notation, axiom, sorry.
-/
import Derived.Test.YtfifbcniilaehaaDoorRows
import GoSem.ClaimSeven
namespace Go.Proofs.YtfifbcniilaehaaDoor
namespace Rows

/-- THE TIED CARD OF 'tallagelaw02.CivilDates'. -/
def civilDatesCard : Claim7 := { stood := { row := civilDatesRow, standIns := [], harness := (true, "411fa6e4688b18e6c4d4bec9ee6e95bd75af65149ca39b18151a1a7f976ee6e7"), looks := true }, kinds := [], alts := [], laidByText := true, laidKinds := [.data, .data, .data], laidTests := true, laidLooks := .later }
def CivilDatesCardSaid : Prop := Claim7.holds Tryd.pinned (.plain (OpenSpec.ofChange civilDatesSpec)) civilDatesCard

/-- THE TIED CARD OF 'tallagelaw02.CivilNext'. -/
def civilNextCard : Claim7 := { stood := { row := civilNextRow, standIns := [], harness := (true, "411fa6e4688b18e6c4d4bec9ee6e95bd75af65149ca39b18151a1a7f976ee6e7"), looks := true }, kinds := [], alts := [], laidByText := true, laidKinds := [.data, .data, .data], laidTests := true, laidLooks := .later }
def CivilNextCardSaid : Prop := Claim7.holds Tryd.pinned (.plain (OpenSpec.ofChange civilNextSpec)) civilNextCard

/-- THE TIED CARD OF 'tallagelaw02.CivilParses'. -/
def civilParsesCard : Claim7 := { stood := { row := civilParsesRow, standIns := [], harness := (true, "411fa6e4688b18e6c4d4bec9ee6e95bd75af65149ca39b18151a1a7f976ee6e7"), looks := true }, kinds := [], alts := [], laidByText := true, laidKinds := [.data, .data, .data, .data, .sentinel, .sentinel, .pinned], laidTests := true, laidLooks := .later }
def CivilParsesCardSaid : Prop := Claim7.holds Tryd.pinned (.plain (OpenSpec.ofChange civilParsesSpec)) civilParsesCard

/-- THE TIED CARD OF 'tallagelaw02.CivilBack'. -/
def civilBackCard : Claim7 := { stood := { row := civilBackRow, standIns := [], harness := (true, "411fa6e4688b18e6c4d4bec9ee6e95bd75af65149ca39b18151a1a7f976ee6e7"), looks := true }, kinds := [], alts := [], laidByText := true, laidKinds := [.data, .data, .data, .data, .sentinel, .sentinel, .pinned], laidTests := true, laidLooks := .later }
def CivilBackCardSaid : Prop := Claim7.holds Tryd.pinned (.plain (OpenSpec.ofChange civilBackSpec)) civilBackCard

/-- THE SECOND FORM's CARD OF 'tallagelaw02.CivilDates'. -/
def civilDatesUptoCard : Claim7 := { stood := { row := civilDatesUptoRow, standIns := [], harness := (true, "411fa6e4688b18e6c4d4bec9ee6e95bd75af65149ca39b18151a1a7f976ee6e7"), looks := true }, kinds := [], alts := [], laidByText := true, laidKinds := [.data, .data, .data], laidTests := true, laidLooks := .later }
def CivilDatesUptoCardSaid : Prop := Claim7.holds Tryd.pinned (.plain (OpenSpec.upto civilDatesSpec)) civilDatesUptoCard

/-- THE SECOND FORM's CARD OF 'tallagelaw02.CivilNext'. -/
def civilNextUptoCard : Claim7 := { stood := { row := civilNextUptoRow, standIns := [], harness := (true, "411fa6e4688b18e6c4d4bec9ee6e95bd75af65149ca39b18151a1a7f976ee6e7"), looks := true }, kinds := [], alts := [], laidByText := true, laidKinds := [.data, .data, .data], laidTests := true, laidLooks := .later }
def CivilNextUptoCardSaid : Prop := Claim7.holds Tryd.pinned (.plain (OpenSpec.upto civilNextSpec)) civilNextUptoCard

/-- THE SECOND FORM's CARD OF 'tallagelaw02.CivilParses'. -/
def civilParsesUptoCard : Claim7 := { stood := { row := civilParsesUptoRow, standIns := [], harness := (true, "411fa6e4688b18e6c4d4bec9ee6e95bd75af65149ca39b18151a1a7f976ee6e7"), looks := true }, kinds := [], alts := [], laidByText := true, laidKinds := [.data, .data, .data, .data, .sentinel, .sentinel, .pinned], laidTests := true, laidLooks := .later }
def CivilParsesUptoCardSaid : Prop := Claim7.holds Tryd.pinned (.plain (OpenSpec.upto civilParsesSpec)) civilParsesUptoCard

/-- THE SECOND FORM's CARD OF 'tallagelaw02.CivilBack'. -/
def civilBackUptoCard : Claim7 := { stood := { row := civilBackUptoRow, standIns := [], harness := (true, "411fa6e4688b18e6c4d4bec9ee6e95bd75af65149ca39b18151a1a7f976ee6e7"), looks := true }, kinds := [], alts := [], laidByText := true, laidKinds := [.data, .data, .data, .data, .sentinel, .sentinel, .pinned], laidTests := true, laidLooks := .later }
def CivilBackUptoCardSaid : Prop := Claim7.holds Tryd.pinned (.plain (OpenSpec.upto civilBackSpec)) civilBackUptoCard
end Rows
end Go.Proofs.YtfifbcniilaehaaDoor
