/-
  DERIVED. GIVEN WITH THE SEED: THE CARDS: each row of YtgmnhdkdicgkcaaGreatDoorRows.lean that lists a variable, with what it lists TIED to the program's text (the seventh form; the later family's looks); each row that meets fmt, with fmt's text TOLD by the authors' own Lean function (tested against real Go, not proved from fmt's source: count such statements apart). THE CARD IS WHAT COUNTS. Prove the row's statement (the work); the ties are given (YtgmnhdkdicgkcaaGreatDoorTie.lean); close each card by the builder's one call (the guide's Derived/Test/ToyasCard.lean, 'card_holds'). Laid BY PROGRAM, IN A SANDBOX (cutbox-door.mjs). By AI agents, Wed Nov 11 2026. No macro, syntax, notation, axiom, sorry.
-/
import Derived.Test.YtgmnhdkdicgkcaaGreatDoorRows
import GoSem.ClaimSeven
namespace Go.Proofs.YtgmnhdkdicgkcaaGreatDoor
namespace Rows

/-- THE TIED CARD OF 'tallagelaw13.VersionApplies'. -/
def versionAppliesCard : Claim7 := { stood := { row := versionAppliesRow, standIns := [], harness := (true, "b20f8695cf09c18415b86c18e10893fa654cffdd872c1861d7f139a51624acf4"), looks := true }, kinds := [], alts := [], laidByText := true, laidKinds := [.data, .data, .data, .sentinel, .sentinel], laidTests := true, laidLooks := .later }
def VersionAppliesCardSaid : Prop := Claim7.holds Tryz.pinned (.plain (OpenSpec.ofChange versionAppliesSpec)) versionAppliesCard

/-- THE TIED CARD OF 'tallagelaw13.VersionBack'. -/
def versionBackCard : Claim7 := { stood := { row := versionBackRow, standIns := [], harness := (true, "b20f8695cf09c18415b86c18e10893fa654cffdd872c1861d7f139a51624acf4"), looks := true }, kinds := [], alts := [], laidByText := true, laidKinds := [.data, .data, .data, .sentinel, .sentinel], laidTests := true, laidLooks := .later }
def VersionBackCardSaid : Prop := Claim7.holds Tryz.pinned (.plain (OpenSpec.ofChange versionBackSpec)) versionBackCard

/-- THE TIED CARD OF 'tallagelaw13.VersionCodes'. -/
def versionCodesCard : Claim7 := { stood := { row := versionCodesRow, standIns := [], harness := (true, "b20f8695cf09c18415b86c18e10893fa654cffdd872c1861d7f139a51624acf4"), looks := true }, kinds := [], alts := [], laidByText := true, laidKinds := [.data, .data, .data, .sentinel, .sentinel], laidTests := true, laidLooks := .later }
def VersionCodesCardSaid : Prop := Claim7.holds Tryz.pinned (.plain (OpenSpec.ofChange versionCodesSpec)) versionCodesCard

/-- THE TIED CARD OF 'tallagelaw13.VersionScripts'. -/
def versionScriptsCard : Claim7 := { stood := { row := versionScriptsRow, standIns := [], harness := (true, "b20f8695cf09c18415b86c18e10893fa654cffdd872c1861d7f139a51624acf4"), looks := true }, kinds := [], alts := [], laidByText := true, laidKinds := [.data, .data, .data, .sentinel, .sentinel], laidTests := true, laidLooks := .later }
def VersionScriptsCardSaid : Prop := Claim7.holds Tryz.pinned (.plain (OpenSpec.ofChange versionScriptsSpec)) versionScriptsCard

/-- THE TIED CARD OF 'tallagelaw13.VersionLasts'. -/
def versionLastsCard : Claim7 := { stood := { row := versionLastsRow, standIns := [], harness := (true, "b20f8695cf09c18415b86c18e10893fa654cffdd872c1861d7f139a51624acf4"), looks := true }, kinds := [], alts := [], laidByText := true, laidKinds := [.data, .data, .data, .sentinel, .sentinel], laidTests := true, laidLooks := .later }
def VersionLastsCardSaid : Prop := Claim7.holds Tryz.pinned (.plain (OpenSpec.ofChange versionLastsSpec)) versionLastsCard

/-- THE SECOND FORM's CARD OF 'tallagelaw13.VersionApplies'. -/
def versionAppliesUptoCard : Claim7 := { stood := { row := versionAppliesUptoRow, standIns := [], harness := (true, "b20f8695cf09c18415b86c18e10893fa654cffdd872c1861d7f139a51624acf4"), looks := true }, kinds := [], alts := [], laidByText := true, laidKinds := [.data, .data, .data, .sentinel, .sentinel], laidTests := true, laidLooks := .later }
def VersionAppliesUptoCardSaid : Prop := Claim7.holds Tryz.pinned (.plain (OpenSpec.upto versionAppliesSpec)) versionAppliesUptoCard

/-- THE SECOND FORM's CARD OF 'tallagelaw13.VersionBack'. -/
def versionBackUptoCard : Claim7 := { stood := { row := versionBackUptoRow, standIns := [], harness := (true, "b20f8695cf09c18415b86c18e10893fa654cffdd872c1861d7f139a51624acf4"), looks := true }, kinds := [], alts := [], laidByText := true, laidKinds := [.data, .data, .data, .sentinel, .sentinel], laidTests := true, laidLooks := .later }
def VersionBackUptoCardSaid : Prop := Claim7.holds Tryz.pinned (.plain (OpenSpec.upto versionBackSpec)) versionBackUptoCard

/-- THE SECOND FORM's CARD OF 'tallagelaw13.VersionCodes'. -/
def versionCodesUptoCard : Claim7 := { stood := { row := versionCodesUptoRow, standIns := [], harness := (true, "b20f8695cf09c18415b86c18e10893fa654cffdd872c1861d7f139a51624acf4"), looks := true }, kinds := [], alts := [], laidByText := true, laidKinds := [.data, .data, .data, .sentinel, .sentinel], laidTests := true, laidLooks := .later }
def VersionCodesUptoCardSaid : Prop := Claim7.holds Tryz.pinned (.plain (OpenSpec.upto versionCodesSpec)) versionCodesUptoCard

/-- THE SECOND FORM's CARD OF 'tallagelaw13.VersionScripts'. -/
def versionScriptsUptoCard : Claim7 := { stood := { row := versionScriptsUptoRow, standIns := [], harness := (true, "b20f8695cf09c18415b86c18e10893fa654cffdd872c1861d7f139a51624acf4"), looks := true }, kinds := [], alts := [], laidByText := true, laidKinds := [.data, .data, .data, .sentinel, .sentinel], laidTests := true, laidLooks := .later }
def VersionScriptsUptoCardSaid : Prop := Claim7.holds Tryz.pinned (.plain (OpenSpec.upto versionScriptsSpec)) versionScriptsUptoCard

/-- THE SECOND FORM's CARD OF 'tallagelaw13.VersionLasts'. -/
def versionLastsUptoCard : Claim7 := { stood := { row := versionLastsUptoRow, standIns := [], harness := (true, "b20f8695cf09c18415b86c18e10893fa654cffdd872c1861d7f139a51624acf4"), looks := true }, kinds := [], alts := [], laidByText := true, laidKinds := [.data, .data, .data, .sentinel, .sentinel], laidTests := true, laidLooks := .later }
def VersionLastsUptoCardSaid : Prop := Claim7.holds Tryz.pinned (.plain (OpenSpec.upto versionLastsSpec)) versionLastsUptoCard
end Rows
end Go.Proofs.YtgmnhdkdicgkcaaGreatDoor
