/-
  DERIVED. GIVEN WITH THE SEED: THE CARDS: each row of YtaiokogbhfliiaaGreatDoorRows.lean that lists a variable, with what it lists TIED to the program's text (the seventh form; the later family's looks); each row that meets fmt, with fmt's text TOLD by the authors' own Lean function (tested against real Go, not proved from fmt's source: count such statements apart). THE CARD IS WHAT COUNTS. Prove the row's statement (the work); the ties are given (YtaiokogbhfliiaaGreatDoorTie.lean); close each card by the builder's one call (the guide's Derived/Test/ToyasCard.lean, 'card_holds'). Laid BY PROGRAM, IN A SANDBOX (cutbox-door.mjs). By AI agents, Wed Nov 11 2026. No macro, syntax, notation, axiom, sorry.
-/
import Derived.Test.YtaiokogbhfliiaaGreatDoorRows
import GoSem.ClaimSeven
namespace Go.Proofs.YtaiokogbhfliiaaGreatDoor
namespace Rows

/-- THE TIED CARD OF 'tallagelaw07.WalOpens'. -/
def walOpensCard : Claim7 := { stood := { row := walOpensRow, standIns := [], harness := (true, "fd5fa9bb1761e32f358a715d038b76cbfe7c2549c4f47474606cecb0e9a5d08a"), looks := true }, kinds := [], alts := [], laidByText := true, laidKinds := [.data, .data, .data, .sentinel, .sentinel], laidTests := true, laidLooks := .later }
def WalOpensCardSaid : Prop := Claim7.holds Tryz.pinned (.plain (OpenSpec.ofChange walOpensSpec)) walOpensCard

/-- THE TIED CARD OF 'tallagelaw07.WalEnds'. -/
def walEndsCard : Claim7 := { stood := { row := walEndsRow, standIns := [], harness := (true, "fd5fa9bb1761e32f358a715d038b76cbfe7c2549c4f47474606cecb0e9a5d08a"), looks := true }, kinds := [], alts := [], laidByText := true, laidKinds := [.data, .data, .data, .sentinel, .sentinel], laidTests := true, laidLooks := .later }
def WalEndsCardSaid : Prop := Claim7.holds Tryz.pinned (.plain (OpenSpec.ofChange walEndsSpec)) walEndsCard

/-- THE TIED CARD OF 'tallagelaw07.WalGroups'. -/
def walGroupsCard : Claim7 := { stood := { row := walGroupsRow, standIns := [], harness := (true, "fd5fa9bb1761e32f358a715d038b76cbfe7c2549c4f47474606cecb0e9a5d08a"), looks := true }, kinds := [], alts := [], laidByText := true, laidKinds := [.data, .data, .data, .sentinel, .sentinel], laidTests := true, laidLooks := .later }
def WalGroupsCardSaid : Prop := Claim7.holds Tryz.pinned (.plain (OpenSpec.ofChange walGroupsSpec)) walGroupsCard

/-- THE TIED CARD OF 'tallagelaw07.WalLasts'. -/
def walLastsCard : Claim7 := { stood := { row := walLastsRow, standIns := [], harness := (true, "fd5fa9bb1761e32f358a715d038b76cbfe7c2549c4f47474606cecb0e9a5d08a"), looks := true }, kinds := [], alts := [], laidByText := true, laidKinds := [.data, .data, .data, .sentinel, .sentinel], laidTests := true, laidLooks := .later }
def WalLastsCardSaid : Prop := Claim7.holds Tryz.pinned (.plain (OpenSpec.ofChange walLastsSpec)) walLastsCard

/-- THE TIED CARD OF 'tallagelaw07.WalRetires'. -/
def walRetiresCard : Claim7 := { stood := { row := walRetiresRow, standIns := [], harness := (true, "fd5fa9bb1761e32f358a715d038b76cbfe7c2549c4f47474606cecb0e9a5d08a"), looks := true }, kinds := [], alts := [], laidByText := true, laidKinds := [.data, .data, .data, .sentinel, .sentinel], laidTests := true, laidLooks := .later }
def WalRetiresCardSaid : Prop := Claim7.holds Tryz.pinned (.plain (OpenSpec.ofChange walRetiresSpec)) walRetiresCard

/-- THE TIED CARD OF 'tallagelaw07.WalNumbers'. -/
def walNumbersCard : Claim7 := { stood := { row := walNumbersRow, standIns := [], harness := (true, "fd5fa9bb1761e32f358a715d038b76cbfe7c2549c4f47474606cecb0e9a5d08a"), looks := true }, kinds := [], alts := [], laidByText := true, laidKinds := [.data, .data, .data, .sentinel, .sentinel], laidTests := true, laidLooks := .later }
def WalNumbersCardSaid : Prop := Claim7.holds Tryz.pinned (.plain (OpenSpec.ofChange walNumbersSpec)) walNumbersCard

/-- THE TIED CARD OF 'tallagelaw07.WalScripts'. -/
def walScriptsCard : Claim7 := { stood := { row := walScriptsRow, standIns := [], harness := (true, "fd5fa9bb1761e32f358a715d038b76cbfe7c2549c4f47474606cecb0e9a5d08a"), looks := true }, kinds := [], alts := [], laidByText := true, laidKinds := [.data, .data, .data, .sentinel, .sentinel], laidTests := true, laidLooks := .later }
def WalScriptsCardSaid : Prop := Claim7.holds Tryz.pinned (.plain (OpenSpec.ofChange walScriptsSpec)) walScriptsCard

/-- THE SECOND FORM's CARD OF 'tallagelaw07.WalOpens'. -/
def walOpensUptoCard : Claim7 := { stood := { row := walOpensUptoRow, standIns := [], harness := (true, "fd5fa9bb1761e32f358a715d038b76cbfe7c2549c4f47474606cecb0e9a5d08a"), looks := true }, kinds := [], alts := [], laidByText := true, laidKinds := [.data, .data, .data, .sentinel, .sentinel], laidTests := true, laidLooks := .later }
def WalOpensUptoCardSaid : Prop := Claim7.holds Tryz.pinned (.plain (OpenSpec.upto walOpensSpec)) walOpensUptoCard

/-- THE SECOND FORM's CARD OF 'tallagelaw07.WalEnds'. -/
def walEndsUptoCard : Claim7 := { stood := { row := walEndsUptoRow, standIns := [], harness := (true, "fd5fa9bb1761e32f358a715d038b76cbfe7c2549c4f47474606cecb0e9a5d08a"), looks := true }, kinds := [], alts := [], laidByText := true, laidKinds := [.data, .data, .data, .sentinel, .sentinel], laidTests := true, laidLooks := .later }
def WalEndsUptoCardSaid : Prop := Claim7.holds Tryz.pinned (.plain (OpenSpec.upto walEndsSpec)) walEndsUptoCard

/-- THE SECOND FORM's CARD OF 'tallagelaw07.WalGroups'. -/
def walGroupsUptoCard : Claim7 := { stood := { row := walGroupsUptoRow, standIns := [], harness := (true, "fd5fa9bb1761e32f358a715d038b76cbfe7c2549c4f47474606cecb0e9a5d08a"), looks := true }, kinds := [], alts := [], laidByText := true, laidKinds := [.data, .data, .data, .sentinel, .sentinel], laidTests := true, laidLooks := .later }
def WalGroupsUptoCardSaid : Prop := Claim7.holds Tryz.pinned (.plain (OpenSpec.upto walGroupsSpec)) walGroupsUptoCard

/-- THE SECOND FORM's CARD OF 'tallagelaw07.WalLasts'. -/
def walLastsUptoCard : Claim7 := { stood := { row := walLastsUptoRow, standIns := [], harness := (true, "fd5fa9bb1761e32f358a715d038b76cbfe7c2549c4f47474606cecb0e9a5d08a"), looks := true }, kinds := [], alts := [], laidByText := true, laidKinds := [.data, .data, .data, .sentinel, .sentinel], laidTests := true, laidLooks := .later }
def WalLastsUptoCardSaid : Prop := Claim7.holds Tryz.pinned (.plain (OpenSpec.upto walLastsSpec)) walLastsUptoCard

/-- THE SECOND FORM's CARD OF 'tallagelaw07.WalRetires'. -/
def walRetiresUptoCard : Claim7 := { stood := { row := walRetiresUptoRow, standIns := [], harness := (true, "fd5fa9bb1761e32f358a715d038b76cbfe7c2549c4f47474606cecb0e9a5d08a"), looks := true }, kinds := [], alts := [], laidByText := true, laidKinds := [.data, .data, .data, .sentinel, .sentinel], laidTests := true, laidLooks := .later }
def WalRetiresUptoCardSaid : Prop := Claim7.holds Tryz.pinned (.plain (OpenSpec.upto walRetiresSpec)) walRetiresUptoCard

/-- THE SECOND FORM's CARD OF 'tallagelaw07.WalNumbers'. -/
def walNumbersUptoCard : Claim7 := { stood := { row := walNumbersUptoRow, standIns := [], harness := (true, "fd5fa9bb1761e32f358a715d038b76cbfe7c2549c4f47474606cecb0e9a5d08a"), looks := true }, kinds := [], alts := [], laidByText := true, laidKinds := [.data, .data, .data, .sentinel, .sentinel], laidTests := true, laidLooks := .later }
def WalNumbersUptoCardSaid : Prop := Claim7.holds Tryz.pinned (.plain (OpenSpec.upto walNumbersSpec)) walNumbersUptoCard

/-- THE SECOND FORM's CARD OF 'tallagelaw07.WalScripts'. -/
def walScriptsUptoCard : Claim7 := { stood := { row := walScriptsUptoRow, standIns := [], harness := (true, "fd5fa9bb1761e32f358a715d038b76cbfe7c2549c4f47474606cecb0e9a5d08a"), looks := true }, kinds := [], alts := [], laidByText := true, laidKinds := [.data, .data, .data, .sentinel, .sentinel], laidTests := true, laidLooks := .later }
def WalScriptsUptoCardSaid : Prop := Claim7.holds Tryz.pinned (.plain (OpenSpec.upto walScriptsSpec)) walScriptsUptoCard
end Rows
end Go.Proofs.YtaiokogbhfliiaaGreatDoor
