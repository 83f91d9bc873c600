/-
  DERIVED. GIVEN WITH THE SEED: THE CARDS: each row of YtekbdedpombgcaaGreatDoorRows.lean that lists a variable, with what it lists TIED to the program's text (the seventh form; the later family's looks); each row that meets fmt, with fmt's text TOLD by the authors' own Lean function (tested against real Go, not proved from fmt's source: count such statements apart). THE CARD IS WHAT COUNTS. Prove the row's statement (the work); the ties are given (YtekbdedpombgcaaGreatDoorTie.lean); close each card by the builder's one call (the guide's Derived/Test/ToyasCard.lean, 'card_holds'). Laid BY PROGRAM, IN A SANDBOX (cutbox-door.mjs). By AI agents, Wed Nov 11 2026. No macro, syntax, notation, axiom, sorry.
-/
import Derived.Test.YtekbdedpombgcaaGreatDoorRows
import GoSem.ClaimSeven
namespace Go.Proofs.YtekbdedpombgcaaGreatDoor
namespace Rows

/-- THE TIED CARD OF 'tallagelaw14.EngineOpens'. -/
def engineOpensCard : Claim7 := { stood := { row := engineOpensRow, standIns := [], harness := (true, "ea97c7de1293257c2656f32bf1f9c0288088d84afbdef2fb750662650509e242"), looks := true }, kinds := [], alts := [], laidByText := true, laidKinds := [.data, .data, .data, .data, .sentinel, .sentinel, .pinned], laidTests := true, laidLooks := .later }
def EngineOpensCardSaid : Prop := Claim7.holds Tryz.pinned (.plain (OpenSpec.ofChange engineOpensSpec)) engineOpensCard

/-- THE SECOND FORM's CARD OF 'tallagelaw14.EngineOpens'. -/
def engineOpensUptoCard : Claim7 := { stood := { row := engineOpensUptoRow, standIns := [], harness := (true, "ea97c7de1293257c2656f32bf1f9c0288088d84afbdef2fb750662650509e242"), looks := true }, kinds := [], alts := [], laidByText := true, laidKinds := [.data, .data, .data, .data, .sentinel, .sentinel, .pinned], laidTests := true, laidLooks := .later }
def EngineOpensUptoCardSaid : Prop := Claim7.holds Tryz.pinned (.plain (OpenSpec.upto engineOpensSpec)) engineOpensUptoCard
end Rows
end Go.Proofs.YtekbdedpombgcaaGreatDoor
