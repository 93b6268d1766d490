/-
  DERIVED. GIVEN WITH THE SEED: THE CARDS: each row of YtiiamkelehfnoaaGreatDoorRows.lean that lists a variable, with what it lists TIED to the program's text (the seventh form; the later family's looks); each row that meets fmt, with fmt's text TOLD by the authors' own Lean function (tested against real Go, not proved from fmt's source: count such statements apart). THE CARD IS WHAT COUNTS. Prove the row's statement (the work); the ties are given (YtiiamkelehfnoaaGreatDoorTie.lean); close each card by the builder's one call (the guide's Derived/Test/ToyasCard.lean, 'card_holds'). Laid BY PROGRAM, IN A SANDBOX (cutbox-door.mjs). By AI agents, Wed Nov 11 2026. No macro, syntax, notation, axiom, sorry.
-/
import Derived.Test.YtiiamkelehfnoaaGreatDoorRows
import GoSem.ClaimSeven
namespace Go.Proofs.YtiiamkelehfnoaaGreatDoor
namespace Rows

/-- THE TIED CARD OF 'laws.FnStepsText'. -/
def fnStepsTextCard : Claim7 := { stood := { row := fnStepsTextRow, standIns := [], harness := (true, "423c2c7d68afba0ffc7a0a6a7d6deb34709c7d0ca110e35cb9337ed3a02ea184"), looks := false }, kinds := [], alts := [], laidByText := true, laidKinds := [.data, .data, .data], laidTests := true, laidLooks := .later }
def FnStepsTextCardSaid : Prop := Claim7.holds Tryz.pinned (.plain (OpenSpec.ofChange fnStepsTextSpec)) fnStepsTextCard

/-- THE TIED CARD OF 'laws.FnStepsJoin'. -/
def fnStepsJoinCard : Claim7 := { stood := { row := fnStepsJoinRow, standIns := [], harness := (true, "423c2c7d68afba0ffc7a0a6a7d6deb34709c7d0ca110e35cb9337ed3a02ea184"), looks := false }, kinds := [], alts := [], laidByText := true, laidKinds := [.data, .data, .data], laidTests := true, laidLooks := .later }
def FnStepsJoinCardSaid : Prop := Claim7.holds Tryz.pinned (.plain (OpenSpec.ofChange fnStepsJoinSpec)) fnStepsJoinCard

/-- THE TIED CARD OF 'laws.FnStartExpansion'. -/
def fnStartExpansionCard : Claim7 := { stood := { row := fnStartExpansionRow, standIns := [], harness := (true, "423c2c7d68afba0ffc7a0a6a7d6deb34709c7d0ca110e35cb9337ed3a02ea184"), looks := false }, kinds := [], alts := [], laidByText := true, laidKinds := [.widerDeep], laidTests := true, laidLooks := .later }
def FnStartExpansionCardSaid : Prop := Claim7.holds Tryz.pinned (.plain (OpenSpec.ofChange fnStartExpansionSpec)) fnStartExpansionCard

/-- THE SECOND FORM's CARD OF 'laws.FnStepsText'. -/
def fnStepsTextUptoCard : Claim7 := { stood := { row := fnStepsTextUptoRow, standIns := [], harness := (true, "423c2c7d68afba0ffc7a0a6a7d6deb34709c7d0ca110e35cb9337ed3a02ea184"), looks := false }, kinds := [], alts := [], laidByText := true, laidKinds := [.data, .data, .data], laidTests := true, laidLooks := .later }
def FnStepsTextUptoCardSaid : Prop := Claim7.holds Tryz.pinned (.plain (OpenSpec.upto fnStepsTextSpec)) fnStepsTextUptoCard

/-- THE SECOND FORM's CARD OF 'laws.FnStepsJoin'. -/
def fnStepsJoinUptoCard : Claim7 := { stood := { row := fnStepsJoinUptoRow, standIns := [], harness := (true, "423c2c7d68afba0ffc7a0a6a7d6deb34709c7d0ca110e35cb9337ed3a02ea184"), looks := false }, kinds := [], alts := [], laidByText := true, laidKinds := [.data, .data, .data], laidTests := true, laidLooks := .later }
def FnStepsJoinUptoCardSaid : Prop := Claim7.holds Tryz.pinned (.plain (OpenSpec.upto fnStepsJoinSpec)) fnStepsJoinUptoCard

/-- THE SECOND FORM's CARD OF 'laws.FnStartExpansion'. -/
def fnStartExpansionUptoCard : Claim7 := { stood := { row := fnStartExpansionUptoRow, standIns := [], harness := (true, "423c2c7d68afba0ffc7a0a6a7d6deb34709c7d0ca110e35cb9337ed3a02ea184"), looks := false }, kinds := [], alts := [], laidByText := true, laidKinds := [.widerDeep], laidTests := true, laidLooks := .later }
def FnStartExpansionUptoCardSaid : Prop := Claim7.holds Tryz.pinned (.plain (OpenSpec.upto fnStartExpansionSpec)) fnStartExpansionUptoCard
end Rows
end Go.Proofs.YtiiamkelehfnoaaGreatDoor
