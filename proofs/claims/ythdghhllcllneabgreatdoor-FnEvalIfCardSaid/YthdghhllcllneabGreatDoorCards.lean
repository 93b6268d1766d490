/-
  DERIVED. GIVEN WITH THE SEED: THE CARDS: each row of YthdghhllcllneabGreatDoorRows.lean that lists a variable, with what it lists TIED to the program's text (the seventh form; the later family's looks); each row that meets fmt, with fmt's text TOLD by the authors' own Lean function (tested against real Go, not proved from fmt's source: count such statements apart). THE CARD IS WHAT COUNTS. Prove the row's statement (the work); the ties are given (YthdghhllcllneabGreatDoorTie.lean); close each card by the builder's one call (the guide's Derived/Test/ToyasCard.lean, 'card_holds'). Laid BY PROGRAM, IN A SANDBOX (cutbox-door.mjs). By AI agents, Wed Nov 11 2026. No macro, syntax, notation, axiom, sorry.
-/
import Derived.Test.YthdghhllcllneabGreatDoorRows
import GoSem.ClaimSeven
namespace Go.Proofs.YthdghhllcllneabGreatDoor
namespace Rows

/-- THE TIED CARD OF 'laws.FnEvalIf'. -/
def fnEvalIfCard : Claim7 := { stood := { row := fnEvalIfRow, standIns := [], harness := (true, "daf132c624264ee97340ba860feaf8d1492f3a0c5640391e26fe05a92de9538c"), looks := false }, kinds := [], alts := [], laidByText := true, laidKinds := [.data, .data, .data, .widerDeep], laidTests := true, laidLooks := .later }
def FnEvalIfCardSaid : Prop := Claim7.holds Tryz.pinned (.plain (OpenSpec.ofChange fnEvalIfSpec)) fnEvalIfCard

/-- THE TIED CARD OF 'laws.FnEvalCore'. -/
def fnEvalCoreCard : Claim7 := { stood := { row := fnEvalCoreRow, standIns := [], harness := (true, "daf132c624264ee97340ba860feaf8d1492f3a0c5640391e26fe05a92de9538c"), looks := false }, kinds := [], alts := [], laidByText := true, laidKinds := [.data, .data, .data, .widerDeep], laidTests := true, laidLooks := .later }
def FnEvalCoreCardSaid : Prop := Claim7.holds Tryz.pinned (.plain (OpenSpec.ofChange fnEvalCoreSpec)) fnEvalCoreCard

/-- THE SECOND FORM's CARD OF 'laws.FnEvalIf'. -/
def fnEvalIfUptoCard : Claim7 := { stood := { row := fnEvalIfUptoRow, standIns := [], harness := (true, "daf132c624264ee97340ba860feaf8d1492f3a0c5640391e26fe05a92de9538c"), looks := false }, kinds := [], alts := [], laidByText := true, laidKinds := [.data, .data, .data, .widerDeep], laidTests := true, laidLooks := .later }
def FnEvalIfUptoCardSaid : Prop := Claim7.holds Tryz.pinned (.plain (OpenSpec.upto fnEvalIfSpec)) fnEvalIfUptoCard

/-- THE SECOND FORM's CARD OF 'laws.FnEvalCore'. -/
def fnEvalCoreUptoCard : Claim7 := { stood := { row := fnEvalCoreUptoRow, standIns := [], harness := (true, "daf132c624264ee97340ba860feaf8d1492f3a0c5640391e26fe05a92de9538c"), looks := false }, kinds := [], alts := [], laidByText := true, laidKinds := [.data, .data, .data, .widerDeep], laidTests := true, laidLooks := .later }
def FnEvalCoreUptoCardSaid : Prop := Claim7.holds Tryz.pinned (.plain (OpenSpec.upto fnEvalCoreSpec)) fnEvalCoreUptoCard
end Rows
end Go.Proofs.YthdghhllcllneabGreatDoor
