/-
  DERIVED. GIVEN WITH THE SEED: THE CARDS: each row of YthdghhllcllneaaGreatDoorRows.lean that lists a variable, with what it lists TIED to the program's text (the seventh form; the later family's looks); each row that meets fmt, with fmt's text TOLD by the authors' own Lean function (tested against real Go, not proved from fmt's source: count such statements apart). THE CARD IS WHAT COUNTS. Prove the row's statement (the work); the ties are given (YthdghhllcllneaaGreatDoorTie.lean); close each card by the builder's one call (the guide's Derived/Test/ToyasCard.lean, 'card_holds'). Laid BY PROGRAM, IN A SANDBOX (cutbox-door.mjs). By AI agents, Wed Nov 11 2026. No macro, syntax, notation, axiom, sorry.
-/
import Derived.Test.YthdghhllcllneaaGreatDoorRows
import GoSem.ClaimSeven
namespace Go.Proofs.YthdghhllcllneaaGreatDoor
namespace Rows

/-- THE TIED CARD OF 'laws.FnEvalQuote'. -/
def fnEvalQuoteCard : Claim7 := { stood := { row := fnEvalQuoteRow, standIns := [], harness := (true, "02d19772fd0d586253e4d51e133b5ed99c31dcb745055deca724cd1ab88338b7"), looks := false }, kinds := [], alts := [], laidByText := true, laidKinds := [.data, .data, .data, .widerDeep], laidTests := true, laidLooks := .later }
def FnEvalQuoteCardSaid : Prop := Claim7.holds Tryz.pinned (.plain (OpenSpec.ofChange fnEvalQuoteSpec)) fnEvalQuoteCard

/-- THE TIED CARD OF 'laws.FnEvalFun'. -/
def fnEvalFunCard : Claim7 := { stood := { row := fnEvalFunRow, standIns := [], harness := (true, "02d19772fd0d586253e4d51e133b5ed99c31dcb745055deca724cd1ab88338b7"), looks := false }, kinds := [], alts := [], laidByText := true, laidKinds := [.data, .data, .data, .widerDeep], laidTests := true, laidLooks := .later }
def FnEvalFunCardSaid : Prop := Claim7.holds Tryz.pinned (.plain (OpenSpec.ofChange fnEvalFunSpec)) fnEvalFunCard

/-- THE TIED CARD OF 'laws.FnEvalFuel'. -/
def fnEvalFuelCard : Claim7 := { stood := { row := fnEvalFuelRow, standIns := [], harness := (true, "02d19772fd0d586253e4d51e133b5ed99c31dcb745055deca724cd1ab88338b7"), looks := false }, kinds := [], alts := [], laidByText := true, laidKinds := [.data, .data, .data, .widerDeep], laidTests := true, laidLooks := .later }
def FnEvalFuelCardSaid : Prop := Claim7.holds Tryz.pinned (.plain (OpenSpec.ofChange fnEvalFuelSpec)) fnEvalFuelCard

/-- THE TIED CARD OF 'laws.FnEvalHead'. -/
def fnEvalHeadCard : Claim7 := { stood := { row := fnEvalHeadRow, standIns := [], harness := (true, "02d19772fd0d586253e4d51e133b5ed99c31dcb745055deca724cd1ab88338b7"), looks := false }, kinds := [], alts := [], laidByText := true, laidKinds := [.data, .data, .data, .widerDeep], laidTests := true, laidLooks := .later }
def FnEvalHeadCardSaid : Prop := Claim7.holds Tryz.pinned (.plain (OpenSpec.ofChange fnEvalHeadSpec)) fnEvalHeadCard

/-- THE TIED CARD OF 'laws.FnEvalList'. -/
def fnEvalListCard : Claim7 := { stood := { row := fnEvalListRow, standIns := [], harness := (true, "02d19772fd0d586253e4d51e133b5ed99c31dcb745055deca724cd1ab88338b7"), looks := false }, kinds := [], alts := [], laidByText := true, laidKinds := [.data, .data, .data, .widerDeep], laidTests := true, laidLooks := .later }
def FnEvalListCardSaid : Prop := Claim7.holds Tryz.pinned (.plain (OpenSpec.ofChange fnEvalListSpec)) fnEvalListCard

/-- THE TIED CARD OF 'laws.FnEvalUnused'. -/
def fnEvalUnusedCard : Claim7 := { stood := { row := fnEvalUnusedRow, standIns := [], harness := (true, "02d19772fd0d586253e4d51e133b5ed99c31dcb745055deca724cd1ab88338b7"), looks := false }, kinds := [], alts := [], laidByText := true, laidKinds := [.data, .data, .data, .widerDeep], laidTests := true, laidLooks := .later }
def FnEvalUnusedCardSaid : Prop := Claim7.holds Tryz.pinned (.plain (OpenSpec.ofChange fnEvalUnusedSpec)) fnEvalUnusedCard

/-- THE SECOND FORM's CARD OF 'laws.FnEvalQuote'. -/
def fnEvalQuoteUptoCard : Claim7 := { stood := { row := fnEvalQuoteUptoRow, standIns := [], harness := (true, "02d19772fd0d586253e4d51e133b5ed99c31dcb745055deca724cd1ab88338b7"), looks := false }, kinds := [], alts := [], laidByText := true, laidKinds := [.data, .data, .data, .widerDeep], laidTests := true, laidLooks := .later }
def FnEvalQuoteUptoCardSaid : Prop := Claim7.holds Tryz.pinned (.plain (OpenSpec.upto fnEvalQuoteSpec)) fnEvalQuoteUptoCard

/-- THE SECOND FORM's CARD OF 'laws.FnEvalFun'. -/
def fnEvalFunUptoCard : Claim7 := { stood := { row := fnEvalFunUptoRow, standIns := [], harness := (true, "02d19772fd0d586253e4d51e133b5ed99c31dcb745055deca724cd1ab88338b7"), looks := false }, kinds := [], alts := [], laidByText := true, laidKinds := [.data, .data, .data, .widerDeep], laidTests := true, laidLooks := .later }
def FnEvalFunUptoCardSaid : Prop := Claim7.holds Tryz.pinned (.plain (OpenSpec.upto fnEvalFunSpec)) fnEvalFunUptoCard

/-- THE SECOND FORM's CARD OF 'laws.FnEvalFuel'. -/
def fnEvalFuelUptoCard : Claim7 := { stood := { row := fnEvalFuelUptoRow, standIns := [], harness := (true, "02d19772fd0d586253e4d51e133b5ed99c31dcb745055deca724cd1ab88338b7"), looks := false }, kinds := [], alts := [], laidByText := true, laidKinds := [.data, .data, .data, .widerDeep], laidTests := true, laidLooks := .later }
def FnEvalFuelUptoCardSaid : Prop := Claim7.holds Tryz.pinned (.plain (OpenSpec.upto fnEvalFuelSpec)) fnEvalFuelUptoCard

/-- THE SECOND FORM's CARD OF 'laws.FnEvalHead'. -/
def fnEvalHeadUptoCard : Claim7 := { stood := { row := fnEvalHeadUptoRow, standIns := [], harness := (true, "02d19772fd0d586253e4d51e133b5ed99c31dcb745055deca724cd1ab88338b7"), looks := false }, kinds := [], alts := [], laidByText := true, laidKinds := [.data, .data, .data, .widerDeep], laidTests := true, laidLooks := .later }
def FnEvalHeadUptoCardSaid : Prop := Claim7.holds Tryz.pinned (.plain (OpenSpec.upto fnEvalHeadSpec)) fnEvalHeadUptoCard

/-- THE SECOND FORM's CARD OF 'laws.FnEvalList'. -/
def fnEvalListUptoCard : Claim7 := { stood := { row := fnEvalListUptoRow, standIns := [], harness := (true, "02d19772fd0d586253e4d51e133b5ed99c31dcb745055deca724cd1ab88338b7"), looks := false }, kinds := [], alts := [], laidByText := true, laidKinds := [.data, .data, .data, .widerDeep], laidTests := true, laidLooks := .later }
def FnEvalListUptoCardSaid : Prop := Claim7.holds Tryz.pinned (.plain (OpenSpec.upto fnEvalListSpec)) fnEvalListUptoCard

/-- THE SECOND FORM's CARD OF 'laws.FnEvalUnused'. -/
def fnEvalUnusedUptoCard : Claim7 := { stood := { row := fnEvalUnusedUptoRow, standIns := [], harness := (true, "02d19772fd0d586253e4d51e133b5ed99c31dcb745055deca724cd1ab88338b7"), looks := false }, kinds := [], alts := [], laidByText := true, laidKinds := [.data, .data, .data, .widerDeep], laidTests := true, laidLooks := .later }
def FnEvalUnusedUptoCardSaid : Prop := Claim7.holds Tryz.pinned (.plain (OpenSpec.upto fnEvalUnusedSpec)) fnEvalUnusedUptoCard
end Rows
end Go.Proofs.YthdghhllcllneaaGreatDoor
