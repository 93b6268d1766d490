/-
  DERIVED. GIVEN WITH THE SEED: THE CARDS: each row of YtcoeidfiajaahaaGreatDoorRows.lean that lists a variable, with what it lists TIED to the program's text (the seventh form; the later family's looks); each row that meets fmt, with fmt's text TOLD by the authors' own Lean function (tested against real Go, not proved from fmt's source: count such statements apart). THE CARD IS WHAT COUNTS. Prove the row's statement (the work); the ties are given (YtcoeidfiajaahaaGreatDoorTie.lean); close each card by the builder's one call (the guide's Derived/Test/ToyasCard.lean, 'card_holds'). Laid BY PROGRAM, IN A SANDBOX (cutbox-door.mjs). By AI agents, Wed Nov 11 2026. No macro, syntax, notation, axiom, sorry.
-/
import Derived.Test.YtcoeidfiajaahaaGreatDoorRows
import GoSem.ClaimSeven
namespace Go.Proofs.YtcoeidfiajaahaaGreatDoor
namespace Rows

/-- THE TIED CARD OF 'laws.FnEvalQuote'. -/
def fnEvalQuoteCard : Claim7 := { stood := { row := fnEvalQuoteRow, standIns := [], harness := (true, "fa057f95424cb042e65f7f54436fdc79576032aeddf680375e7ff57fcf0b42a4"), looks := true }, kinds := [], alts := [], laidByText := true, laidKinds := [.data, .data, .data, .widerDeep], laidTests := true, laidLooks := .later }
def FnEvalQuoteCardSaid : Prop := Claim7.holds Tryz.pinned (.plain (OpenSpec.ofChange fnEvalQuoteSpec)) fnEvalQuoteCard

/-- THE TIED CARD OF 'laws.FnStepsJoin'. -/
def fnStepsJoinCard : Claim7 := { stood := { row := fnStepsJoinRow, standIns := [], harness := (true, "fa057f95424cb042e65f7f54436fdc79576032aeddf680375e7ff57fcf0b42a4"), looks := true }, kinds := [], alts := [], laidByText := true, laidKinds := [.data, .data, .data], laidTests := true, laidLooks := .later }
def FnStepsJoinCardSaid : Prop := Claim7.holds Tryz.pinned (.plain (OpenSpec.ofChange fnStepsJoinSpec)) fnStepsJoinCard

/-- THE TIED CARD OF 'laws.FnStepsText'. -/
def fnStepsTextCard : Claim7 := { stood := { row := fnStepsTextRow, standIns := [], harness := (true, "fa057f95424cb042e65f7f54436fdc79576032aeddf680375e7ff57fcf0b42a4"), looks := true }, kinds := [], alts := [], laidByText := true, laidKinds := [.data, .data, .data], laidTests := true, laidLooks := .later }
def FnStepsTextCardSaid : Prop := Claim7.holds Tryz.pinned (.plain (OpenSpec.ofChange fnStepsTextSpec)) fnStepsTextCard

/-- THE TIED CARD OF 'laws.FnValueSame'. -/
def fnValueSameCard : Claim7 := { stood := { row := fnValueSameRow, standIns := [], harness := (true, "fa057f95424cb042e65f7f54436fdc79576032aeddf680375e7ff57fcf0b42a4"), looks := true }, kinds := [], alts := [], laidByText := true, laidKinds := [.data, .data, .data], laidTests := true, laidLooks := .later }
def FnValueSameCardSaid : Prop := Claim7.holds Tryz.pinned (.plain (OpenSpec.ofChange fnValueSameSpec)) fnValueSameCard

/-- THE TIED CARD OF 'laws.FnMatchVar'. -/
def fnMatchVarCard : Claim7 := { stood := { row := fnMatchVarRow, standIns := [], harness := (true, "fa057f95424cb042e65f7f54436fdc79576032aeddf680375e7ff57fcf0b42a4"), looks := true }, kinds := [], alts := [], laidByText := true, laidKinds := [.data, .data, .data, .data, .sentinel, .sentinel, .pinned], laidTests := true, laidLooks := .later }
def FnMatchVarCardSaid : Prop := Claim7.holds Tryz.pinned (.plain (OpenSpec.ofChange fnMatchVarSpec)) fnMatchVarCard

/-- THE SECOND FORM's CARD OF 'laws.FnEvalQuote'. -/
def fnEvalQuoteUptoCard : Claim7 := { stood := { row := fnEvalQuoteUptoRow, standIns := [], harness := (true, "fa057f95424cb042e65f7f54436fdc79576032aeddf680375e7ff57fcf0b42a4"), looks := true }, kinds := [], alts := [], laidByText := true, laidKinds := [.data, .data, .data, .widerDeep], laidTests := true, laidLooks := .later }
def FnEvalQuoteUptoCardSaid : Prop := Claim7.holds Tryz.pinned (.plain (OpenSpec.upto fnEvalQuoteSpec)) fnEvalQuoteUptoCard

/-- THE SECOND FORM's CARD OF 'laws.FnStepsJoin'. -/
def fnStepsJoinUptoCard : Claim7 := { stood := { row := fnStepsJoinUptoRow, standIns := [], harness := (true, "fa057f95424cb042e65f7f54436fdc79576032aeddf680375e7ff57fcf0b42a4"), looks := true }, kinds := [], alts := [], laidByText := true, laidKinds := [.data, .data, .data], laidTests := true, laidLooks := .later }
def FnStepsJoinUptoCardSaid : Prop := Claim7.holds Tryz.pinned (.plain (OpenSpec.upto fnStepsJoinSpec)) fnStepsJoinUptoCard

/-- THE SECOND FORM's CARD OF 'laws.FnStepsText'. -/
def fnStepsTextUptoCard : Claim7 := { stood := { row := fnStepsTextUptoRow, standIns := [], harness := (true, "fa057f95424cb042e65f7f54436fdc79576032aeddf680375e7ff57fcf0b42a4"), looks := true }, kinds := [], alts := [], laidByText := true, laidKinds := [.data, .data, .data], laidTests := true, laidLooks := .later }
def FnStepsTextUptoCardSaid : Prop := Claim7.holds Tryz.pinned (.plain (OpenSpec.upto fnStepsTextSpec)) fnStepsTextUptoCard

/-- THE SECOND FORM's CARD OF 'laws.FnValueSame'. -/
def fnValueSameUptoCard : Claim7 := { stood := { row := fnValueSameUptoRow, standIns := [], harness := (true, "fa057f95424cb042e65f7f54436fdc79576032aeddf680375e7ff57fcf0b42a4"), looks := true }, kinds := [], alts := [], laidByText := true, laidKinds := [.data, .data, .data], laidTests := true, laidLooks := .later }
def FnValueSameUptoCardSaid : Prop := Claim7.holds Tryz.pinned (.plain (OpenSpec.upto fnValueSameSpec)) fnValueSameUptoCard

/-- THE SECOND FORM's CARD OF 'laws.FnMatchVar'. -/
def fnMatchVarUptoCard : Claim7 := { stood := { row := fnMatchVarUptoRow, standIns := [], harness := (true, "fa057f95424cb042e65f7f54436fdc79576032aeddf680375e7ff57fcf0b42a4"), looks := true }, kinds := [], alts := [], laidByText := true, laidKinds := [.data, .data, .data, .data, .sentinel, .sentinel, .pinned], laidTests := true, laidLooks := .later }
def FnMatchVarUptoCardSaid : Prop := Claim7.holds Tryz.pinned (.plain (OpenSpec.upto fnMatchVarSpec)) fnMatchVarUptoCard
end Rows
end Go.Proofs.YtcoeidfiajaahaaGreatDoor
