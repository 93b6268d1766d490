/-
  DERIVED. GIVEN WITH THE SEED: THE CARDS: each row of YtmacemmkocjkaaaDoorRows.lean that lists a variable, with what it lists TIED to the program's text (the seventh form; the later family's looks); each row that meets fmt, with fmt's text TOLD by the authors' own Lean function (tested against real Go, not proved from fmt's source: count such statements apart). THE CARD IS WHAT COUNTS. Prove the row's statement (the work); the ties are given (YtmacemmkocjkaaaDoorTie.lean); close each card by the builder's one call (the guide's Derived/Test/ToyasCard.lean, 'card_holds'). Laid BY PROGRAM, IN A SANDBOX (cutbox-door.mjs). By AI agents, Wed Nov 11 2026. No macro, syntax, notation, axiom, sorry.
-/
import Derived.Test.YtmacemmkocjkaaaDoorRows
import GoSem.ClaimSeven
namespace Go.Proofs.YtmacemmkocjkaaaDoor
namespace Rows

/-- THE TIED CARD OF 'laws.FnExactFreshName'. -/
def fnExactFreshNameCard : Claim7 := { stood := { row := fnExactFreshNameRow, standIns := [], harness := (true, "93ecb86dcd81732e0d352b7d3fe9a26dd6b1c8e84a2c0ba7879f5c48362b4357"), looks := false }, kinds := [], alts := [], laidByText := true, laidKinds := [.data, .data, .data], laidTests := true, laidLooks := .later }
def FnExactFreshNameCardSaid : Prop := Claim7.holds Tryd.pinned (.plain (OpenSpec.ofChange fnExactFreshNameSpec)) fnExactFreshNameCard

/-- THE TIED CARD OF 'laws.FnExactFormatValue'. -/
def fnExactFormatValueCard : Claim7 := { stood := { row := fnExactFormatValueRow, standIns := [], harness := (true, "93ecb86dcd81732e0d352b7d3fe9a26dd6b1c8e84a2c0ba7879f5c48362b4357"), looks := false }, kinds := [], alts := [], laidByText := true, laidKinds := [.data, .data, .data], laidTests := true, laidLooks := .later }
def FnExactFormatValueCardSaid : Prop := Claim7.holds Tryd.pinned (.plain (OpenSpec.ofChange fnExactFormatValueSpec)) fnExactFormatValueCard

/-- THE TIED CARD OF 'laws.FnExactStepsText'. -/
def fnExactStepsTextCard : Claim7 := { stood := { row := fnExactStepsTextRow, standIns := [], harness := (true, "93ecb86dcd81732e0d352b7d3fe9a26dd6b1c8e84a2c0ba7879f5c48362b4357"), looks := false }, kinds := [], alts := [], laidByText := true, laidKinds := [.data, .data, .data], laidTests := true, laidLooks := .later }
def FnExactStepsTextCardSaid : Prop := Claim7.holds Tryd.pinned (.plain (OpenSpec.ofChange fnExactStepsTextSpec)) fnExactStepsTextCard

/-- THE TIED CARD OF 'laws.FnExactValueSame'. -/
def fnExactValueSameCard : Claim7 := { stood := { row := fnExactValueSameRow, standIns := [], harness := (true, "93ecb86dcd81732e0d352b7d3fe9a26dd6b1c8e84a2c0ba7879f5c48362b4357"), looks := false }, kinds := [], alts := [], laidByText := true, laidKinds := [.data, .data, .data], laidTests := true, laidLooks := .later }
def FnExactValueSameCardSaid : Prop := Claim7.holds Tryd.pinned (.plain (OpenSpec.ofChange fnExactValueSameSpec)) fnExactValueSameCard

/-- THE TIED CARD OF 'laws.FnFreshName'. -/
def fnFreshNameCard : Claim7 := { stood := { row := fnFreshNameRow, standIns := [], harness := (true, "93ecb86dcd81732e0d352b7d3fe9a26dd6b1c8e84a2c0ba7879f5c48362b4357"), looks := false }, kinds := [], alts := [], laidByText := true, laidKinds := [.data, .data, .data], laidTests := true, laidLooks := .later }
def FnFreshNameCardSaid : Prop := Claim7.holds Tryd.pinned (.plain (OpenSpec.ofChange fnFreshNameSpec)) fnFreshNameCard

/-- THE SECOND FORM's CARD OF 'laws.FnExactFreshName'. -/
def fnExactFreshNameUptoCard : Claim7 := { stood := { row := fnExactFreshNameUptoRow, standIns := [], harness := (true, "93ecb86dcd81732e0d352b7d3fe9a26dd6b1c8e84a2c0ba7879f5c48362b4357"), looks := false }, kinds := [], alts := [], laidByText := true, laidKinds := [.data, .data, .data], laidTests := true, laidLooks := .later }
def FnExactFreshNameUptoCardSaid : Prop := Claim7.holds Tryd.pinned (.plain (OpenSpec.upto fnExactFreshNameSpec)) fnExactFreshNameUptoCard

/-- THE SECOND FORM's CARD OF 'laws.FnExactFormatValue'. -/
def fnExactFormatValueUptoCard : Claim7 := { stood := { row := fnExactFormatValueUptoRow, standIns := [], harness := (true, "93ecb86dcd81732e0d352b7d3fe9a26dd6b1c8e84a2c0ba7879f5c48362b4357"), looks := false }, kinds := [], alts := [], laidByText := true, laidKinds := [.data, .data, .data], laidTests := true, laidLooks := .later }
def FnExactFormatValueUptoCardSaid : Prop := Claim7.holds Tryd.pinned (.plain (OpenSpec.upto fnExactFormatValueSpec)) fnExactFormatValueUptoCard

/-- THE SECOND FORM's CARD OF 'laws.FnExactStepsText'. -/
def fnExactStepsTextUptoCard : Claim7 := { stood := { row := fnExactStepsTextUptoRow, standIns := [], harness := (true, "93ecb86dcd81732e0d352b7d3fe9a26dd6b1c8e84a2c0ba7879f5c48362b4357"), looks := false }, kinds := [], alts := [], laidByText := true, laidKinds := [.data, .data, .data], laidTests := true, laidLooks := .later }
def FnExactStepsTextUptoCardSaid : Prop := Claim7.holds Tryd.pinned (.plain (OpenSpec.upto fnExactStepsTextSpec)) fnExactStepsTextUptoCard

/-- THE SECOND FORM's CARD OF 'laws.FnExactValueSame'. -/
def fnExactValueSameUptoCard : Claim7 := { stood := { row := fnExactValueSameUptoRow, standIns := [], harness := (true, "93ecb86dcd81732e0d352b7d3fe9a26dd6b1c8e84a2c0ba7879f5c48362b4357"), looks := false }, kinds := [], alts := [], laidByText := true, laidKinds := [.data, .data, .data], laidTests := true, laidLooks := .later }
def FnExactValueSameUptoCardSaid : Prop := Claim7.holds Tryd.pinned (.plain (OpenSpec.upto fnExactValueSameSpec)) fnExactValueSameUptoCard

/-- THE SECOND FORM's CARD OF 'laws.FnFreshName'. -/
def fnFreshNameUptoCard : Claim7 := { stood := { row := fnFreshNameUptoRow, standIns := [], harness := (true, "93ecb86dcd81732e0d352b7d3fe9a26dd6b1c8e84a2c0ba7879f5c48362b4357"), looks := false }, kinds := [], alts := [], laidByText := true, laidKinds := [.data, .data, .data], laidTests := true, laidLooks := .later }
def FnFreshNameUptoCardSaid : Prop := Claim7.holds Tryd.pinned (.plain (OpenSpec.upto fnFreshNameSpec)) fnFreshNameUptoCard
end Rows
end Go.Proofs.YtmacemmkocjkaaaDoor
