/- The law FnExactIntroducedNames, told of plain functions. -/
import Derived.Test.YtjanllllgiehfaaMk
set_option linter.unusedVariables false
set_option linter.unusedSimpArgs false
set_option maxRecDepth 100000
open Go Go.Proofs Go.Proofs.Shadow
namespace Go.Proofs.SA
/-- What the law's ways come to, told of plain functions. -/
structure RIok (a : Stp) : Prop where
  sz : ∃ left, laws_szStep a 1048576 = some left ∧ (¬ left < 0 → ∃ w r s t, laws_toStep a = some a ∧ spec_IntroducedNames a = some w ∧ impl_IntroducedNames a = some w ∧ laws_eqFormS w w = some true ∧ laws_eqStep a a = some true ∧ markF a.use 1 = some r ∧ markF a.res r.2 = some s ∧ 0 ≤ s.2 ∧ markL w 1 = some t ∧ laws_heldFormS t.1 1 = some t.2 ∧ 0 ≤ t.2 ∧ a.use.sz ≤ 100000000 ∧ a.use.nodes ≤ 100000000 ∧ a.res.sz ≤ 100000000 ∧ a.res.nodes ≤ 100000000 ∧ sumL Fm.nodes w ≤ 900000000 ∧ sumL Fm.sz w ≤ 900000000)
end Go.Proofs.SA

