/- The frame of the exact laws, over forms: sizes, copies, comparisons. -/
import Derived.Test.YtmacemmkocjkaaaDoorFnL
import Derived.Test.YtmacemmkocjkaaaDoorFmE
set_option linter.unusedVariables false
set_option linter.unusedSimpArgs false
set_option maxRecDepth 100000
open Go Go.Proofs Go.Proofs.Shadow
namespace Go.Proofs.Shadow
theorem Fm.sz_bounds (f : Fm) : f.name.size ≤ f.sz ∧ f.sc.length ≤ f.sz ∧ f.kids.length ≤ f.sz := by rw [Fm.sz_eq]; omega
end Go.Proofs.Shadow
namespace Go.Proofs.SA
end Go.Proofs.SA
