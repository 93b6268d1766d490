/- The draws of the rename laws yield something. -/
import Derived.Test.YtmhcigdcappdgaaPe
set_option linter.unusedVariables false
set_option linter.unusedSimpArgs false
set_option maxRecDepth 100000
open Go Go.Proofs Go.Proofs.Shadow
namespace Go.Proofs.SA
theorem drawRename_tot {l : List Int} (h : ∀ x ∈ l, 0 ≤ x ∧ x < 256) : Tot (spec_DrawRenameName l) fun r => r.1.sz ≤ 1000100 ∧ r.2.1.size ≤ 100 ∧ r.2.2.size ≤ 100 := by
  unfold spec_DrawRenameName
  refine Tot.bind (case9_tot h) fun f hf => ?_
  refine Tot.bind (open_tot h) fun c hc => ?_
  refine Tot.bind (of_tot hc (by omega) (by simp)) fun x hx => ?_
  refine Tot.bind (of_tot hx.2 (by omega) (by simp)) fun y hy => Tot.pure ⟨hf, ?_, ?_⟩
  · have h1 := hx.1; show x.1.size ≤ 100; revert h1; generalize x.1 = z; revert z; decide
  · have h1 := hy.1; show y.1.size ≤ 100; revert h1; generalize y.1 = z; revert z; decide
end Go.Proofs.SA
