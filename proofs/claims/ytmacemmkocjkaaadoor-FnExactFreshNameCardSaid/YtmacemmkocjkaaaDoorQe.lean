/- The exact law of FreshName yields true. -/
import Derived.Test.YtmacemmkocjkaaaDoorQd
set_option linter.unusedVariables false
set_option maxRecDepth 100000
open Go Go.Proofs Go.Proofs.Shadow
namespace Go.Proofs.SA
theorem exactFresh_true (f : Fm) (hok : f.Ok) : laws_FnExactFreshName f = some true := by
  rw [laws_FnExactFreshName, szForm_eq f hok _ (by omega) (by omega), bsome]
  by_cases h : (f.sz : Int) ≤ 1048576
  · have hf : f.Fit := Fm.fit_of_sz (by omega)
    rw [if_pos h, if_neg (by omega)]
    simp only [toForm_eq f hf, bsome, specFresh_eq f (by omega), implFresh_eq f (by omega), eqForm_self f hf, if_true, Bool.not_true, Bool.false_eq_true, if_false]
    rfl
  · rw [if_neg h, if_pos (by omega)]; rfl
end Go.Proofs.SA
