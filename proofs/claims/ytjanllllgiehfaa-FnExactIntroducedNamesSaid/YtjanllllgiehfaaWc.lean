/- slices.Clone's walk at []int: its result is ours. -/
import Derived.Test.YtjanllllgiehfaaLv
import Derived.Test.YtjanllllgiehfaaxiD
import Derived.Test.YtjanllllgiehfaaxiW0
import Derived.Test.YtjanllllgiehfaaWy
set_option maxRecDepth 100000
set_option maxHeartbeats 2000000
set_option linter.unusedSimpArgs false
set_option linter.unusedVariables false
open Go Go.Proofs Go.Proofs.Shadow
namespace Go.Proofs.SA
theorem slices_Clone_live : ∀ (a0 : List Int) r, slices_Clone_int_int a0 = some r → ∀ (σ : Sto), Pre σ [] [] → Ctr Try.prog 48 [.sl (false) (rws cI a0)] σ (fun r' σ' => ∃ (τ' : Sto) (w0 : AV), r' = w0 ∧ Tau (strip σ []) [] τ' ∧ Fx τ' σ' [] [⟨w0, 3, 1, rws cI r⟩]) := by
  intro a0 r H σ hP
  unfold slices_Clone_int_int at H
  refine ctr_of mixed Try.func48 rfl (by kernel_rfl) (rs := [.tmp 2]) rfl (by kernel_rfl) ?_
  obtain ⟨hF, hX⟩ := hP.start
  generalize strip σ [] = τ0 at hF hX ⊢
  have q := dum
  have tT := dum
  have hF := hF.lit 3 1 (rws cI []) rfl
  cases a0 with
  | nil =>
    obtain ⟨rfl, _⟩ := lcat_eq H
    refine go ?_
    refine aCnd_ub ?_ ?_
    · have hF := hF.nil 3 1
      refine go ?_
      exact rg [.nilsl] ⟨_, _, rfl, hX, hF.pick [] [0] (by decide) (by decide)⟩
    · refine go ?_
      refine fx_app hF 0 (g := cI) (xs := []) (ys := []) rfl (by decide) (by decide) (RdL.of (c := false) (fun _ => rfl) (by first | rfl | simp only [rws_cons, rws_nil, cI, cU, cS, cL])) H fun v1 σ1 hF => ?_
      refine go ?_
      exact rg [v1] ⟨_, _, rfl, hX, hF.pick [] [0] (by decide) (by decide)⟩
  | cons x xs =>
    refine go ?_
    refine fx_app hF 0 (g := cI) (xs := []) (ys := x :: xs) rfl (by decide) (by decide) (RdL.of (c := false) (fun _ => rfl) (by first | rfl | simp only [rws_cons, rws_nil, cI, cU, cS, cL])) H fun v1 σ1 hF => ?_
    refine go ?_
    exact rg [v1] ⟨_, _, rfl, hX, hF.pick [] [0] (by decide) (by decide)⟩
end Go.Proofs.SA

