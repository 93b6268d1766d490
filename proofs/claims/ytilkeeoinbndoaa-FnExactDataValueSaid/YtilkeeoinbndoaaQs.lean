/- Both sides' scopes: the same answers. -/
import Derived.Test.YtilkeeoinbndoaaQn
set_option linter.unusedVariables false
set_option linter.unusedSimpArgs false
set_option maxRecDepth 100000
open Go Go.Proofs Go.Proofs.Shadow
namespace Go.Proofs.SA
/-! ### scopes -/
def SP (l : List Int) (j : Nat) : Prop := 1 ≤ l.getD j 0 ∧ l.getD j 0 ≤ 99 ∧ (0 < j → l.getD (j - 1) 0 < l.getD j 0)
def SV (l : List Int) : Prop := l.length ≤ 24 ∧ ∀ j, j < l.length → SP l j
theorem idx_getD {l : List Int} {i : Nat} (h : i < l.length) : idx l (i : Int) = some (l.getD i 0) := by
  rw [idx_nat l i h]; simp [h]
theorem sv_impl_l0 {l : List Int} (hl : l.length < 1099511627776) : ∀ (n : Nat) (i : Nat), i + n = l.length → Tot (impl_scopesOk_l0 l i) fun o => match o with | .inl r => r = false ∧ ∃ j, j < l.length ∧ ¬ SP l j | .inr _ => ∀ j, i ≤ j → j < l.length → SP l j := by
  intro n
  induction n with
  | zero =>
    intro i hi
    rw [impl_scopesOk_l0, if_neg (by omega)]
    exact Tot.pure (by intro j h1 h2; omega)
  | succ n ih =>
    intro i hi
    rw [impl_scopesOk_l0, if_pos (by omega), idx_getD (by omega), bsm]
    unfold impl_within
    simp only [psm, bsm]
    have e : Tot (if (!(decide (l.getD i 0 ≥ 1) && decide (l.getD i 0 ≤ 99))) = true then some true else (if (i : Int) > 0 then (idx l (IntKind.i64.wrap ((i : Int) - 1)) >>= fun x22 => some (decide (x22 ≥ l.getD i 0))) else some false) >>= fun x26 => some x26 : Option Bool) fun b => b = true ↔ ¬ SP l i := by
      refine Tot.ite (fun h => ⟨_, rfl, fun _ hp => ?_, fun _ => rfl⟩) (fun h => ?_)
      · rw [decide_eq_true hp.1, decide_eq_true hp.2.1] at h
        exact absurd h (by decide)
      · have hr : 1 ≤ l.getD i 0 ∧ l.getD i 0 ≤ 99 := Classical.byContradiction fun hn => h (by
          by_cases h1 : l.getD i 0 ≥ 1
          · rw [decide_eq_true h1, decide_eq_false (fun h2 => hn ⟨h1, h2⟩)]; rfl
          · rw [decide_eq_false h1]; rfl)
        refine Tot.bind (p := fun b => b = true ↔ ¬ SP l i) (Tot.ite (fun h0 => ?_) (fun h0 => ⟨_, rfl, fun h => (by cases h), fun hn => absurd ⟨by omega, by omega, fun h => by omega⟩ hn⟩)) fun b hb => ⟨_, rfl, hb⟩
        rw [wrap_id (by omega) (by omega), show (i : Int) - 1 = ((i - 1 : Nat) : Int) by omega, idx_getD (by omega), bsm]
        refine ⟨_, rfl, ?_⟩
        simp only [decide_eq_true_eq]
        unfold SP
        constructor
        · intro h1 h2; have := h2.2.2 (by omega); omega
        · intro h1
          rcases Int.lt_or_le (l.getD (i - 1) 0) (l.getD i 0) with h2 | h2
          · exact absurd ⟨by omega, by omega, fun _ => h2⟩ h1
          · exact h2
    refine Tot.bind e fun b hb => Tot.ite (fun h => ⟨_, rfl, rfl, i, by omega, hb.1 h⟩) (fun h => ?_)
    rw [wrap_nat (by omega)]
    refine (ih (i + 1) (by omega)).mono fun o ho => ?_
    cases o with
    | inl r => exact ho
    | inr u =>
      intro j h1 h2
      rcases Nat.lt_or_ge i j with h' | h'
      · exact ho j h' h2
      · rw [show j = i by omega]; exact Classical.byContradiction fun hn => h (hb.2 hn)
theorem sv_impl {l : List Int} (hl : l.length < 1099511627776) : Tot (impl_scopesOk l) fun b => b = true ↔ SV l := by
  unfold impl_scopesOk
  have := sv_impl_l0 hl l.length 0 (by omega)
  have e0 : ((0 : Nat) : Int) = 0 := rfl
  rw [e0] at this
  refine Tot.bind this fun o ho => ?_
  cases o with
  | inl r =>
    obtain ⟨rfl, j, h1, h2⟩ := ho
    exact ⟨_, rfl, fun h => (by cases h), fun hv => absurd (hv.2 j h1) h2⟩
  | inr u =>
    refine ⟨_, rfl, ?_⟩
    simp only [decide_eq_true_eq]
    exact ⟨fun h => ⟨by omega, fun j hj => ho j (by omega) hj⟩, fun h => by have := h.1; omega⟩
theorem sv_spec_l0 {l : List Int} : ∀ (n : Nat) (i : Nat), i + n = 25 → Tot (spec_l1Scopes_l0 l i) fun o => match o with | .inl r => r = false ∧ ∃ j, j < l.length ∧ ¬ SP l j | .inr _ => ∀ j, i ≤ j → j < l.length → j ≤ 24 → SP l j := by
  intro n
  induction n with
  | zero =>
    intro i hi
    rw [spec_l1Scopes_l0, psm, bsm, if_neg (by simp; omega)]
    exact Tot.pure (by intro j h1 h2 h3; omega)
  | succ n ih =>
    intro i hi
    rw [spec_l1Scopes_l0, psm, bsm]
    refine Tot.ite (fun hc => ?_) (fun hc => Tot.pure ?_)
    · simp only [Bool.and_eq_true, decide_eq_true_eq] at hc
      rw [idx_getD (by omega), bsm]
      have e : Tot ((if l.getD i 0 < 1 then pure true else (some (l.getD i 0) >>= fun x22 => pure (decide (x22 > 99))) : Option Bool)) fun b => b = true ↔ ¬ (1 ≤ l.getD i 0 ∧ l.getD i 0 ≤ 99) := by
        refine Tot.ite (fun h => ⟨_, rfl, fun _ hp => by omega, fun _ => rfl⟩) (fun h => ⟨_, rfl, ?_⟩)
        simp only [decide_eq_true_eq]; omega
      refine Tot.bind e fun b hb => ?_
      have e2 : Tot (if b = true then pure true else ((if (i : Int) > 0 then (some (l.getD i 0) >>= fun x32 => idx l (IntKind.i64.wrap ((i : Int) - 1)) >>= fun x37 => pure (decide (x32 ≤ x37))) else pure false : Option Bool) >>= fun x40 => pure x40)) fun b => b = true ↔ ¬ SP l i := by
        refine Tot.ite (fun h => ⟨_, rfl, fun _ hp => (hb.1 h) ⟨hp.1, hp.2.1⟩, fun _ => rfl⟩) (fun h => ?_)
        have hr : 1 ≤ l.getD i 0 ∧ l.getD i 0 ≤ 99 := Classical.byContradiction fun hn => h (hb.2 hn)
        refine Tot.bind (p := fun b => b = true ↔ ¬ SP l i) (Tot.ite (fun h0 => ?_) (fun h0 => ⟨_, rfl, fun h => (by cases h), fun hn => absurd ⟨by omega, by omega, fun h => by omega⟩ hn⟩)) fun b hb => ⟨_, rfl, hb⟩
        rw [bsm, wrap_id (by omega) (by omega), show (i : Int) - 1 = ((i - 1 : Nat) : Int) by omega, idx_getD (by omega), bsm]
        refine ⟨_, rfl, ?_⟩
        simp only [decide_eq_true_eq]
        unfold SP
        constructor
        · intro h1 h2; have := h2.2.2 (by omega); omega
        · intro h1
          rcases Int.lt_or_le (l.getD (i - 1) 0) (l.getD i 0) with h2 | h2
          · exact absurd ⟨by omega, by omega, fun _ => h2⟩ h1
          · exact h2
      refine Tot.bind e2 fun b hb => Tot.ite (fun h => ⟨_, rfl, rfl, i, by omega, hb.1 h⟩) (fun h => ?_)
      rw [wrap_nat (by omega)]
      refine (ih (i + 1) (by omega)).mono fun o ho => ?_
      cases o with
      | inl r => exact ho
      | inr u =>
        intro j h1 h2 h3
        rcases Nat.lt_or_ge i j with h' | h'
        · exact ho j h' h2 h3
        · rw [show j = i by omega]; exact Classical.byContradiction fun hn => h (hb.2 hn)
    · simp only [Bool.and_eq_true, decide_eq_true_eq] at hc
      intro j h1 h2 h3; omega
theorem sv_spec (l : List Int) : Tot (spec_l1Scopes l) fun b => b = true ↔ SV l := by
  unfold spec_l1Scopes
  have := sv_spec_l0 (l := l) 25 0 (by omega)
  have e0 : ((0 : Nat) : Int) = 0 := rfl
  rw [e0] at this
  refine Tot.bind this fun o ho => ?_
  cases o with
  | inl r =>
    obtain ⟨rfl, j, h1, h2⟩ := ho
    exact ⟨_, rfl, fun h => (by cases h), fun hv => absurd (hv.2 j h1) h2⟩
  | inr u =>
    refine ⟨_, rfl, ?_⟩
    simp only [decide_eq_true_eq]
    exact ⟨fun h => ⟨by omega, fun j hj => ho j (by omega) hj (by omega)⟩, fun h => by have := h.1; omega⟩
end Go.Proofs.SA

