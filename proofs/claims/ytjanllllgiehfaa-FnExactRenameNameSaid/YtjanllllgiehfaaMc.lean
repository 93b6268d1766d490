/- The law FnExactRenameName, told of plain functions: what it asks holds. -/
import Derived.Test.YtjanllllgiehfaaMa
import Derived.Test.YtjanllllgiehfaaMb
set_option linter.unusedVariables false
set_option linter.unusedSimpArgs false
set_option maxRecDepth 100000
open Go Go.Proofs Go.Proofs.Shadow
namespace Go.Proofs.SA
/-- What the law's ways come to, told of plain functions. -/
structure RNok (f : Fm) (o n : ByteArray) : Prop where
  sz : (o.size : Int) ≤ 1048576 → (n.size : Int) ≤ 1048576 → ∃ left, laws_szForm f 1048576 = some left ∧ (¬ left < 0 → ∃ w r s, laws_toForm f = some f ∧ spec_RenameName f o n = some w ∧ impl_RenameName f o n = some w ∧ laws_eqForm w.1 w.1 = some true ∧ laws_eqForm f f = some true ∧ markF f 1 = some r ∧ 0 ≤ r.2 ∧ markF w.1 1 = some s ∧ laws_heldForm s.1 1 = some s.2 ∧ 0 ≤ s.2 ∧ f.sz ≤ 100000000 ∧ f.nodes ≤ 100000000 ∧ w.1.sz ≤ 100000000 ∧ w.1.nodes ≤ 100000000)
theorem rnOk (f : Fm) (o n : ByteArray) (hf : f.Ok) : RNok f o n := by
  refine ⟨fun h1 h2 => ⟨_, szForm_eq f hf 1048576 (by omega) (by omega), fun h => ?_⟩⟩
  have hz : f.sz ≤ 1048576 := by
    by_cases hc : (f.sz : Int) ≤ 1048576
    · omega
    · rw [if_neg hc] at h; omega
  have hn := Fm.nodes_le f
  have bound : ∀ g : Fm, g.sz ≤ 100000000 → ∀ k : Int, 0 ≤ k → k ≤ 1 → MarkOk g k := fun g hg k h0 h1 => by
    have := mks_eq g
    have := Fm.nodes_le g
    refine markF_ok g (by omega) k h0 ?_
    unfold mks at *
    omega
  have hwz : (rnm f o n).1.sz ≤ 50000000 := by
    by_cases h : FV f ∧ NV o ∧ NV n
    · rw [rnm_pos h]
      have h1 := ren_sz o n f
      have hsz : n.size ≤ 12 := by
        rcases h.2.2 with h | h | h
        · rw [h]; decide
        · rw [h]; decide
        · exact h.2.1
      have h3 : n.size * f.nodes ≤ 12 * 1048577 := Nat.mul_le_mul hsz (by omega)
      simp only; omega
    · rw [rnm_neg h]; show (Fm.mk 0 (ByteArray.mk #[]) 0 [] []).sz ≤ _; rw [szMk]; show 0 + 0 + 0 + 0 ≤ _; omega
  have hwn := Fm.nodes_le (rnm f o n).1
  obtain ⟨r, r1, r2, r3⟩ := heldForm_of (by omega) (bound f (by omega) 1 (by omega) (by omega))
  obtain ⟨s, s1, s2, s3⟩ := heldForm_of (by omega) (bound (rnm f o n).1 (by omega) 1 (by omega) (by omega))
  refine ⟨rnm f o n, r, s, toForm_eq f (Fm.fit_of_sz (by omega)), rn_spec (by omega) (by omega) (by omega), rn_impl (by omega) (by omega) (by omega), eqForm_self _ (Fm.fit_of_sz (by omega)), eqForm_self _ (Fm.fit_of_sz (by omega)), r1, r2, s1, s3, s2, by omega, by omega, by omega, by omega⟩
end Go.Proofs.SA
