/- The law FnExactIntroducedNames, told of plain functions: what it asks holds. -/
import Derived.Test.YtjanllllgiehfaaMd
set_option linter.unusedVariables false
set_option linter.unusedSimpArgs false
set_option maxRecDepth 100000
open Go Go.Proofs Go.Proofs.Shadow
namespace Go.Proofs.SA
theorem eqFormS_self (fs : List Fm) (hl : fs.length ≤ 1000000000) (h : ∀ f ∈ fs, f.Fit) : laws_eqFormS fs fs = some true := by
  have key : ∀ (l : List Fm) (i : Nat), fs.drop i = l → laws_eqFormS_l0L fs fs i l = some (.inr ()) := by
    intro l
    induction l with
    | nil => intro i _; rfl
    | cons x l ihl =>
      intro i hd
      have hi : i < fs.length := by
        rcases Nat.lt_or_ge i fs.length with h | h
        · exact h
        · rw [List.drop_of_length_le h] at hd; cases hd
      rw [List.drop_eq_getElem_cons hi] at hd
      injection hd with e1 e2
      rw [laws_eqFormS_l0L, psome, bsome, idx_nat _ _ hi, bsome, e1, eqForm_self x (h x (e1 ▸ List.getElem_mem hi)), bsome]
      simp only [Bool.not_true, Bool.false_eq_true, if_false]
      exact ihl _ e2
  rw [laws_eqFormS, if_pos rfl, laws_eqFormS_l0L0 _ _ (by omega), key fs 0 (List.drop_zero ..)]; rfl
theorem eqStep_self (a : Stp) (h1 : a.use.Fit) (h2 : a.res.Fit) : laws_eqStep a a = some true := by
  rw [laws_eqStep]
  simp only [if_true]
  rw [eqForm_self _ h1, bsome]
  simp only [Bool.not_true, Bool.false_eq_true, if_false]
  rw [eqForm_self _ h2, bsome]
  rfl
theorem sumL_bound {α : Type} (g : α → Nat) (c : Nat) : ∀ l : List α, (∀ x ∈ l, g x ≤ c) → sumL g l ≤ l.length * c
  | [], _ => by simp [sumL]
  | x :: l, h => by
    have h1 := h x (List.mem_cons_self ..)
    have h2 := sumL_bound g c l fun y hy => h y (List.mem_cons_of_mem _ hy)
    rw [sumL, List.length_cons, Nat.add_mul]
    omega
theorem riOk (a : Stp) (ha : a.Ok) : RIok a := by
  refine ⟨⟨_, szStep_eq ha (by omega) (by omega), fun h => ?_⟩⟩
  have hz : stSz a ≤ 1048576 := by
    by_cases hc : (stSz a : Int) ≤ 1048576
    · omega
    · rw [if_neg hc] at h; omega
  unfold stSz at hz
  have hn1 := Fm.nodes_le a.use
  have hn2 := Fm.nodes_le a.res
  have bound : ∀ g : Fm, g.sz ≤ 100000000 → ∀ k : Int, 0 ≤ k → k ≤ 1000000000000 → MarkOk g k := fun g hg k h0 h1 => by
    have := mks_eq g
    have := Fm.nodes_le g
    refine markF_ok g (by omega) k h0 ?_
    unfold mks at *
    omega
  obtain ⟨r, r1, r2, r3, _⟩ := bound a.use (by omega) 1 (by omega) (by omega)
  have hm := mks_eq a.use
  have hmk : mks a.use ≤ 10000000 := by unfold mks; omega
  obtain ⟨s, s1, s2, s3, _⟩ := bound a.res (by omega) r.2 (by omega) (by omega)
  have hw : ∀ x ∈ intrF a, x.sz ≤ 1048576 := by
    intro x hx
    unfold intrF at hx
    split at hx
    · rcases (nmF_ok a.scope a.res []).mem x hx with h | h
      · cases h
      · have := h.2.sz; omega
    · cases hx
  have hl : (intrF a).length ≤ 400 := by
    unfold intrF
    split
    · rename_i h
      have := (nmF_ok a.scope a.res []).len
      have := h.1.2
      simp only [List.length_nil] at *
      omega
    · simp
  have b1 := sumL_bound Fm.sz 1048576 _ hw
  have b2 := sumL_bound Fm.nodes 1048577 (intrF a) (fun x hx => by have := Fm.nodes_le x; have := hw x hx; omega)
  have b3 := sumL_bound mks 5000000 (intrF a) (fun x hx => by have := Fm.nodes_le x; have := hw x hx; unfold mks; omega)
  have b1' : (intrF a).length * 1048576 ≤ 400 * 1048576 := Nat.mul_le_mul_right _ hl
  have b2' : (intrF a).length * 1048577 ≤ 400 * 1048577 := Nat.mul_le_mul_right _ hl
  have b3' : (intrF a).length * 5000000 ≤ 400 * 5000000 := Nat.mul_le_mul_right _ hl
  obtain ⟨t, t1, t2, t3, t4, t5⟩ := markL_ok (intrF a) (fun f hf k h0 h => markF_ok f (by have := hw f hf; omega) k h0 h) 1 (by omega) (by omega) (by omega)
  have fu : a.use.Fit := Fm.fit_of_sz (by omega)
  have fr : a.res.Fit := Fm.fit_of_sz (by omega)
  have ht : laws_toStep a = some a := by
    rw [laws_toStep, toForm_eq _ fu, bsome, toForm_eq _ fr, bsome]; rfl
  exact ⟨intrF a, r, s, t, ht, specIntr_eq a (by omega), implIntr_eq a (by omega), eqFormS_self _ (by omega) (fun f hf => Fm.fit_of_sz (by have := hw f hf; omega)), eqStep_self a fu fr, r1, s1, by omega, t1, t5, by omega, by omega, by omega, by omega, by omega, by omega, by omega⟩
end Go.Proofs.SA

