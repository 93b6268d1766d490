/- Patterns, matches and templates as plain functions: what both sides compute. -/
import Derived.Test.YthdghhllcllneaaGreatDoorQi
set_option linter.unusedVariables false
set_option linter.unusedSimpArgs false
set_option maxRecDepth 100000
open Go Go.Proofs Go.Proofs.Shadow
namespace Go.Proofs.Shadow
noncomputable instance : DecidableEq Fm := fun a b => Classical.propDecidable (a = b)
instance : Inhabited Hit := ⟨.mk Fm.zero 0 Fm.zero []⟩
instance : Inhabited Bnd := ⟨⟨ByteArray.mk #[], [], 0⟩⟩
section
variable (ls : List Fm)
end
section
variable (B : List Bnd) (ls : List Fm)
end
end Go.Proofs.Shadow
namespace Go.Proofs.SA
theorem FIs.mono : ∀ (d : Nat) (f : Fm), FIs d f -> FIs (d + 1) f := by
 intro d
 induction d with
 | zero => intro f h; exact h.elim
 | succ d ih =>
  intro f h
  rcases h with h | h | h
  ·exact .inl h
  ·exact .inr (.inl h)
  ·exact .inr (.inr ⟨h.1, h.2.1, h.2.2.1, h.2.2.2.1, fun k hk => ih k (h.2.2.2.2 k hk)⟩)
theorem Qvx (f : Fm) : 1 <= f.nodes := by rw [Fm.Qbl]; omega
theorem Qk5 : ∀ l : List Fm, l.length <= Qc4 Fm.nodes l
 | [] => Nat.le_refl _
 | f :: l => by have := Qk5 l; have := Qvx f; rw [Qc4, List.length_cons]; omega
theorem FIs.sz : ∀ (d : Nat) (f : Fm), FIs d f -> f.sz + 1 <= 37 * f.nodes := by
 intro d
 induction d with
 | zero => intro f h; exact h.elim
 | succ d ih =>
  intro f h
  rw [Fm.Qff, Fm.Qbl]
  have hsum : ∀ l : List Fm, (∀ g ∈ l, FIs d g) -> Qc4 Fm.sz l + l.length <= 37 * Qc4 Fm.nodes l := by
   intro l
   induction l with
   | nil => intro _; exact Nat.le_refl _
   | cons g l ihl =>
    intro hg
    have h1 := ih g (hg g (List.mem_cons_self ..))
    have h2 := ihl (fun x hx => hg x (List.mem_cons_of_mem _ hx))
    simp only [Qc4, List.length_cons]
    omega
  rcases h with h | h | h
  ·obtain ⟨h1, h2, h3, h4, h5⟩ := h
   have hk : f.kids = [] := List.eq_nil_of_length_eq_zero h5
   have hn : f.name.size <= 12 := by
    rcases h2 with h2 | h2 | h2
    ·rw [h2]; decide
    ·rw [h2]; decide
    ·exact h2.2.1
   have := h4.1
   rw [hk]; simp [Qc4]; omega
  ·obtain ⟨h1, h2, h3, h4, h5, h6⟩ := h
   have hk : f.kids = [] := List.eq_nil_of_length_eq_zero h6
   rw [hk, h2, h5]
   have : (ByteArray.mk #[]).size = 0 := rfl
   simp [Qc4, this]
  ·obtain ⟨h1, h2, h3, h4, h5⟩ := h
   have := hsum f.kids h5
   rw [h2, h4]
   have : (ByteArray.mk #[]).size = 0 := rfl
   omega
theorem FV.sz {f : Fm} (h : FV f) : f.sz <= 14800 := by have := FIs.sz _ _ h.1; have := h.2; omega
end Go.Proofs.SA
namespace Go.Proofs.Shadow
end Go.Proofs.Shadow
