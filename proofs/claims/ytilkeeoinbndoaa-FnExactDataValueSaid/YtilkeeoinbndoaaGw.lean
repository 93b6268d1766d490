/- What append leaves, told anew: plain data at once; rows whose nil slices are empty ones. -/
import Derived.Test.YtilkeeoinbndoaaGz
set_option linter.unusedVariables false
set_option linter.unusedSimpArgs false
namespace Go.Proofs.Shadow
open Go
section
variable {P : Program} {E : Nat → Prop} {τ σ : Sto} {bs : List (Nat × Ent)} {ms : List OwnR}
variable {α β : Type} {g : α → List AV} {xs ys : List α} {r : β} {v y : AV} {e : TypeId} {sz by_ : Nat} {T : Nat → AV} {d : Tmp} {K : AS → Prop} {kk : List α → Option β}
end
theorem kp_intro2 {E : Nat → Prop} {σ : Sto} {K : AS → Prop} {s : AS} (h1 : Keep E σ s.σ) (h2 : Keep E σ s.σ → K s) : kp E σ K s := ⟨h1, h2 h1⟩
/-! ### Rows that hold slices of ours -/
/-- Cells told anew; the slice u as rows ro. -/
inductive WkU (u : AV) (ro : List (List AV)) : List AV → List AV → Prop
  | nil : WkU u ro [] []
  | wk {a b : AV} {as bs : List AV} (h : WkV a b) (hc : a.isCell = true → b.isCell = true) (t : WkU u ro as bs) : WkU u ro (a :: as) (b :: bs)
  | own {as bs : List AV} (t : WkU u ro as bs) : WkU u ro (u :: as) (.sl false ro :: bs)
theorem WkU.length {u : AV} {ro : List (List AV)} {as bs : List AV} (h : WkU u ro as bs) : as.length = bs.length := by
  induction h with
  | nil => rfl
  | wk _ _ _ ih => simp [ih]
  | own _ ih => simp [ih]
section
variable {P : Program} {E : Nat → Prop} {τ σ : Sto} {bs : List (Nat × Ent)} {ms : List OwnR}
variable {α β : Type} {g : α → List AV} {xs ys : List α} {r : β} {v y : AV} {e : TypeId} {sz by_ : Nat} {T : Nat → AV} {d : Tmp} {K : AS → Prop} {kk : List α → Option β}
end
section
variable {P : Program} {E : Nat → Prop} {τ σ : Sto} {bs : List (Nat × Ent)} {ms : List OwnR}
end
end Go.Proofs.Shadow

