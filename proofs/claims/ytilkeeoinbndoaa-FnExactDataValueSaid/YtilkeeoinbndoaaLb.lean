/- A call that is handed live trees to read, and answers with a live tree. -/
import Derived.Test.YtilkeeoinbndoaaLv
set_option linter.unusedVariables false
set_option linter.unusedSimpArgs false
namespace Go.Proofs.Shadow
open Go
/-- It says nothing of the store. -/
def Free (c : AV) : Prop := ∀ (σ : Sto) (w : World) (σ' : Sto) (w' : World) (val : Value), Rv σ w c val → Rv σ' w' c val
theorem Free.int (k : IntKind) (n : Int) : Free (.int k n) := fun _ _ _ _ _ h => by cases h; exact .int
theorem Free.bool (b : Bool) : Free (.bool b) := fun _ _ _ _ _ h => by cases h; exact .bool
theorem Free.str (s : ByteArray) : Free (.str s) := fun _ _ _ _ _ h => by cases h with | str h => exact .str h
theorem Free.own {τ σ : Sto} {bs : List (Nat × Ent)} {ms : List OwnR} (hF : Fx τ σ bs ms) {m : OwnR} (hm : m ∈ ms) (hsz : m.sz ≠ 17) : Free m.v := by
  intro σ1 w σ2 w' val h
  rcases (hF.own m hm).1.2 with ⟨h1, _⟩ | h1 | ⟨b, cap, h1, _⟩
  · rw [h1] at h ⊢; cases h; exact .nilsl
  · rcases hF.wr m hm with h2 | h2 | h2
    · rw [h1, h2] at h ⊢
      cases h with
      | slE hc => exact .slE hc
      | slC hx => exact absurd rfl hx
    · rw [h1] at h2; exact absurd rfl h2
    · exact absurd h2 hsz
  · rw [h1] at h ⊢
    cases h with
    | ref a b c => exact .ref a b c
theorem Free.agg {r : List AV} (h : ∀ c ∈ r, Free c) : Free (.agg r) := fun σ w σ' w' val hv => by
  cases hv with
  | agg hl hi hr => exact .agg hl hi fun i c hc => h c (List.mem_of_getElem? hc) σ w σ' w' _ (hr i c hc)
theorem Free.tup {r : List AV} (h : ∀ c ∈ r, Free c) : Free (.tup r) := fun σ w σ' w' val hv => by
  cases hv with
  | tup hl hr => exact .tup hl fun i c hc => h c (List.mem_of_getElem? hc) σ w σ' w' _ (hr i c hc)
/-- σ, and the slices L of σ1. -/
noncomputable def joinS (σ σ1 : Sto) (L : List OwnR) : Sto := ⟨σ.var, fun b => (σ.own b).or (@ite _ (∃ m ∈ L, m.v.blk = some b) (Classical.propDecidable _) (σ1.own b) none)⟩
end Go.Proofs.Shadow

