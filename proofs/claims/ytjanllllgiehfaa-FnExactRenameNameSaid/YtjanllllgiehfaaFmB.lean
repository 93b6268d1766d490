/- More steps for the walks: rows that are made and written, data handed back, closers. -/
import Derived.Test.YtjanllllgiehfaaFmA
set_option linter.unusedVariables false
set_option linter.unusedSimpArgs false
namespace Go.Proofs.Shadow
open Go Go.RowKit
section
variable {P : Program}
theorem alenT_ref (b n c : Nat) : alenT false (.ref b n c) = some (.int .i64 (n : Int)) := (rfl)
theorem set_rows {α : Type} {sz : Nat} (r : List α) (hr : r.length = sz) : ∀ (rows : List (List α)) (i : Nat), (∀ x ∈ rows, x.length = sz) → i < rows.length → rows.flatten.take (i * sz) ++ r ++ rows.flatten.drop (i * sz + r.length) = (rows.set i r).flatten
  | [], i, _, h => by simp at h
  | x :: rows, 0, hx, h => by
    have hl : x.length = sz := hx x (by simp)
    simp [hr, ← hl]
  | x :: rows, i + 1, hx, h => by
    have hl : x.length = sz := hx x (by simp)
    have ih := set_rows r hr rows i (fun y hy => hx y (by simp [hy])) (by simpa using h)
    simp only [List.flatten_cons, List.set_cons_succ, Nat.add_mul, Nat.one_mul]
    rw [← ih, Nat.add_comm (i * sz) sz, ← hl, List.take_length_add_append, Nat.add_assoc, List.drop_length_add_append]
    simp
theorem setOwn_setOwn (σ : Sto) (b : Nat) (e e' : Ent) : (σ.setOwn b e).setOwn b e' = σ.setOwn b e' := by
  simp only [Sto.setOwn]
  congr 1
  funext i
  split <;> rfl
/-- Rows of ours, handed back as data. -/
theorem Wk.mine {σ0 σ : Sto} {e : TypeId} {sz : Nat} {v : AV} {xs : List (List AV)} (h : Mine σ0 σ e sz v xs) (hs : Sub σ0 σ) : Wk σ v σ0 (.sl false xs) := by
  obtain ⟨σ1, h1, h2, _, _, h5⟩ := h.freeze hs
  exact h5.trans (Wk.sub h1 _)
theorem aRet_wk {rs : List ResultVar} {s : AS} {vs : List AV} {σ : Sto} {v : AV} (h : aresL P s rs = some vs) (hw : Wk s.σ (packed vs) σ v) : aRet P rs (fun r σ' => r = v ∧ σ' = σ) s := ⟨vs, h, v, σ, hw, rfl, rfl⟩
theorem agree_upd {lo d e : Nat} {T T' : Nat → AV} {v : AV} (h : (decide (lo ≤ e) || e == d) = true) (k : ∀ i, i < lo → i ≠ d → T' i = T i) : ∀ i, i < lo → i ≠ d → upd T' e v i = T i := fun i h1 h2 => by
  simp only [upd]
  rw [if_neg (fun he => by
    subst he
    simp only [Bool.or_eq_true, decide_eq_true_eq, beq_iff_eq] at h
    rcases h with h | h
    · omega
    · exact h2 h)]
  exact k i h1 h2
theorem agree_low {lo lo' d : Nat} {T T' J : Nat → AV} (h : lo ≤ lo') (k : ∀ i, i < lo → i ≠ d → T' i = T i) : ∀ i, i < lo → i ≠ d → low lo' J T' i = T i := fun i h1 h2 => by
  simp only [low]
  rw [if_pos (by omega)]
  exact k i h1 h2
end
theorem Fm.ind {p : Fm → Prop} (h : ∀ f, (∀ g ∈ f.kids, p g) → p f) (f : Fm) : p f := by
  have : ∀ n (f : Fm), SizeOf.sizeOf f ≤ n → p f := by
    intro n
    induction n with
    | zero => intro f hf; cases f; simp at hf
    | succ n ih =>
      intro f hf
      refine h f (fun g hg => ih g ?_)
      cases f with
      | mk k s m sc ks =>
        have := List.sizeOf_lt_of_mem (show g ∈ ks from hg)
        simp at hf
        omega
  exact this _ f (Nat.le_refl _)
attribute [go_sem] alenT_ref setOwn_setOwn
end Go.Proofs.Shadow
