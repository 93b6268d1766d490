/- Joins: where ways of the walk meet again. -/
import Derived.Test.YtjanllllgiehfaaShM
set_option linter.unusedVariables false
set_option linter.unusedSimpArgs false
namespace Go.Proofs.Shadow
open Go Go.RowKit
section
variable {P : Program} {E : Nat → Prop}
theorem aGuard_mono {g : Option Bool} {A B A' B' : Prop} (h : aGuard g A B) (ha : A → A') (hb : B → B') : aGuard g A' B' := by
  obtain ⟨t, h1, h2, h3⟩ := h
  exact ⟨t, h1, fun x => ha (h2 x), fun x => hb (h3 x)⟩
theorem aops_mono {D : List (Option Tmp)} : ∀ (L : List Oper) {K K' : AS → Prop} {s : AS}, aops P D L K s → (∀ s', K s' → K' s') → aops P D L K' s
  | [], _, _, _, h, hk => hk _ h
  | o :: os, K, K', s, h, hk => aGuard_mono h (fun h => aop_mono h (fun s' hs => aops_mono os hs hk)) (fun h => aops_mono os h hk)
theorem aDraw_mono {ops : Array Oper} {K K' : AS → Prop} {s : AS} (h : aDraw P ops K s) (hk : ∀ s', K s' → K' s') : aDraw P ops K' s :=
  fun n σ0 w0 a w Q hok hR hQ => h n σ0 w0 a w Q hok hR (fun a w hp => by
    obtain ⟨s1, h1, h2⟩ := hp
    exact hQ a w ⟨s1, hk _ h1, h2⟩)
theorem acode_mono : ∀ (c : Code) {Q Q' : AX → AS → Prop} {s : AS}, acode P c Q s → (∀ x s', Q x s' → Q' x s') → acode P c Q' s := by
  intro c
  induction c with
  | skip => exact fun h hq => hq _ _ h
  | region id ops draw =>
    intro Q Q' s h hq
    cases draw with
    | false => exact aops_mono _ h (hq _)
    | true => exact aDraw_mono h (hq _)
  | seq x y ihx ihy =>
    intro Q Q' s h hq
    refine ihx h (fun e s' h1 => ?_)
    cases e with
    | nrm => exact ihy h1 hq
    | ex id => exact hq _ _ h1
    | ret => exact hq _ _ h1
  | cond c x y ihx ihy =>
    intro Q Q' s h hq
    rcases h with ⟨t, h1, h2, h3⟩ | ⟨h1, h2, h3⟩
    · exact .inl ⟨t, h1, fun z => ihx (h2 z) hq, fun z => ihy (h3 z) hq⟩
    · exact .inr ⟨h1, ihx h2 hq, ihy h3 hq⟩
  | block id c ih =>
    intro Q Q' s h hq
    refine ih h (fun e s' h1 => ?_)
    cases e with
    | nrm => exact hq _ _ h1
    | ret => exact hq _ _ h1
    | ex id' =>
      simp only [inBlk] at h1 ⊢
      split
      · rename_i he
        rw [if_pos he] at h1
        exact hq _ _ h1
      · rename_i he
        rw [if_neg he] at h1
        exact hq _ _ h1
  | loop c ih =>
    intro Q Q' s h hq
    intro X hX
    refine h X (fun s hs => hX s (ih hs (fun e s' h2 => ?_)))
    cases e with
    | nrm => exact h2
    | ex id => obtain ⟨s2, hk, h2⟩ := h2; exact ⟨s2, hk, hq _ _ h2⟩
    | ret => obtain ⟨s2, hk, h2⟩ := h2; exact ⟨s2, hk, hq _ _ h2⟩
  | exit id => exact fun h hq => hq _ _ h
  | ret => exact fun h hq => hq _ _ h
  | _ => exact fun h _ => h.elim
/-- The temporaries below lo are T's; the others are open. -/
def low (lo : Nat) (J T : Nat → AV) : Nat → AV := fun i => if i < lo then T i else J i
theorem low_app (lo : Nat) (J T : Nat → AV) (i : Nat) : low lo J T i = if i < lo then T i else J i := (rfl)
theorem cut_done {T T' : Nat → AV} {σ : Sto} {d : Nat} {v : AV} (lo : Nat) (hd : T' d = v) (h : ∀ i, i < lo → i ≠ d → T' i = T i) : ∃ J, (⟨T', σ⟩ : AS) = ⟨upd (low lo J T) d v, σ⟩ := by
  refine ⟨T', ?_⟩
  congr 1
  funext i
  simp only [upd, low]
  split
  · rename_i hi; subst hi; exact hd
  · split
    · rename_i h1 h2; exact h i h2 h1
    · rfl
/-- A region with guards: behind it only d counts (v), and what lies below lo. -/
theorem aGd_cut (lo d : Nat) (v : AV) {g : Option Bool} {o : Oper} {D : List (Option Tmp)} {os : List Oper} {T : Nat → AV} {σ : Sto} {K : AS → Prop}
    (h : aGd P g o ⟨T, σ⟩ (aops P D os fun s' => ∃ J, s' = ⟨upd (low lo J T) d v, σ⟩)) (hK : ∀ J, K ⟨upd (low lo J T) d v, σ⟩) : aGd P g o ⟨T, σ⟩ (aops P D os K) := by
  have hm : ∀ s', aops P D os (fun s' => ∃ J, s' = ⟨upd (low lo J T) d v, σ⟩) s' → aops P D os K s' := fun s' hs => aops_mono os hs (fun s1 ⟨J, hJ⟩ => by subst hJ; exact hK J)
  exact aGuard_mono h (fun h => aop_mono h hm) (hm _)
theorem tGd_cut (lo d : Nat) (v : AV) {g : Option Bool} {c : Cl} {o : Oper} {D : List (Option Tmp)} {os : List (Cl × Oper)} {T : Nat → AV} {σ : Sto} {K : AS → Prop}
    (h : tGd P E g c o ⟨T, σ⟩ (trun P E D os fun s' => ∃ J, s' = ⟨upd (low lo J T) d v, σ⟩)) (hK : ∀ J, K ⟨upd (low lo J T) d v, σ⟩) : tGd P E g c o ⟨T, σ⟩ (trun P E D os K) := by
  have hm : ∀ s', trun P E D os (fun s' => ∃ J, s' = ⟨upd (low lo J T) d v, σ⟩) s' → trun P E D os K s' := fun s' hs => trun_mono os hs (fun s1 ⟨J, hJ⟩ => by subst hJ; exact hK J)
  cases g with
  | none => obtain ⟨t, h1, _⟩ := h; cases h1
  | some t =>
    obtain ⟨t', h1, h2, h3⟩ := h
    refine ⟨t', h1, fun ht => ?_, fun ht => hm _ (h3 ht)⟩
    have h2 := h2 ht
    cases c with
    | v => exact (tstep_mono (D := D) (c := .v) (o := ⟨o.dst, o.op, o.type, o.pos, o.after, none⟩) (K := trun P E D os fun s' => ∃ J, s' = ⟨upd (low lo J T) d v, σ⟩) ⟨true, rfl, fun _ => h2, fun h => by cases h⟩ hm).elim (fun t ht => by
        obtain ⟨h5, h6, h7⟩ := ht
        cases h5
        exact h6 rfl)
    | x => exact aop_mono h2 (fun s' hs => ⟨hs.1, hm _ hs.2⟩)
    | z => exact aop_mono h2 hm
/-- Behind a choice: only M counts. -/
theorem aCnd_join (M : AS → Prop) {c : AV} {x y : Code} {Q : AX → AS → Prop} {s : AS} (h : aCnd P c x y (thn M Q) s) (hM : ∀ s', M s' → Q .nrm s') : aCnd P c x y Q s := by
  have hm : ∀ e s', thn M Q e s' → Q e s' := fun e s' he => by
    cases e with
    | nrm => exact hM _ he
    | ex id => exact he
    | ret => exact he
  rcases h with ⟨t, h1, h2, h3⟩ | ⟨h1, h2, h3⟩
  · exact .inl ⟨t, h1, fun z => acode_mono x (h2 z) hm, fun z => acode_mono y (h3 z) hm⟩
  · exact .inr ⟨h1, acode_mono x h2 hm, acode_mono y h3 hm⟩
/-- One round, then the loop again. -/
theorem aLoop_round {c : Code} {Q : AX → AS → Prop} {s : AS} (h : acode P c (thn (aLoop P (acode P c) Q) (wkQ P Q)) s) : aLoop P (acode P c) Q s := by
  intro X hX
  refine hX s (acode_mono c h (fun x s' hx => ?_))
  cases x with
  | nrm => exact hx X hX
  | ex id => exact hx
  | ret => exact hx
/-- A loop of the program's. -/
abbrev aLp (P : Program) (c : Code) (Q : AX → AS → Prop) (s : AS) : Prop := aLoop P (acode P c) Q s
end
attribute [go_sem] low_app
end Go.Proofs.Shadow
