/- What append leaves, told anew: plain data at once; rows whose nil slices are empty ones. -/
import Derived.Test.YtjanllllgiehfaaGz
set_option linter.unusedVariables false
set_option linter.unusedSimpArgs false
namespace Go.Proofs.Shadow
open Go
/-- The cells of a slice of ours told anew. -/
theorem own_told {σ : Sto} {b : Nat} {ty : TypeId} {size : Nat} {cells cells' : List AV} (he : σ.own b = some ⟨ty, size, cells⟩) (hw : WkVL cells cells') (v : AV) : Wk σ v (σ.setOwn b ⟨ty, size, cells'⟩) v := by
  have hd : ∀ b', σ.dead b' → (σ.setOwn b ⟨ty, size, cells'⟩).dead b' := fun b' h => ⟨h.1, by
    simp only [Sto.setOwn]
    split
    · rename_i h1; subst h1; rw [h.2] at he; cases he
    · exact h.2⟩
  intro w cv hs hr
  have hst : Step σ w (σ.setOwn b ⟨ty, size, cells'⟩) w := Step.drop hd
  refine ⟨⟨fun b' e h => ?_, fun b' e h => ?_⟩, hr.step hst, hd⟩
  · obtain ⟨h1, h2, h3⟩ := hs.var b' e h
    refine ⟨h1.step hst rfl, h2, ?_⟩
    simp only [Sto.setOwn]
    split
    · rename_i h4; subst h4; rw [h3] at he; cases he
    · exact h3
  · simp only [Sto.setOwn] at h
    split at h
    · rename_i h4
      subst h4
      injection h with h
      subst h
      obtain ⟨cs, h1, h2, h3, h4⟩ := (hs.own b' _ he).step hst rfl
      refine ⟨cs, h1, h2, by rw [← hw.length]; exact h3, fun i c hc => ?_⟩
      obtain ⟨a, ha, hwv, hcc⟩ := hw.get i c hc
      exact ⟨hcc (h4 i a ha).1, hwv _ _ _ (h4 i a ha).2⟩
    · exact (hs.own b' e h).step hst rfl
theorem WkVL.app {a b c d : List AV} (h : WkVL a b) (k : WkVL c d) : WkVL (a ++ c) (b ++ d) := by
  induction h with
  | nil => exact k
  | cons h hc _ ih => exact .cons h hc ih
theorem AppPost.told {σ σ' : Sto} {e : TypeId} {sz : Nat} {v v' : AV} {xs ys ys' : List (List AV)} (ho : OwnL σ e sz v xs) (hp : AppPost σ e sz v σ' v' (xs ++ ys)) (hl : ys'.length = ys.length) (hs : ∀ r ∈ ys', r.length = sz) (hw : WkVL ys.flatten ys'.flatten) :
    ∃ σ'', Wk1 σ' v' σ'' v' ∧ AppPost σ e sz v σ'' v' (xs ++ ys') := by
  by_cases hy : ys = []
  · subst hy
    obtain rfl : ys' = [] := List.eq_nil_of_length_eq_zero (by simpa using hl)
    exact ⟨σ', Wk1.refl _ _, hp⟩
  · have hly : 0 < ys.length := List.length_pos_iff.2 hy
    rcases hp.own.2 with ⟨h1, h2⟩ | h1 | ⟨b, cap, h1, h2⟩
    · exact absurd (List.append_eq_nil_iff.1 h2).2 hy
    · exfalso
      rcases hp.cap with h3 | h3
      · subst h3
        rcases ho.2 with ⟨h4, _⟩ | h4 | ⟨b, cap, h4, _⟩
        · rw [h4] at h1; cases h1
        · rw [h4] at h1
          injection h1 with _ h1
          have := congrArg List.length h1
          simp at this
          exact hy this
        · rw [h4] at h1; cases h1
      · rw [h1] at h3; exact h3 rfl
    · have hwa : WkVL (xs ++ ys).flatten (xs ++ ys').flatten := by rw [List.flatten_append, List.flatten_append]; exact (WkVL.refl _).app hw
      have hlen : (xs ++ ys').length = (xs ++ ys).length := by simp [hl]
      refine ⟨σ'.setOwn b ⟨e, cap * sz, (xs ++ ys').flatten⟩, ⟨own_told h2 hwa v', rfl, fun b' h => ⟨h.1, ?_⟩, fun ρ _ => own_told (σ := σ'.ext ρ) h2 hwa v'⟩, ⟨hp.var, ⟨fun r hr => ?_, .inr (.inr ⟨b, cap, by rw [hlen]; exact h1, by simp [Sto.setOwn]⟩)⟩, fun b' hb' hn => ?_, fun b' hb' hn => ?_, hp.blk, hp.cap⟩⟩
      · simp only [Sto.setOwn]
        split
        · rename_i h4; subst h4; rw [h.2] at h2; cases h2
        · exact h.2
      · rcases List.mem_append.1 hr with hr | hr
        · exact ho.1 r hr
        · exact hs r hr
      · simp only [Sto.setOwn]
        split
        · rename_i h4
          subst h4
          exfalso
          rcases hp.blk with h5 | h5
          · rw [← h5, h1] at hb'; exact hb' rfl
          · exact hn (h5 b' (by rw [h1]; rfl)).2
        · exact hp.same b' hb' hn
      · simp only [Sto.setOwn]
        split
        · rename_i h4; subst h4; rw [h1] at hn; exact absurd rfl hn
        · exact hp.fresh b' hb' hn
section
variable {P : Program} {E : Nat → Prop} {τ σ : Sto} {bs : List (Nat × Ent)} {ms : List OwnR}
variable {α β : Type} {g : α → List AV} {xs ys : List α} {r : β} {v y : AV} {e : TypeId} {sz by_ : Nat} {T : Nat → AV} {d : Tmp} {K : AS → Prop} {kk : List α → Option β}
theorem fx_appw {rows : List (List AV)} (hF : Fx τ σ bs ms) (j : Nat) {zs : List α} (hj : ms[j]? = some ⟨v, e, sz, rws g xs⟩) (hs : ∀ x, (g x).length = sz) (hsz : 0 < sz) (hby : 0 < by_) (hy : RdL σ sz y rows) (hl : rows.length = ys.length) (hw : WkVL rows.flatten (rws g ys).flatten) (hb : lcat by_ xs ys = some zs)
    (h : ∀ v' σ', Fx τ σ' bs (ms.set j ⟨v', e, sz, rws g zs⟩) → σ'.var = σ.var → K ⟨upd T d v', σ'⟩) : aAppend (some (e, sz, by_)) v y ⟨T, σ⟩ (some d) K := by
  obtain ⟨rfl, hb2⟩ := lcat_eq hb
  refine ⟨rws g xs, rows, hsz, hby, (hF.mine j hj).1, hy, by rw [rws_len, hl]; exact hb2, fun v' σ' hp => ?_⟩
  obtain ⟨σ2, h1, h2⟩ := hp.told (hF.mine j hj).1 (by rw [rws_len, hl]) (rws_mem hs ys) hw
  rw [← rws_app] at h2
  exact ⟨v', σ2, h1, h v' σ2 (hF.app j hj h2) h2.var⟩
theorem apwK {rows : List (List AV)} (hF : Fx τ σ bs ms) (j : Nat) (H : (lcat by_ xs ys >>= kk) = some r) (hs : ∀ x, (g x).length = sz) (c : Bool) (hy : y = .sl c rows) (hw : WkVL rows.flatten (rws g ys).flatten) {ms' : List α → AV → List OwnR} (h : ∀ z, kk z = some r → ∀ v' σ', Fx τ σ' bs (ms' z v') → K ⟨upd T d v', σ'⟩) (hj : ms[j]? = some ⟨v, e, sz, rws g xs⟩ := by rfl)
    (hl : rows.length = ys.length := by rfl) (hr : ∀ r ∈ rows, r.length = sz := by intro r h; simp only [List.mem_cons, List.not_mem_nil, or_false] at h; (first | (subst h; rfl) | (rcases h with h | h <;> subst h <;> rfl)))
    (hsz : 0 < sz := by decide) (hby : 0 < by_ := by decide) (hm : ∀ z v', ms.set j ⟨v', e, sz, rws g z⟩ = ms' z v' := by intro _ _; (simp only [List.set_cons_succ, List.set_cons_zero]) <;> exact rfl) : aAppend (some (e, sz, by_)) v y ⟨T, σ⟩ (some d) (kp E σ K) := by
  obtain ⟨z, hz, H⟩ := bnd H
  subst hy
  exact fx_appw hF j hj hs hsz hby (RdL.sl _ _ _ _ hr) hl hw hz fun v' σ' hF hv => kp_intro (Keep.of_var hv) (h z H v' σ' (hm z v' ▸ hF))
end
theorem kp_intro2 {E : Nat → Prop} {σ : Sto} {K : AS → Prop} {s : AS} (h1 : Keep E σ s.σ) (h2 : Keep E σ s.σ → K s) : kp E σ K s := ⟨h1, h2 h1⟩
/-! ### Rows that hold slices of ours -/
/-- Cells told anew; the slice u as rows ro. -/
inductive WkU (u : AV) (ro : List (List AV)) : List AV → List AV → Prop
  | nil : WkU u ro [] []
  | wk {a b : AV} {as bs : List AV} (h : WkV a b) (hc : a.isCell = true → b.isCell = true) (t : WkU u ro as bs) : WkU u ro (a :: as) (b :: bs)
  | own {as bs : List AV} (t : WkU u ro as bs) : WkU u ro (u :: as) (.sl false ro :: bs)
theorem WkU.length {u : AV} {ro : List (List AV)} {as bs : List AV} (h : WkU u ro as bs) : as.length = bs.length := by
  induction h with
  | nil => rfl
  | wk _ _ _ ih => simp [ih]
  | own _ ih => simp [ih]
section
variable {P : Program} {E : Nat → Prop} {τ σ : Sto} {bs : List (Nat × Ent)} {ms : List OwnR}
variable {α β : Type} {g : α → List AV} {xs ys : List α} {r : β} {v y : AV} {e : TypeId} {sz by_ : Nat} {T : Nat → AV} {d : Tmp} {K : AS → Prop} {kk : List α → Option β}
end
section
variable {P : Program} {E : Nat → Prop} {τ σ : Sto} {bs : List (Nat × Ent)} {ms : List OwnR}
end
end Go.Proofs.Shadow

