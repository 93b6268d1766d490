/- A call that is handed live trees to read, and answers with a live tree. -/
import Derived.Test.YtjanllllgiehfaaLv
set_option linter.unusedVariables false
set_option linter.unusedSimpArgs false
namespace Go.Proofs.Shadow
open Go
/-- It says nothing of the store. -/
def Free (c : AV) : Prop := ∀ (σ : Sto) (w : World) (σ' : Sto) (w' : World) (val : Value), Rv σ w c val → Rv σ' w' c val
theorem Free.int (k : IntKind) (n : Int) : Free (.int k n) := fun _ _ _ _ _ h => by cases h; exact .int
theorem Free.str (s : ByteArray) : Free (.str s) := fun _ _ _ _ _ h => by cases h with | str h => exact .str h
theorem Free.own {τ σ : Sto} {bs : List (Nat × Ent)} {ms : List OwnR} (hF : Fx τ σ bs ms) {m : OwnR} (hm : m ∈ ms) (hsz : m.sz ≠ 17) : Free m.v := by
  intro σ1 w σ2 w' val h
  rcases (hF.own m hm).1.2 with ⟨h1, _⟩ | h1 | ⟨b, cap, h1, _⟩
  · rw [h1] at h ⊢; cases h; exact .nilsl
  · rcases hF.wr m hm with h2 | h2 | h2
    · rw [h1, h2] at h ⊢
      cases h with
      | slE hc => exact .slE hc
      | slC hx => exact absurd rfl hx
    · rw [h1] at h2; exact absurd rfl h2
    · exact absurd h2 hsz
  · rw [h1] at h ⊢
    cases h with
    | ref a b c => exact .ref a b c
mutual
theorem LvF.free {tI tF : TypeId} : ∀ {f : Fm} {r : List AV} {L : List OwnR}, LvF tI tF f r L → (∀ m ∈ L, Free m.v) → (∀ c ∈ r, Free c) ∧ ∀ m ∈ L, ∀ c ∈ m.rows.flatten, Free c
  | _, _, _, .mk (sc := sc) (rows := rows) h, hL => by
    obtain ⟨k1, k2⟩ := h.free fun m hm => hL m (List.mem_cons_of_mem _ (List.mem_cons_of_mem _ hm))
    have h1 := hL _ (List.mem_cons_self ..)
    have h2 := hL _ (List.mem_cons_of_mem _ (List.mem_cons_self ..))
    refine ⟨fun c hc => ?_, fun m hm c hc => ?_⟩
    · simp only [List.mem_cons, List.not_mem_nil, or_false] at hc
      rcases hc with rfl | rfl | rfl | rfl | rfl
      · exact .int _ _
      · exact .str _
      · exact .int _ _
      · exact h1
      · exact h2
    · rcases List.mem_cons.1 hm with rfl | hm
      · obtain ⟨i, hi⟩ := List.mem_iff_getElem?.1 hc
        obtain ⟨n, rfl⟩ := (rws_int sc).2.2 i c hi
        exact .int _ _
      · rcases List.mem_cons.1 hm with rfl | hm
        · exact k1 c hc
        · exact k2 m hm c hc
theorem LvL.free {tI tF : TypeId} : ∀ {fs : List Fm} {rs : List (List AV)} {L : List OwnR}, LvL tI tF fs rs L → (∀ m ∈ L, Free m.v) → (∀ c ∈ rs.flatten, Free c) ∧ ∀ m ∈ L, ∀ c ∈ m.rows.flatten, Free c
  | _, _, _, .nil, _ => ⟨(fun c h => by cases h), (fun m h => by cases h)⟩
  | _, _, _, .cons h t, hL => by
    obtain ⟨a1, a2⟩ := h.free fun m hm => hL m (List.mem_append_left _ hm)
    obtain ⟨b1, b2⟩ := t.free fun m hm => hL m (List.mem_append_right _ hm)
    refine ⟨fun c hc => ?_, fun m hm => ?_⟩
    · rw [List.flatten_cons] at hc
      rcases List.mem_append.1 hc with hc | hc
      · exact a1 c hc
      · exact b1 c hc
    · rcases List.mem_append.1 hm with hm | hm
      · exact a2 m hm
      · exact b2 m hm
end
/-- σ, and the slices L of σ1. -/
noncomputable def joinS (σ σ1 : Sto) (L : List OwnR) : Sto := ⟨σ.var, fun b => (σ.own b).or (@ite _ (∃ m ∈ L, m.v.blk = some b) (Classical.propDecidable _) (σ1.own b) none)⟩
end Go.Proofs.Shadow

