/- A call that is handed live trees to read, and answers with a live tree. -/
import Derived.Test.YtjanllllgiehfaaLv
set_option linter.unusedVariables false
set_option linter.unusedSimpArgs false
namespace Go.Proofs.Shadow
open Go
/-- It says nothing of the store. -/
def Free (c : AV) : Prop := ∀ (σ : Sto) (w : World) (σ' : Sto) (w' : World) (val : Value), Rv σ w c val → Rv σ' w' c val
theorem Free.int (k : IntKind) (n : Int) : Free (.int k n) := fun _ _ _ _ _ h => by cases h; exact .int
theorem Free.bool (b : Bool) : Free (.bool b) := fun _ _ _ _ _ h => by cases h; exact .bool
theorem Free.str (s : ByteArray) : Free (.str s) := fun _ _ _ _ _ h => by cases h with | str h => exact .str h
theorem Free.own {τ σ : Sto} {bs : List (Nat × Ent)} {ms : List OwnR} (hF : Fx τ σ bs ms) {m : OwnR} (hm : m ∈ ms) (hsz : m.sz ≠ 17) : Free m.v := by
  intro σ1 w σ2 w' val h
  rcases (hF.own m hm).1.2 with ⟨h1, _⟩ | h1 | ⟨b, cap, h1, _⟩
  · rw [h1] at h ⊢; cases h; exact .nilsl
  · rcases hF.wr m hm with h2 | h2 | h2
    · rw [h1, h2] at h ⊢
      cases h with
      | slE hc => exact .slE hc
      | slC hx => exact absurd rfl hx
    · rw [h1] at h2; exact absurd rfl h2
    · exact absurd h2 hsz
  · rw [h1] at h ⊢
    cases h with
    | ref a b c => exact .ref a b c
theorem Free.agg {r : List AV} (h : ∀ c ∈ r, Free c) : Free (.agg r) := fun σ w σ' w' val hv => by
  cases hv with
  | agg hl hi hr => exact .agg hl hi fun i c hc => h c (List.mem_of_getElem? hc) σ w σ' w' _ (hr i c hc)
theorem Free.tup {r : List AV} (h : ∀ c ∈ r, Free c) : Free (.tup r) := fun σ w σ' w' val hv => by
  cases hv with
  | tup hl hr => exact .tup hl fun i c hc => h c (List.mem_of_getElem? hc) σ w σ' w' _ (hr i c hc)
mutual
theorem LvF.free {tI tF : TypeId} : ∀ {f : Fm} {r : List AV} {L : List OwnR}, LvF tI tF f r L → (∀ m ∈ L, Free m.v) → (∀ c ∈ r, Free c) ∧ ∀ m ∈ L, ∀ c ∈ m.rows.flatten, Free c
  | _, _, _, .mk (sc := sc) (rows := rows) h, hL => by
    obtain ⟨k1, k2⟩ := h.free fun m hm => hL m (List.mem_cons_of_mem _ (List.mem_cons_of_mem _ hm))
    have h1 := hL _ (List.mem_cons_self ..)
    have h2 := hL _ (List.mem_cons_of_mem _ (List.mem_cons_self ..))
    refine ⟨fun c hc => ?_, fun m hm c hc => ?_⟩
    · simp only [List.mem_cons, List.not_mem_nil, or_false] at hc
      rcases hc with rfl | rfl | rfl | rfl | rfl
      · exact .int _ _
      · exact .str _
      · exact .int _ _
      · exact h1
      · exact h2
    · rcases List.mem_cons.1 hm with rfl | hm
      · obtain ⟨i, hi⟩ := List.mem_iff_getElem?.1 hc
        obtain ⟨n, rfl⟩ := (rws_int sc).2.2 i c hi
        exact .int _ _
      · rcases List.mem_cons.1 hm with rfl | hm
        · exact k1 c hc
        · exact k2 m hm c hc
theorem LvL.free {tI tF : TypeId} : ∀ {fs : List Fm} {rs : List (List AV)} {L : List OwnR}, LvL tI tF fs rs L → (∀ m ∈ L, Free m.v) → (∀ c ∈ rs.flatten, Free c) ∧ ∀ m ∈ L, ∀ c ∈ m.rows.flatten, Free c
  | _, _, _, .nil, _ => ⟨(fun c h => by cases h), (fun m h => by cases h)⟩
  | _, _, _, .cons h t, hL => by
    obtain ⟨a1, a2⟩ := h.free fun m hm => hL m (List.mem_append_left _ hm)
    obtain ⟨b1, b2⟩ := t.free fun m hm => hL m (List.mem_append_right _ hm)
    refine ⟨fun c hc => ?_, fun m hm => ?_⟩
    · rw [List.flatten_cons] at hc
      rcases List.mem_append.1 hc with hc | hc
      · exact a1 c hc
      · exact b1 c hc
    · rcases List.mem_append.1 hm with hm | hm
      · exact a2 m hm
      · exact b2 m hm
end
/-- σ, and the slices L of σ1. -/
noncomputable def joinS (σ σ1 : Sto) (L : List OwnR) : Sto := ⟨σ.var, fun b => (σ.own b).or (@ite _ (∃ m ∈ L, m.v.blk = some b) (Classical.propDecidable _) (σ1.own b) none)⟩
theorem borrow {P : Program} {f : FuncId} {args as : List AV} {tI tF : TypeId} {d : Fm} {R : List AV → AV} {τ σ : Sto} {bs : List (Nat × Ent)} {ms : List OwnR} {T : Nat → AV} {dst : Option Tmp} {K : AS → Prop} (hR : ∀ row, (∀ c ∈ row, Free c) → Free (R row)) (hF : Fx τ σ bs ms)
    (hC : Ctr P f as sto00 fun r' σ' => ∃ (τ' : Sto) (row : List AV) (L : List OwnR), r' = R row ∧ LvF tI tF d row L ∧ Tau (strip sto00 []) [] τ' ∧ Fx τ' σ' [] L) (hsz : ∀ row L, LvF tI tF d row L → ∀ m ∈ L, m.sz ≠ 17) (hw : WkL σ sto00 args as)
    (hK : ∀ row L σ', LvF tI tF d row L → Fx τ σ' bs (L ++ ms) → K (AS.put ⟨T, σ'⟩ dst (R row))) : aCall P (.fn f []) args ⟨T, σ⟩ dst K := by
  show Ctr P f (args ++ []) σ _
  rw [List.append_nil]
  refine ⟨hC.1, fun w cargs hs htb hl hr => ?_⟩
  refine Calls.mono (hC.2 w cargs (sto00_sim w) (htb.drop fun _ _ => ⟨rfl, rfl⟩) (by rw [hl, hw.length]) (fun i b hb => ?_)) ?_
  · obtain ⟨a, ha, h1, _⟩ := hw.get i b hb
    exact (h1 w _ hs (hr i a ha)).2.1
  · rintro e w' ⟨v', r, σ1, rfl, hst, hsim, hrv, τ1, row, L, rfl, hLv, _, hG⟩
    have hfree := hLv.free fun m hm => Free.own hG hm (hsz _ _ hLv m hm)
    have hsame : ∀ b, b < w.heap.size → w'.heap[b]? = w.heap[b]? ∧ σ1.own b = none := fun b hb => ⟨(hst.dead b hb ⟨rfl, rfl⟩).1, (hst.dead b hb ⟨rfl, rfl⟩).2.2⟩
    have hold : ∀ b e, σ.own b = some e → b < w.heap.size := fun b e he => (hs.own b e he).lt
    have hst2 : Step σ w (joinS σ σ1 L) w' := ⟨hst.os, hst.tape, hst.output, hst.size, fun b hb hd => ⟨(hsame b hb).1, hd.1, by
      simp only [joinS]
      rw [hd.2, (hsame b hb).2]
      split <;> rfl⟩⟩
    have hsub : Sub σ (joinS σ σ1 L) := ⟨fun b e h => h, fun b e h => by simp only [joinS]; rw [h]; rfl⟩
    have hnew : ∀ m ∈ L, ∀ b, m.v.blk = some b → σ.own b = none ∧ (joinS σ σ1 L).own b = σ1.own b := fun m hm b hb => by
      have hn : σ.own b = none := by
        cases he : σ.own b with
        | none => rfl
        | some e =>
          exfalso
          have h1 := (hsame b (hold b e he)).2
          rcases (hG.own m hm).1.2 with ⟨h2, _⟩ | h2 | ⟨b', cap, h2, h3⟩
          · rw [h2] at hb; cases hb
          · rw [h2] at hb; cases hb
          · rw [h2] at hb; injection hb with hb; subst hb; rw [h1] at h3; cases h3
      refine ⟨hn, ?_⟩
      simp only [joinS]
      rw [hn, if_pos ⟨m, hm, hb⟩]; rfl
    have hsim2 : Sim (joinS σ σ1 L) w' := by
      refine ⟨fun b e hb => ?_, fun b e hb => ?_⟩
      · obtain ⟨v1, v2, v3⟩ := hs.var b e hb
        refine ⟨v1.step hst2 (hsame b v1.lt).1, v2, ?_⟩
        simp only [joinS]
        rw [v3, (hsame b v1.lt).2]
        split <;> rfl
      · cases he : σ.own b with
        | some e2 =>
          have : (joinS σ σ1 L).own b = some e2 := hsub.own b e2 he
          rw [this] at hb
          injection hb with hb
          subst hb
          have := hs.own b e2 he
          exact this.step hst2 (hsame b this.lt).1
        | none =>
          simp only [joinS] at hb
          rw [he] at hb
          by_cases hm : ∃ m ∈ L, m.v.blk = some b
          · rw [if_pos hm] at hb
            have hb1 : σ1.own b = some e := hb
            obtain ⟨cs, h1, h2, h3, h4⟩ := hsim.own b e hb1
            obtain ⟨m, hml, hmb⟩ := hm
            refine ⟨cs, h1, h2, h3, fun i c hic => ⟨(h4 i c hic).1, ?_⟩⟩
            rcases (hG.own m hml).1.2 with ⟨q2, _⟩ | q2 | ⟨b', cap, q2, q3⟩
            · rw [q2] at hmb; cases hmb
            · rw [q2] at hmb; cases hmb
            · rw [q2] at hmb; injection hmb with hmb; subst hmb
              rw [hb1] at q3
              injection q3 with q3
              subst q3
              exact hfree.2 m hml c (List.mem_of_getElem? hic) _ _ _ _ _ (h4 i c hic).2
          · rw [if_neg hm] at hb; cases hb
    refine ⟨v', R row, joinS σ σ1 L, rfl, hst2, hsim2, hR row hfree.1 _ _ _ _ _ hrv, hK row L _ hLv ?_⟩
    refine ⟨hF.sub.trans hsub, fun p hp => hF.var p hp, hF.nd, fun m hm => ?_, ?_, fun m hm => ?_⟩
    · rcases List.mem_append.1 hm with hm | hm
      · obtain ⟨h1, h2⟩ := (hG.own m hm).1
        refine ⟨⟨h1, h2.imp id (Or.imp id fun ⟨b, cap, h3, h4⟩ => ⟨b, cap, h3, by rw [(hnew m hm b (by rw [h3]; rfl)).2]; exact h4⟩)⟩, fun b hb => ?_⟩
        cases ht : τ.own b with
        | none => rfl
        | some e => have := hF.sub.own b e ht; rw [(hnew m hm b hb).1] at this; cases this
      · exact (hF.own m hm).sub hsub
    · rw [List.pairwise_append]
      refine ⟨hG.sep, hF.sep, fun m hm n hn => ?_⟩
      cases hb : m.v.blk with
      | none => exact .inl hb
      | some b =>
        refine .inr (fun he => ?_)
        have h1 := (hnew m hm b hb).1
        rcases (hF.own n hn).1.2 with ⟨h2, _⟩ | h2 | ⟨b', cap, h2, h3⟩
        · rw [hb, h2] at he; cases he
        · rw [hb, h2] at he; cases he
        · rw [hb, h2] at he; injection he with he; subst he; rw [h1] at h3; cases h3
    · rcases List.mem_append.1 hm with hm | hm
      · exact hG.wr m hm
      · exact hF.wr m hm
end Go.Proofs.Shadow
