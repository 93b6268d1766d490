/- Both sides' FormValid: the same answers. -/
import Derived.Test.YtilkeeoinbndoaaQs
set_option linter.unusedVariables false
set_option linter.unusedSimpArgs false
set_option maxRecDepth 100000
open Go Go.Proofs Go.Proofs.Shadow
namespace Go.Proofs.SA
theorem kids_lt {f : Fm} (hf : f.sz < 1000000000) : f.kids.length < 1000000000 ∧ f.sc.length < 1000000000 := by
  have := Fm.sz_eq f; omega
def FIs : Nat → Fm → Prop
  | 0, _ => False
  | d + 1, f => (f.kind = 1 ∧ NV f.name ∧ f.num = 0 ∧ SV f.sc ∧ f.kids.length = 0) ∨ (f.kind = 2 ∧ f.name = ByteArray.mk #[] ∧ 0 ≤ f.num ∧ f.num ≤ 999 ∧ f.sc.length = 0 ∧ f.kids.length = 0) ∨ (f.kind = 3 ∧ f.name = ByteArray.mk #[] ∧ f.num = 0 ∧ f.sc.length = 0 ∧ ∀ k ∈ f.kids, FIs d k)
theorem drop_all {p : Fm → Prop} {l : List Fm} {i : Nat} (h : i < l.length) : (∀ k ∈ l.drop i, p k) ↔ p l[i] ∧ ∀ k ∈ l.drop (i + 1), p k := by
  rw [List.drop_eq_getElem_cons h, List.forall_mem_cons]
theorem drop_sum {l : List Fm} {i : Nat} (h : i < l.length) : sumL Fm.nodes (l.drop i) = Fm.nodes l[i] + sumL Fm.nodes (l.drop (i + 1)) := by
  rw [List.drop_eq_getElem_cons h]; rfl
theorem is_spec : ∀ (d : Nat), d < 1000 → ∀ (f : Fm), f.sz < 1000000000 → Tot (spec_l1Is f d) fun b => b = true ↔ FIs d f := by
  intro d
  induction d with
  | zero => intro _ f _; rw [spec_l1Is, if_pos (by rfl)]; exact ⟨_, rfl, fun h => (by cases h), fun h => h.elim⟩
  | succ d ih =>
    intro hd f hf
    have hk := kids_lt hf
    have hz := Fm.sz_eq f
    have loop : ∀ (n : Nat) (i : Nat), i + n = f.kids.length → Tot (spec_l1Is_l0 f ((d + 1 : Nat) : Int) i) fun o => match o with | .inl r => r = false ∧ ¬ ∀ k ∈ f.kids.drop i, FIs d k | .inr _ => ∀ k ∈ f.kids.drop i, FIs d k := by
      intro n
      induction n with
      | zero => intro i h; rw [spec_l1Is_l0, if_neg (by omega), show i = f.kids.length by omega, List.drop_length]; exact ⟨_, rfl, by simp⟩
      | succ n ihn =>
        intro i h
        have hil : i < f.kids.length := by omega
        rw [spec_l1Is_l0, if_pos (by omega), idx_nat _ i hil, bsm]
        rw [wrap_nat (by omega), wrap_id (by omega) (by omega), show ((d + 1 : Nat) : Int) - 1 = (d : Int) by omega]
        have hm : f.kids[i] ∈ f.kids := List.getElem_mem _
        refine Tot.bind (ih (by omega) _ (by have := Fm.sz_kid hm; omega)) fun b hb => ?_
        refine Tot.ite (fun h' => ⟨_, rfl, rfl, fun h2 => ?_⟩) (fun h' => (ihn (i + 1) (by omega)).mono fun o ho => ?_)
        · rw [hb.2 ((drop_all hil).1 h2).1] at h'; cases h'
        · have hb' : FIs d f.kids[i] := hb.1 (by simpa using h')
          cases o with
          | inl r => exact ⟨ho.1, fun h2 => ho.2 ((drop_all hil).1 h2).2⟩
          | inr u => exact (drop_all hil).2 ⟨hb', ho⟩
    rw [spec_l1Is, if_neg (by omega)]
    refine Tot.ite (fun h1 => ?_) (fun h1 => ?_)
    · refine Tot.bind (nv_spec _) fun b hb => ?_
      rw [psm, bsm]
      refine Tot.bind (p := fun b' => b' = true ↔ NV f.name ∧ f.num = 0 ∧ SV f.sc) (Tot.ite (fun h => ?_) (fun h => ⟨_, rfl, fun h => (by cases h), fun hn => absurd ?_ h⟩)) fun b' hb' => ?_
      · simp only [Bool.and_eq_true, decide_eq_true_eq] at h
        exact Tot.bind (sv_spec _) fun b2 hb2 => ⟨_, rfl, fun h' => ⟨hb.1 h.1, h.2, hb2.1 h'⟩, fun h' => hb2.2 h'.2.2⟩
      · simp only [Bool.and_eq_true, decide_eq_true_eq]; exact ⟨hb.2 hn.1, hn.2.1⟩
      · rw [psm, bsm]
        refine ⟨_, rfl, ?_⟩
        simp only [Bool.and_eq_true, decide_eq_true_eq]
        constructor
        · rintro ⟨h2, h3⟩
          have := hb'.1 h2
          exact .inl ⟨h1, this.1, this.2.1, this.2.2, by omega⟩
        · rintro (h | h | h)
          · exact ⟨hb'.2 ⟨h.2.1, h.2.2.1, h.2.2.2.1⟩, by omega⟩
          · omega
          · omega
    refine Tot.ite (fun h2 => ?_) (fun h2 => ?_)
    · simp only [psm, bsm]
      refine ⟨_, rfl, ?_⟩
      simp only [Bool.and_eq_true, decide_eq_true_eq]
      constructor
      · rintro ⟨⟨⟨⟨a, b⟩, c⟩, e⟩, g⟩; exact .inr (.inl ⟨h2, a, b, c, by omega, by omega⟩)
      · rintro (h | h | h)
        · omega
        · exact ⟨⟨⟨⟨h.2.1, h.2.2.1⟩, h.2.2.2.1⟩, by omega⟩, by omega⟩
        · omega
    simp only [psm, bsm]
    refine Tot.ite (fun h3 => ⟨_, rfl, fun h => (by cases h), fun hn => ?_⟩) (fun h3 => ?_)
    · rcases hn with h | h | h
      · exact absurd h.1 h1
      · exact absurd h.1 h2
      · rw [decide_eq_true h.1, decide_eq_true h.2.1, decide_eq_true h.2.2.1, decide_eq_true (show ((f.sc.length : Int) = 0) by have := h.2.2.2.1; omega)] at h3
        exact absurd h3 (by decide)
    · simp only [Bool.or_eq_true, Bool.not_eq_true', decide_eq_false_iff_not, not_or, Classical.not_not] at h3
      have := loop f.kids.length 0 (by omega)
      have e0 : ((0 : Nat) : Int) = 0 := rfl
      rw [e0, List.drop_zero] at this
      refine Tot.bind this fun o ho => ?_
      cases o with
      | inl r =>
        refine ⟨_, rfl, fun h => (by rw [ho.1] at h; cases h), fun hn => ?_⟩
        rcases hn with h | h | h
        · exact absurd h.1 h1
        · exact absurd h.1 h2
        · exact absurd h.2.2.2.2 ho.2
      | inr u => exact ⟨_, rfl, fun _ => .inr (.inr ⟨h3.1.1.1, h3.1.1.2, h3.1.2, by have := h3.2; omega, ho⟩), fun _ => rfl⟩
theorem count_eq : ∀ (f : Fm), f.sz < 1000000000 → spec_l1Count f = some (f.nodes : Int) := by
  intro f
  induction f using Fm.ind with
  | h f ih =>
    intro hf
    have hz := Fm.sz_eq f
    have hc := Fm.nodes_eq f
    have hcl := Fm.nodes_le f
    rw [spec_l1Count]
    have key : ∀ m (i : Nat), i + m = f.kids.length → spec_l1Count_l0 f (1 + sumL Fm.nodes (f.kids.take i) : Int) i = some (f.nodes : Int) := by
      intro m
      induction m with
      | zero =>
        intro i hi
        rw [spec_l1Count_l0, if_neg (by omega), show i = f.kids.length by omega, List.take_length, psome]
        congr 1; omega
      | succ m ihm =>
        intro i hi
        have hil : i < f.kids.length := by omega
        have hs := sumL_take Fm.nodes f.kids i hil
        have hle := sumL_le Fm.nodes f.kids (i + 1)
        rw [spec_l1Count_l0, if_pos (by omega), idx_nat _ i hil, bsome]
        rw [ih _ (List.getElem_mem _) (by have := Fm.sz_kid (List.getElem_mem hil); omega), bsome, wrap_nat (by omega), wrap_id (by omega) (by omega)]
        have := ihm (i + 1) (by omega)
        rw [hs] at this
        rw [← this]
        congr 1
        omega
    have := key f.kids.length 0 (by omega)
    simp only [List.take_zero, sumL] at this
    have e0 : ((0 : Nat) : Int) = 0 := rfl
    have e1 : (1 : Int) + ((0 : Nat) : Int) = 1 := rfl
    rw [e1, e0] at this
    rw [this]; rfl
def FV (f : Fm) : Prop := FIs 40 f ∧ f.nodes ≤ 400
theorem fv_spec {f : Fm} (hf : f.sz < 1000000000) : Tot (spec_FormValid f) fun b => b = true ↔ FV f := by
  unfold spec_FormValid
  refine Tot.bind (is_spec 40 (by omega) f hf) fun b hb => ?_
  refine Tot.bind (p := fun b => b = true ↔ FV f) (Tot.ite (fun h => ?_) (fun h => ⟨_, rfl, fun h => (by cases h), fun hn => absurd (hb.2 hn.1) h⟩)) fun b hb => ⟨_, rfl, hb⟩
  rw [count_eq f hf, bsm]
  refine ⟨_, rfl, ?_⟩
  simp only [decide_eq_true_eq]
  exact ⟨fun h' => ⟨hb.1 h, by omega⟩, fun h' => by have := h'.2; omega⟩
theorem ok_impl : ∀ (f : Fm), f.sz < 1000000000 → ∀ (d : Nat) (a c : Int), a + d = 41 → 1 ≤ a → 0 ≤ c → c ≤ 400 → Tot (impl_formOk f a c) fun r => (r.1 = true ↔ FIs d f ∧ (f.nodes : Int) ≤ c) ∧ (r.1 = true → r.2 = c - f.nodes) := by
  intro f
  induction f using Fm.ind with
  | h f ih =>
    intro hf d a c had ha hc0 hc
    have hk := kids_lt hf
    have hz := Fm.sz_eq f
    have hn := Fm.nodes_eq f
    rw [impl_formOk]
    simp only [psm, bsm]
    rw [wrap_id (a := c - 1) (by omega) (by omega)]
    refine Tot.ite (fun h0 => ⟨_, rfl, ⟨fun h => (by cases h), fun h => ?_⟩, fun h => (by cases h)⟩) (fun h0 => ?_)
    · simp only [Bool.or_eq_true, decide_eq_true_eq] at h0
      rcases h0 with h0 | h0
      · omega
      · obtain rfl : d = 0 := by omega
        exact h.1.elim
    simp only [Bool.or_eq_true, decide_eq_true_eq, not_or] at h0
    obtain ⟨e, rfl⟩ : ∃ e, d = e + 1 := ⟨d - 1, by omega⟩
    have leaf : f.kids.length = 0 → f.nodes = 1 := fun h => by
      rw [hn, List.length_eq_zero_iff.1 h]; rfl
    refine Tot.ite (fun h1 => ?_) (fun h1 => ?_)
    · refine Tot.bind (nv_impl (by omega)) fun b hb => ?_
      refine Tot.bind (p := fun b' => b' = true ↔ NV f.name ∧ f.num = 0 ∧ SV f.sc) (Tot.ite (fun h => ?_) (fun h => ⟨_, rfl, fun h => (by cases h), fun hn => absurd ?_ h⟩)) fun b' hb' => ?_
      · simp only [Bool.and_eq_true, decide_eq_true_eq] at h
        exact Tot.bind (sv_impl (by omega)) fun b2 hb2 => ⟨_, rfl, fun h' => ⟨hb.1 h.1, h.2, hb2.1 h'⟩, fun h' => hb2.2 h'.2.2⟩
      · simp only [Bool.and_eq_true, decide_eq_true_eq]; exact ⟨hb.2 hn.1, hn.2.1⟩
      · refine ⟨_, rfl, ?_⟩
        simp only [Bool.and_eq_true, decide_eq_true_eq]
        refine ⟨⟨?_, ?_⟩, ?_⟩
        · rintro ⟨h2, h3⟩
          have := hb'.1 h2
          have := leaf (by omega)
          exact ⟨.inl ⟨h1, (hb'.1 h2).1, (hb'.1 h2).2.1, (hb'.1 h2).2.2, by omega⟩, by omega⟩
        · rintro ⟨(h | h | h), _⟩
          · exact ⟨hb'.2 ⟨h.2.1, h.2.2.1, h.2.2.2.1⟩, by omega⟩
          · omega
          · omega
        · rintro ⟨h2, h3⟩
          have := leaf (by omega)
          omega
    refine Tot.ite (fun h2 => ?_) (fun h2 => ?_)
    · refine Tot.bind (p := fun b' => b' = true ↔ f.name = ByteArray.mk #[] ∧ 0 ≤ f.num ∧ f.num ≤ 999) (Tot.ite (fun h => ?_) (fun h => ⟨_, rfl, fun h => (by cases h), fun hn => absurd hn.1 h⟩)) fun b' hb' => ?_
      · unfold impl_within
        refine ⟨_, rfl, ?_⟩
        simp only [Bool.and_eq_true, decide_eq_true_eq]
        exact ⟨fun h' => ⟨h, h'.1, h'.2⟩, fun h' => h'.2⟩
      · refine ⟨_, rfl, ?_⟩
        simp only [Bool.and_eq_true, decide_eq_true_eq]
        refine ⟨⟨?_, ?_⟩, ?_⟩
        · rintro ⟨⟨h3, h4⟩, h5⟩
          have := leaf (by omega)
          have h6 := hb'.1 h3
          exact ⟨.inr (.inl ⟨h2, h6.1, h6.2.1, h6.2.2, by omega, by omega⟩), by omega⟩
        · rintro ⟨(h | h | h), _⟩
          · omega
          · exact ⟨⟨hb'.2 ⟨h.2.1, h.2.2.1, h.2.2.2.1⟩, by omega⟩, by omega⟩
          · omega
        · rintro ⟨⟨h3, h4⟩, h5⟩
          have := leaf (by omega)
          omega
    refine Tot.ite (fun h3 => ?_) (fun h3 => ⟨_, rfl, ⟨fun h => (by cases h), fun h => ?_⟩, fun h => (by cases h)⟩)
    · refine Tot.ite (fun h4 => ⟨_, rfl, ⟨fun h => (by cases h), fun h => ?_⟩, fun h => (by cases h)⟩) (fun h4 => ?_)
      · rcases h.1 with h | h | h
        · omega
        · omega
        · rw [decide_eq_true h.2.1, decide_eq_true h.2.2.1, decide_eq_false (show ¬ ((f.sc.length : Int) > 0) by have := h.2.2.2.1; omega)] at h4
          exact absurd h4 (by decide)
      · simp only [Bool.or_eq_true, Bool.not_eq_true', decide_eq_false_iff_not, decide_eq_true_eq, not_or, Classical.not_not] at h4
        have loop : ∀ (n : Nat) (i : Nat) (c : Int), i + n = f.kids.length → 0 ≤ c → c ≤ 400 → Tot (impl_formOk_l0 f a i c) fun o => match o with | .inl r => r.1 = false ∧ ¬ ((∀ k ∈ f.kids.drop i, FIs e k) ∧ (sumL Fm.nodes (f.kids.drop i) : Int) ≤ c) | .inr c' => (∀ k ∈ f.kids.drop i, FIs e k) ∧ (sumL Fm.nodes (f.kids.drop i) : Int) ≤ c ∧ c' = c - sumL Fm.nodes (f.kids.drop i) := by
          intro n
          induction n with
          | zero => intro i c h hc0 hc; rw [impl_formOk_l0, if_neg (by omega), show i = f.kids.length by omega, List.drop_length]; exact ⟨_, rfl, by simp [sumL], by simp [sumL]; omega, by simp [sumL]⟩
          | succ n ihn =>
            intro i c h hc0 hc
            have hil : i < f.kids.length := by omega
            rw [impl_formOk_l0, if_pos (by omega), idx_nat _ i hil, bsm, wrap_nat (by omega), wrap_id (by omega) (by omega)]
            have hm : f.kids[i] ∈ f.kids := List.getElem_mem _
            refine Tot.bind (ih _ hm (by have := Fm.sz_kid hm; omega) e (a + 1) c (by omega) (by omega) hc0 hc) fun r hr => ?_
            have hs := drop_sum hil
            refine Tot.ite (fun h' => ⟨_, rfl, rfl, fun h2 => ?_⟩) (fun h' => ?_)
            · rw [hr.1.2 ⟨((drop_all hil).1 h2.1).1, by have := h2.2; omega⟩] at h'; cases h'
            · have ht : r.1 = true := by simpa using h'
              have h5 := hr.1.1 ht
              have h6 := hr.2 ht
              rw [h6]
              refine (ihn (i + 1) _ (by omega) (by omega) (by omega)).mono fun o ho => ?_
              cases o with
              | inl r => exact ⟨ho.1, fun h2 => ho.2 ⟨((drop_all hil).1 h2.1).2, by have := h2.2; omega⟩⟩
              | inr c' => exact ⟨(drop_all hil).2 ⟨h5.1, ho.1⟩, by have := ho.2.1; omega, by have := ho.2.2; omega⟩
        have := loop f.kids.length 0 (c - 1) (by omega) (by omega) (by omega)
        have e0 : ((0 : Nat) : Int) = 0 := rfl
        rw [e0, List.drop_zero] at this
        refine Tot.bind this fun o ho => ?_
        cases o with
        | inl r =>
          refine ⟨_, rfl, ⟨fun h => (by rw [ho.1] at h; cases h), fun h => ?_⟩, fun h => (by rw [ho.1] at h; cases h)⟩
          rcases h.1 with h7 | h7 | h7
          · omega
          · omega
          · exact absurd ⟨h7.2.2.2.2, by have := h.2; omega⟩ ho.2
        | inr c' => exact ⟨_, rfl, ⟨fun _ => ⟨.inr (.inr ⟨h3, h4.1.1, h4.1.2, by have := h4.2; omega, ho.1⟩), by have := ho.2.1; omega⟩, fun _ => rfl⟩, fun _ => by have := ho.2.2; simp only; omega⟩
    · rcases h.1 with h7 | h7 | h7
      · omega
      · omega
      · omega
theorem fv_impl {f : Fm} (hf : f.sz < 1000000000) : Tot (impl_FormValid f) fun b => b = true ↔ FV f := by
  unfold impl_FormValid
  refine Tot.bind (ok_impl f hf 40 1 400 (by omega) (by omega) (by omega) (by omega)) fun r hr => ⟨_, rfl, ?_⟩
  show r.1 = true ↔ FV f
  rw [hr.1]
  unfold FV
  constructor
  · rintro ⟨h1, h2⟩; exact ⟨h1, by omega⟩
  · rintro ⟨h1, h2⟩; exact ⟨h1, by omega⟩
end Go.Proofs.SA

