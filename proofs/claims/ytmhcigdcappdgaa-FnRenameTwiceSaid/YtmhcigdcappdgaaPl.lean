/- Renaming: its laws. The laws FnRenameName and FnRenameTwice yield true. -/
import Derived.Test.YtmhcigdcappdgaaPj
set_option linter.unusedVariables false
set_option linter.unusedSimpArgs false
set_option maxRecDepth 100000
open Go Go.Proofs Go.Proofs.Shadow
namespace Go.Proofs.SA
theorem sumL_map {α β : Type} (g : β → Nat) (h : α → β) : ∀ l : List α, sumL g (l.map h) = sumL (fun x => g (h x)) l
  | [] => rfl
  | x :: l => by simp only [List.map_cons, sumL]; rw [sumL_map g h l]
theorem sumL_congr {α : Type} {g h : α → Nat} : ∀ l : List α, (∀ x ∈ l, g x = h x) → sumL g l = sumL h l
  | [], _ => rfl
  | x :: l, hh => by simp only [sumL]; rw [hh x (by simp), sumL_congr l (fun y hy => hh y (by simp [hy]))]
theorem sumL_zero {α : Type} {g : α → Nat} : ∀ l : List α, (∀ x ∈ l, g x = 0) → sumL g l = 0
  | [], _ => rfl
  | x :: l, hh => by simp only [sumL]; rw [hh x (by simp), sumL_zero l (fun y hy => hh y (by simp [hy]))]
theorem sumL_add {α : Type} (g h : α → Nat) : ∀ l : List α, sumL (fun x => g x + h x) l = sumL g l + sumL h l
  | [] => rfl
  | x :: l => by simp only [sumL]; rw [sumL_add g h l]; omega
theorem sumL_mul {α : Type} (c : Nat) (g : α → Nat) : ∀ l : List α, sumL (fun x => c * g x) l = c * sumL g l
  | [] => rfl
  | x :: l => by simp only [sumL]; rw [sumL_mul c g l, Nat.mul_add]
theorem ren_nodes (a b : ByteArray) (f : Fm) : (renF a b f).nodes = f.nodes := by
  induction f using Fm.ind with
  | h f ih =>
    rw [ren_eq, Fm.nodes_eq, Fm.nodes_eq f]
    show 1 + sumL Fm.nodes (f.kids.map (renF a b)) = _
    rw [sumL_map, sumL_congr _ ih]
theorem ren_sz (a b : ByteArray) (f : Fm) : (renF a b f).sz ≤ f.sz + b.size * f.nodes := by
  induction f using Fm.ind with
  | h f ih =>
    rw [ren_eq, sz_mk, Fm.sz_eq f, Fm.nodes_eq f, List.length_map, sumL_map, Nat.mul_add]
    have h1 : sumL (fun x => (renF a b x).sz) f.kids ≤ sumL (fun x => Fm.sz x + b.size * Fm.nodes x) f.kids := sumL_mono _ _ _ ih
    rw [sumL_add, sumL_mul] at h1
    have h2 : (if f.kind = 1 ∧ f.name = a then b else f.name).size ≤ f.name.size + b.size := by split <;> omega
    omega
theorem ren_cnt {a b : ByteArray} (hab : a ≠ b) (f : Fm) : (renF a b f).cnt b = f.cnt a + f.cnt b ∧ (renF a b f).cnt a = 0 := by
  induction f using Fm.ind with
  | h f ih =>
    rw [Fm.cnt_eq, Fm.cnt_eq a (renF a b f), Fm.cnt_eq a f, Fm.cnt_eq b f, ren_eq]
    show hit b f.kind (if f.kind = 1 ∧ f.name = a then b else f.name) + sumL (Fm.cnt b) (f.kids.map (renF a b)) = _ ∧ hit a f.kind (if f.kind = 1 ∧ f.name = a then b else f.name) + sumL (Fm.cnt a) (f.kids.map (renF a b)) = 0
    rw [sumL_map, sumL_map, sumL_congr (h := fun x => Fm.cnt a x + Fm.cnt b x) f.kids (fun x hx => (ih x hx).1), sumL_add, sumL_zero f.kids (fun x hx => (ih x hx).2)]
    have h1 : hit b f.kind (if f.kind = 1 ∧ f.name = a then b else f.name) = hit a f.kind f.name + hit b f.kind f.name := by
      unfold hit
      by_cases hk : f.kind = 1
      · by_cases ha : f.name = a
        · have hb : f.name ≠ b := fun h => hab (ha.symm.trans h)
          simp [hk, ha, hab]
        · simp [hk, ha]
      · simp [hk]
    have h2 : hit a f.kind (if f.kind = 1 ∧ f.name = a then b else f.name) = 0 := by
      unfold hit
      by_cases hk : f.kind = 1
      · by_cases ha : f.name = a
        · simp [hk, ha, Ne.symm hab]
        · simp [hk, ha]
      · simp [hk]
    omega
theorem map_id_of {f : Fm → Fm} {l : List Fm} (h : ∀ x ∈ l, f x = x) : l.map f = l := by
  rw [List.map_congr_left h]; simp
theorem ren_self (a : ByteArray) (f : Fm) : renF a a f = f := by
  induction f using Fm.ind with
  | h f ih =>
    rw [ren_eq, map_id_of ih]
    have : (if f.kind = 1 ∧ f.name = a then a else f.name) = f.name := by split <;> simp_all
    rw [this]; cases f; rfl
theorem ren_back (a b : ByteArray) (f : Fm) (h : f.cnt b = 0) : renF b a (renF a b f) = f := by
  induction f using Fm.ind with
  | h f ih =>
    rw [Fm.cnt_eq] at h
    rw [ren_eq a b, ren_eq b a]
    show Fm.mk f.kind (if f.kind = 1 ∧ (if f.kind = 1 ∧ f.name = a then b else f.name) = b then a else (if f.kind = 1 ∧ f.name = a then b else f.name)) f.num f.sc ((f.kids.map (renF a b)).map (renF b a)) = f
    rw [List.map_map, map_id_of (f := renF b a ∘ renF a b) (fun x hx => ih x hx (by have := sumL_mem (Fm.cnt b) f.kids x hx; omega))]
    have hh : ¬ (f.kind = 1 ∧ f.name = b) := fun hc => by unfold hit at h; rw [if_pos hc] at h; omega
    have : (if f.kind = 1 ∧ (if f.kind = 1 ∧ f.name = a then b else f.name) = b then a else (if f.kind = 1 ∧ f.name = a then b else f.name)) = f.name := by
      by_cases h1 : f.kind = 1 ∧ f.name = a
      · rw [if_pos h1, if_pos ⟨h1.1, rfl⟩, h1.2]
      · rw [if_neg h1, if_neg hh]
    rw [this]; cases f; rfl
theorem ren_is {a b : ByteArray} (hb : NV b) : ∀ (d : Nat) (f : Fm), FIs d f → FIs d (renF a b f) := by
  intro d
  induction d with
  | zero => intro f h; exact h.elim
  | succ d ih =>
    intro f h
    rw [ren_eq]
    rcases h with h | h | h
    · refine .inl ⟨h.1, ?_, h.2.2.1, h.2.2.2.1, by show (f.kids.map _).length = 0; rw [List.length_map]; exact h.2.2.2.2⟩
      show NV (if f.kind = 1 ∧ f.name = a then b else f.name)
      split
      · exact hb
      · exact h.2.1
    · refine .inr (.inl ⟨h.1, ?_, h.2.2.1, h.2.2.2.1, h.2.2.2.2.1, by show (f.kids.map _).length = 0; rw [List.length_map]; exact h.2.2.2.2.2⟩)
      show (if f.kind = 1 ∧ f.name = a then b else f.name) = _
      rw [if_neg (by have := h.1; omega)]; exact h.2.1
    · refine .inr (.inr ⟨h.1, ?_, h.2.2.1, h.2.2.2.1, fun k hk => ?_⟩)
      · show (if f.kind = 1 ∧ f.name = a then b else f.name) = _
        rw [if_neg (by have := h.1; omega)]; exact h.2.1
      · have hk' : k ∈ f.kids.map (renF a b) := hk
        obtain ⟨g, hg, rfl⟩ := List.mem_map.1 hk'
        exact ih g (h.2.2.2.2 g hg)
theorem ren_fv {a b : ByteArray} (hb : NV b) {f : Fm} (h : FV f) : FV (renF a b f) := ⟨ren_is hb 40 f h.1, by rw [ren_nodes]; exact h.2⟩
def fm0 : Fm := Fm.mk 0 (ByteArray.mk #[]) 0 [] []
noncomputable def rnm (f : Fm) (a b : ByteArray) : Fm × Bool := @ite _ (FV f ∧ NV a ∧ NV b) (Classical.propDecidable _) (renF a b f, true) (fm0, false)
theorem rnm_pos {f : Fm} {a b : ByteArray} (h : FV f ∧ NV a ∧ NV b) : rnm f a b = (renF a b f, true) := by unfold rnm; rw [if_pos h]
theorem rnm_neg {f : Fm} {a b : ByteArray} (h : ¬ (FV f ∧ NV a ∧ NV b)) : rnm f a b = (fm0, false) := by unfold rnm; rw [if_neg h]
theorem g_not {b1 : Bool} {P Q : Prop} {o : Option Bool} (h1 : b1 = true ↔ P) (ho : Tot o fun b => b = true ↔ Q) : Tot (if (!b1) = true then pure true else (o >>= fun x => pure (!x)) : Option Bool) fun b => b = true ↔ ¬ (P ∧ Q) := by
  refine Tot.ite (fun h => ⟨_, rfl, fun _ hp => ?_, fun _ => rfl⟩) (fun h => Tot.bind ho fun b hb => ⟨_, rfl, ?_⟩)
  · rw [h1.2 hp.1] at h; cases h
  · have hp : P := h1.1 (by simpa using h)
    cases b
    · exact ⟨fun _ hpq => (by have := hb.2 hpq.2; cases this), fun _ => rfl⟩
    · exact ⟨fun h => (by cases h), fun hn => absurd ⟨hp, hb.1 rfl⟩ hn⟩
theorem g_or {b1 : Bool} {P Q : Prop} {o : Option Bool} (h1 : b1 = true ↔ ¬ P) (ho : Tot o fun b => b = true ↔ Q) : Tot (if b1 = true then pure true else (o >>= fun x => pure (!x)) : Option Bool) fun b => b = true ↔ ¬ (P ∧ Q) := by
  refine Tot.ite (fun h => ⟨_, rfl, fun _ hp => h1.1 h hp.1, fun _ => rfl⟩) (fun h => Tot.bind ho fun b hb => ⟨_, rfl, ?_⟩)
  have hp : P := Classical.byContradiction fun hn => h (h1.2 hn)
  cases b
  · exact ⟨fun _ hpq => (by have := hb.2 hpq.2; cases this), fun _ => rfl⟩
  · exact ⟨fun h => (by cases h), fun hn => absurd ⟨hp, hb.1 rfl⟩ hn⟩
theorem rn_impl {f : Fm} {a b : ByteArray} (hf : f.sz < 1000000000) (ha : a.size < 1000) (hb : b.size < 1000) : impl_RenameName f a b = some (rnm f a b) := by
  have : Tot (impl_RenameName f a b) fun r => r = rnm f a b := by
    unfold impl_RenameName
    refine Tot.bind (fv_impl hf) fun b1 h1 => ?_
    refine Tot.bind (g_not h1 (nv_impl (by omega))) fun b2 h2 => ?_
    refine Tot.bind (g_or h2 (nv_impl (by omega))) fun b3 h3 => ?_
    refine Tot.ite (fun h => ⟨_, rfl, ?_⟩) (fun h => ?_)
    · rw [rnm_neg (fun hh => h3.1 h ⟨⟨hh.1, hh.2.1⟩, hh.2.2⟩)]; rfl
    · have hh : (FV f ∧ NV a) ∧ NV b := Classical.byContradiction fun hn => h (h3.2 hn)
      rw [renamed_eq a b f hf]
      exact ⟨_, rfl, by rw [rnm_pos ⟨hh.1.1, hh.1.2, hh.2⟩]⟩
  obtain ⟨r, h1, rfl⟩ := this
  exact h1
theorem rn_spec {f : Fm} {a b : ByteArray} (hf : f.sz < 1000000000) (ha : a.size < 1000) (hb : b.size < 1000) : spec_RenameName f a b = some (rnm f a b) := by
  have : Tot (spec_RenameName f a b) fun r => r = rnm f a b := by
    unfold spec_RenameName
    refine Tot.bind (fv_spec hf) fun b1 h1 => ?_
    refine Tot.bind (g_not h1 (nv_spec _)) fun b2 h2 => ?_
    refine Tot.bind (g_or h2 (nv_spec _)) fun b3 h3 => ?_
    refine Tot.ite (fun h => ⟨_, rfl, ?_⟩) (fun h => ?_)
    · rw [rnm_neg (fun hh => h3.1 h ⟨⟨hh.1, hh.2.1⟩, hh.2.2⟩)]; rfl
    · have hh : (FV f ∧ NV a) ∧ NV b := Classical.byContradiction fun hn => h (h3.2 hn)
      rw [l9_eq a b f false hf]
      exact ⟨_, rfl, by rw [rnm_pos ⟨hh.1.1, hh.1.2, hh.2⟩]⟩
  obtain ⟨r, h1, rfl⟩ := this
  exact h1
theorem rnm_sz {f : Fm} {a b : ByteArray} (hf : f.sz ≤ 1000100) (hb : b.size ≤ 100) : (rnm f a b).1.sz < 1000000000 := by
  by_cases h : FV f ∧ NV a ∧ NV b
  · rw [rnm_pos h]
    have h1 := ren_sz a b f
    have h2 := Fm.nodes_le f
    have h3 : b.size * f.nodes ≤ 100 * 1000101 := Nat.mul_le_mul hb (by omega)
    simp only; omega
  · rw [rnm_neg h]; show (Fm.mk 0 (ByteArray.mk #[]) 0 [] []).sz < _; rw [sz_mk]; show 0 + 0 + 0 + 0 < _; omega
theorem fnRenameName_true {l : List Int} (h : ∀ x ∈ l, 0 ≤ x ∧ x < 256) : laws_FnRenameName l = some true := by
  unfold laws_FnRenameName
  by_cases hl : (l.length : Int) > 1048576
  · rw [if_pos hl]; rfl
  rw [if_neg hl]
  obtain ⟨d, hd, hsz, ha, hb⟩ := drawRename_tot h
  obtain ⟨f, a, b⟩ := d
  simp only at hsz ha hb
  rw [hd, bsm]
  dsimp only
  rw [rn_impl (by omega) (by omega) (by omega), bsm, rn_spec (by omega) (by omega) (by omega), bsm]
  have hz := rnm_sz (a := a) hsz hb
  rw [same_self _ hz, bsm, psm, bsm]
  by_cases hv : FV f ∧ NV a ∧ NV b
  · rw [rnm_pos hv] at hz ⊢
    simp only at hz ⊢
    simp only [psm, bsm, beq_self_eq_true, Bool.not_true, Bool.or_self, Bool.or_false, if_neg Bool.false_ne_true]
    rw [implCount_eq f a (by omega), bsm, implCount_eq f b (by omega), bsm]
    by_cases hab : a = b
    · rw [if_pos hab]
      subst hab
      rw [ren_self, same_self f (by omega)]; rfl
    · rw [if_neg hab, implCount_eq _ b hz, bsm, implCount_eq _ a hz]
      have hc := ren_cnt hab f
      have c1 := Fm.cnt_le a f
      have c2 := Fm.cnt_le b f
      rw [hc.1, hc.2, if_pos (by rw [wrap_id (by omega) (by omega)]; omega)]
      simp only [psm, bsm]
      rw [if_pos (by rfl), formSize_eq _ hz, bsm, formSize_eq f (by omega), bsm, ren_nodes, decide_eq_true rfl]
      rfl
  · rw [rnm_neg hv] at hz ⊢
    simp only [psm, bsm, beq_self_eq_true, Bool.not_true, Bool.not_false, Bool.or_self, Bool.or_true, if_true]
    rfl
theorem fnRenameTwice_true {l : List Int} (h : ∀ x ∈ l, 0 ≤ x ∧ x < 256) : laws_FnRenameTwice l = some true := by
  unfold laws_FnRenameTwice
  by_cases hl : (l.length : Int) > 1048576
  · rw [if_pos hl]; rfl
  rw [if_neg hl]
  obtain ⟨d, hd, hsz, ha, hb⟩ := drawRename_tot h
  obtain ⟨f, a, b⟩ := d
  simp only at hsz ha hb
  rw [hd, bsm]
  dsimp only
  rw [rn_impl (by omega) (by omega) (by omega), bsm, rn_spec (by omega) (by omega) (by omega), bsm]
  have hz := rnm_sz (a := a) hsz hb
  rw [same_self _ hz, bsm, psm, bsm]
  by_cases hv : FV f ∧ NV a ∧ NV b
  · rw [rnm_pos hv] at hz ⊢
    simp only at hz ⊢
    simp only [psm, bsm, beq_self_eq_true, Bool.not_true, Bool.or_self, Bool.or_false, if_neg Bool.false_ne_true]
    rw [implCount_eq f b (by omega), bsm]
    simp only [bsm]
    by_cases h0 : f.cnt b = 0
    · rw [decide_eq_false (by omega), if_neg (by decide), rn_impl hz (by omega) (by omega), bsm, rnm_pos ⟨ren_fv hv.2.2 hv.1, hv.2.2, hv.2.1⟩]
      simp only [if_true]
      rw [ren_back a b f h0, same_self f (by omega)]; rfl
    · rw [decide_eq_true (by omega), if_pos rfl]; rfl
  · rw [rnm_neg hv] at hz ⊢
    simp only [psm, bsm, beq_self_eq_true, Bool.not_true, Bool.not_false, Bool.or_self, Bool.or_true, if_true]
    rfl
end Go.Proofs.SA
