/- Renaming: what both sides compute (beside the chain of Q). -/
import Derived.Test.YtjanllllgiehfaaQi
set_option linter.unusedVariables false
set_option linter.unusedSimpArgs false
set_option maxRecDepth 100000
open Go Go.Proofs Go.Proofs.Shadow
namespace Go.Proofs.SA
theorem szMk (k : Int) (s : ByteArray) (n : Int) (sc : List Int) (ks : List Fm) : (Fm.mk k s n sc ks).sz = s.size + sc.length + ks.length + sumL Fm.sz ks := by rw [Fm.sz_eq]; rfl
mutual
/-- Every name x becomes y. -/
def renF (x y : ByteArray) : Fm → Fm
  | .mk k s n sc ks => .mk k (if k = 1 ∧ s = x then y else s) n sc (renFL x y ks)
def renFL (x y : ByteArray) : List Fm → List Fm
  | [] => []
  | f :: fs => renF x y f :: renFL x y fs
end
theorem renL_eq (x y : ByteArray) : ∀ ks, renFL x y ks = ks.map (renF x y)
  | [] => rfl
  | f :: fs => by rw [renFL, renL_eq x y fs]; rfl
theorem ren_eq (x y : ByteArray) (f : Fm) : renF x y f = .mk f.kind (if f.kind = 1 ∧ f.name = x then y else f.name) f.num f.sc (f.kids.map (renF x y)) := by
  cases f; rw [renF, renL_eq]; rfl
theorem renamed_eq (x y : ByteArray) : ∀ (f : Fm), f.sz < 1000000000 → impl_renamed f x y = some (renF x y f) := by
  intro f
  induction f using Fm.ind with
  | h f ih =>
    intro hf
    have hk := kids_lt hf
    rw [impl_renamed, slices_Clone_int_int, lcat_ok (by simp only [List.length_nil]; omega), bsm]
    have hn : impl_named f x = some (decide (f.kind = 1) && decide (f.name = x)) := rfl
    rw [hn, bsm]
    generalize hnm : (if f.kind = 1 ∧ f.name = x then y else f.name) = nm
    have e : (if (decide (f.kind = 1) && decide (f.name = x)) = true then pure y else pure f.name : Option ByteArray) = some nm := by
      rw [← hnm]
      by_cases h1 : f.kind = 1 <;> by_cases h2 : f.name = x <;> simp [h1, h2]
    rw [e, bsm, List.nil_append]
    have key : ∀ n (i : Nat), i + n = f.kids.length → impl_renamed_l0 f x y f.sc nm ((f.kids.take i).map (renF x y)) i = some (f.kids.map (renF x y)) := by
      intro n
      induction n with
      | zero =>
        intro i hi
        rw [impl_renamed_l0, if_neg (by omega), show i = f.kids.length by omega, List.take_length]
        rfl
      | succ n ihn =>
        intro i hi
        have hil : i < f.kids.length := by omega
        rw [impl_renamed_l0, if_pos (by omega), idx_nat _ i hil, bsm]
        rw [ih _ (List.getElem_mem _) (by have := Fm.sz_kid (List.getElem_mem hil); omega), bsm]
        rw [lcat_ok (by simp only [List.length_map, List.length_take, List.length_cons, List.length_nil]; omega), bsm]
        rw [wrap_nat (by omega)]
        have := ihn (i + 1) (by omega)
        rw [List.take_succ_eq_append_getElem hil, List.map_append] at this
        exact this
    have := key f.kids.length 0 (by omega)
    simp only [List.take_zero, List.map_nil] at this
    have e0 : ((0 : Nat) : Int) = 0 := rfl
    rw [e0] at this
    rw [this, bsm, ren_eq, hnm]; rfl
theorem l9_eq (x y : ByteArray) : ∀ (f : Fm) (b : Bool), f.sz < 1000000000 → spec_l9Rename f x y false b = some (renF x y f) := by
  intro f
  induction f using Fm.ind with
  | h f ih =>
    intro b hf
    have hk := kids_lt hf
    rw [spec_l9Rename, lcat_ok (by simp only [List.length_nil]; omega), bsm, psm, bsm]
    generalize hnm : (if f.kind = 1 ∧ f.name = x then y else f.name) = nm
    have e : ((if (decide (f.kind = 1) && decide (f.name = x)) = true then (pure (b || (!false)) >>= fun x38 => pure x38) else pure false : Option Bool) >>= fun x39 => (if x39 = true then pure y else pure f.name : Option ByteArray)) = some nm := by
      rw [← hnm]
      by_cases h1 : f.kind = 1 <;> by_cases h2 : f.name = x <;> simp [h1, h2]
    have key : ∀ (c : Bool) n (i : Nat), i + n = f.kids.length → spec_l9Rename_l0 f x y false f.sc nm c ((f.kids.take i).map (renF x y)) i = some (f.kids.map (renF x y)) := by
      intro c n
      induction n with
      | zero =>
        intro i hi
        rw [spec_l9Rename_l0, if_neg (by omega), show i = f.kids.length by omega, List.take_length]
        rfl
      | succ n ihn =>
        intro i hi
        have hil : i < f.kids.length := by omega
        rw [spec_l9Rename_l0, if_pos (by omega), idx_nat _ i hil, bsm]
        rw [ih _ (List.getElem_mem _) c (by have := Fm.sz_kid (List.getElem_mem hil); omega), bsm]
        rw [lcat_ok (by simp only [List.length_map, List.length_take, List.length_cons, List.length_nil]; omega), bsm]
        rw [wrap_nat (by omega)]
        have := ihn (i + 1) (by omega)
        rw [List.take_succ_eq_append_getElem hil, List.map_append] at this
        exact this
    have key0 : ∀ c, spec_l9Rename_l0 f x y false f.sc nm c [] 0 = some (f.kids.map (renF x y)) := fun c => by
      have := key c f.kids.length 0 (by omega)
      simp only [List.take_zero, List.map_nil] at this
      exact this
    rw [List.nil_append]
    have hb : ∀ {β : Type} (k : ByteArray → Option β), (((if (decide (f.kind = 1) && decide (f.name = x)) = true then (pure (b || (!false)) >>= fun x38 => pure x38) else pure false : Option Bool) >>= fun x39 => (if x39 = true then pure y else pure f.name : Option ByteArray) >>= k)) = k nm := by
      intro β k
      rw [← bind_assoc, e, bsm]
    rw [hb]
    have g1 : Tot (if (f.kids.length : Int) > 0 then (idx f.kids 0 >>= fun x49 => pure (decide (x49.kind = 1))) else pure false : Option Bool) fun v => v = true → (f.kids.length : Int) > 0 := by
      refine Tot.ite (fun h => Tot.bind (idx_tot (by omega) (by omega)) fun _ _ => Tot.pure fun _ => h) (fun _ => Tot.pure fun h => by cases h)
    obtain ⟨v1, hv1, hp1⟩ := g1
    rw [hv1, bsm]
    have g2 : Tot (if v1 = true then (idx f.kids 0 >>= fun x57 => pure (decide (x57.name = (ByteArray.mk #[114, 117, 108, 101, 115])))) else pure false : Option Bool) fun _ => True := by
      refine Tot.ite (fun h => Tot.bind (idx_tot (by omega) (by have := hp1 h; omega)) fun _ _ => Tot.pure trivial) (fun _ => Tot.pure trivial)
    obtain ⟨v2, hv2, _⟩ := g2
    rw [hv2, bsm]
    have g3 : Tot (if v2 = true then pure true else pure b : Option Bool) fun _ => True := Tot.ite (fun _ => Tot.pure trivial) (fun _ => Tot.pure trivial)
    obtain ⟨v3, hv3, _⟩ := g3
    rw [hv3, bsm, key0, bsm, ren_eq, hnm]; rfl
theorem sumL_map {α β : Type} (g : β → Nat) (h : α → β) : ∀ l : List α, sumL g (l.map h) = sumL (fun x => g (h x)) l
  | [] => rfl
  | x :: l => by simp only [List.map_cons, sumL]; rw [sumL_map g h l]
theorem sumL_add {α : Type} (g h : α → Nat) : ∀ l : List α, sumL (fun x => g x + h x) l = sumL g l + sumL h l
  | [] => rfl
  | x :: l => by simp only [sumL]; rw [sumL_add g h l]; omega
theorem sumL_mul {α : Type} (c : Nat) (g : α → Nat) : ∀ l : List α, sumL (fun x => c * g x) l = c * sumL g l
  | [] => rfl
  | x :: l => by simp only [sumL]; rw [sumL_mul c g l, Nat.mul_add]
theorem ren_sz (a b : ByteArray) (f : Fm) : (renF a b f).sz ≤ f.sz + b.size * f.nodes := by
  induction f using Fm.ind with
  | h f ih =>
    rw [ren_eq, szMk, Fm.sz_eq f, Fm.nodes_eq f, List.length_map, sumL_map, Nat.mul_add]
    have h1 : sumL (fun x => (renF a b x).sz) f.kids ≤ sumL (fun x => Fm.sz x + b.size * Fm.nodes x) f.kids := sumL_mono _ _ _ ih
    rw [sumL_add, sumL_mul] at h1
    have h2 : (if f.kind = 1 ∧ f.name = a then b else f.name).size ≤ f.name.size + b.size := by split <;> omega
    omega
def fm0 : Fm := Fm.mk 0 (ByteArray.mk #[]) 0 [] []
noncomputable def rnm (f : Fm) (a b : ByteArray) : Fm × Bool := @ite _ (FV f ∧ NV a ∧ NV b) (Classical.propDecidable _) (renF a b f, true) (fm0, false)
theorem rnm_pos {f : Fm} {a b : ByteArray} (h : FV f ∧ NV a ∧ NV b) : rnm f a b = (renF a b f, true) := by unfold rnm; rw [if_pos h]
theorem rnm_neg {f : Fm} {a b : ByteArray} (h : ¬ (FV f ∧ NV a ∧ NV b)) : rnm f a b = (fm0, false) := by unfold rnm; rw [if_neg h]
theorem g_not {b1 : Bool} {P Q : Prop} {o : Option Bool} (h1 : b1 = true ↔ P) (ho : Tot o fun b => b = true ↔ Q) : Tot (if (!b1) = true then pure true else (o >>= fun x => pure (!x)) : Option Bool) fun b => b = true ↔ ¬ (P ∧ Q) := by
  refine Tot.ite (fun h => ⟨_, rfl, fun _ hp => ?_, fun _ => rfl⟩) (fun h => Tot.bind ho fun b hb => ⟨_, rfl, ?_⟩)
  · rw [h1.2 hp.1] at h; cases h
  · have hp : P := h1.1 (by simpa using h)
    cases b
    · exact ⟨fun _ hpq => (by have := hb.2 hpq.2; cases this), fun _ => rfl⟩
    · exact ⟨fun h => (by cases h), fun hn => absurd ⟨hp, hb.1 rfl⟩ hn⟩
theorem g_or {b1 : Bool} {P Q : Prop} {o : Option Bool} (h1 : b1 = true ↔ ¬ P) (ho : Tot o fun b => b = true ↔ Q) : Tot (if b1 = true then pure true else (o >>= fun x => pure (!x)) : Option Bool) fun b => b = true ↔ ¬ (P ∧ Q) := by
  refine Tot.ite (fun h => ⟨_, rfl, fun _ hp => h1.1 h hp.1, fun _ => rfl⟩) (fun h => Tot.bind ho fun b hb => ⟨_, rfl, ?_⟩)
  have hp : P := Classical.byContradiction fun hn => h (h1.2 hn)
  cases b
  · exact ⟨fun _ hpq => (by have := hb.2 hpq.2; cases this), fun _ => rfl⟩
  · exact ⟨fun h => (by cases h), fun hn => absurd ⟨hp, hb.1 rfl⟩ hn⟩
theorem rn_impl {f : Fm} {a b : ByteArray} (hf : f.sz < 1000000000) (ha : a.size < 1099511627776) (hb : b.size < 1099511627776) : impl_RenameName f a b = some (rnm f a b) := by
  have : Tot (impl_RenameName f a b) fun r => r = rnm f a b := by
    unfold impl_RenameName
    refine Tot.bind (fv_impl hf) fun b1 h1 => ?_
    refine Tot.bind (g_not h1 (nv_impl (by omega))) fun b2 h2 => ?_
    refine Tot.bind (g_or h2 (nv_impl (by omega))) fun b3 h3 => ?_
    refine Tot.ite (fun h => ⟨_, rfl, ?_⟩) (fun h => ?_)
    · rw [rnm_neg (fun hh => h3.1 h ⟨⟨hh.1, hh.2.1⟩, hh.2.2⟩)]; rfl
    · have hh : (FV f ∧ NV a) ∧ NV b := Classical.byContradiction fun hn => h (h3.2 hn)
      rw [renamed_eq a b f hf]
      exact ⟨_, rfl, by rw [rnm_pos ⟨hh.1.1, hh.1.2, hh.2⟩]⟩
  obtain ⟨r, h1, rfl⟩ := this
  exact h1
theorem rn_spec {f : Fm} {a b : ByteArray} (hf : f.sz < 1000000000) (ha : a.size < 1099511627776) (hb : b.size < 1099511627776) : spec_RenameName f a b = some (rnm f a b) := by
  have : Tot (spec_RenameName f a b) fun r => r = rnm f a b := by
    unfold spec_RenameName
    refine Tot.bind (fv_spec hf) fun b1 h1 => ?_
    refine Tot.bind (g_not h1 (nv_spec _)) fun b2 h2 => ?_
    refine Tot.bind (g_or h2 (nv_spec _)) fun b3 h3 => ?_
    refine Tot.ite (fun h => ⟨_, rfl, ?_⟩) (fun h => ?_)
    · rw [rnm_neg (fun hh => h3.1 h ⟨⟨hh.1, hh.2.1⟩, hh.2.2⟩)]; rfl
    · have hh : (FV f ∧ NV a) ∧ NV b := Classical.byContradiction fun hn => h (h3.2 hn)
      rw [l9_eq a b f false hf]
      exact ⟨_, rfl, by rw [rnm_pos ⟨hh.1.1, hh.1.2, hh.2⟩]⟩
  obtain ⟨r, h1, rfl⟩ := this
  exact h1
end Go.Proofs.SA
