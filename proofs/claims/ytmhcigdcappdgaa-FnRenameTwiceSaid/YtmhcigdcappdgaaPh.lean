/- Renaming: what both sides compute. Imports the plain functions n1D. -/
import Derived.Test.YtmhcigdcappdgaaPg
import Derived.Test.YtmhcigdcappdgaaPk
set_option linter.unusedVariables false
set_option linter.unusedSimpArgs false
set_option maxRecDepth 100000
open Go Go.Proofs Go.Proofs.Shadow
namespace Go.Proofs.SA
theorem bsm {α β : Type} (a : α) (f : α → Option β) : ((some a : Option α) >>= f) = f a := rfl
theorem psm {α : Type} (a : α) : (pure a : Option α) = some a := rfl
mutual
/-- Every name x becomes y. -/
def renF (x y : ByteArray) : Fm → Fm
  | .mk k s n sc ks => .mk k (if k = 1 ∧ s = x then y else s) n sc (renFL x y ks)
def renFL (x y : ByteArray) : List Fm → List Fm
  | [] => []
  | f :: fs => renF x y f :: renFL x y fs
end
theorem renL_eq (x y : ByteArray) : ∀ ks, renFL x y ks = ks.map (renF x y)
  | [] => rfl
  | f :: fs => by rw [renFL, renL_eq x y fs]; rfl
theorem ren_eq (x y : ByteArray) (f : Fm) : renF x y f = .mk f.kind (if f.kind = 1 ∧ f.name = x then y else f.name) f.num f.sc (f.kids.map (renF x y)) := by
  cases f; rw [renF, renL_eq]; rfl
theorem kids_lt {f : Fm} (hf : f.sz < 1000000000) : f.kids.length < 1000000000 ∧ f.sc.length < 1000000000 := by
  have := Fm.sz_eq f; omega
theorem renamed_eq (x y : ByteArray) : ∀ (f : Fm), f.sz < 1000000000 → impl_renamed f x y = some (renF x y f) := by
  intro f
  induction f using Fm.ind with
  | h f ih =>
    intro hf
    have hk := kids_lt hf
    rw [impl_renamed, slices_Clone_int_int, lcat_ok (by simp only [List.length_nil]; omega), bsm]
    have hn : impl_named f x = some (decide (f.kind = 1) && decide (f.name = x)) := rfl
    rw [hn, bsm]
    generalize hnm : (if f.kind = 1 ∧ f.name = x then y else f.name) = nm
    have e : (if (decide (f.kind = 1) && decide (f.name = x)) = true then pure y else pure f.name : Option ByteArray) = some nm := by
      rw [← hnm]
      by_cases h1 : f.kind = 1 <;> by_cases h2 : f.name = x <;> simp [h1, h2]
    rw [e, bsm, List.nil_append]
    have key : ∀ n (i : Nat), i + n = f.kids.length → impl_renamed_l0 f x y f.sc nm ((f.kids.take i).map (renF x y)) i = some (f.kids.map (renF x y)) := by
      intro n
      induction n with
      | zero =>
        intro i hi
        rw [impl_renamed_l0, if_neg (by omega), show i = f.kids.length by omega, List.take_length]
        rfl
      | succ n ihn =>
        intro i hi
        have hil : i < f.kids.length := by omega
        rw [impl_renamed_l0, if_pos (by omega), idx_nat _ i hil, bsm]
        rw [ih _ (List.getElem_mem _) (by have := Fm.sz_kid (List.getElem_mem hil); omega), bsm]
        rw [lcat_ok (by simp only [List.length_map, List.length_take, List.length_cons, List.length_nil]; omega), bsm]
        rw [wrap_nat (by omega)]
        have := ihn (i + 1) (by omega)
        rw [List.take_succ_eq_append_getElem hil, List.map_append] at this
        exact this
    have := key f.kids.length 0 (by omega)
    simp only [List.take_zero, List.map_nil] at this
    have e0 : ((0 : Nat) : Int) = 0 := rfl
    rw [e0] at this
    rw [this, bsm, ren_eq, hnm]; rfl
theorem l9_eq (x y : ByteArray) : ∀ (f : Fm) (b : Bool), f.sz < 1000000000 → spec_l9Rename f x y false b = some (renF x y f) := by
  intro f
  induction f using Fm.ind with
  | h f ih =>
    intro b hf
    have hk := kids_lt hf
    rw [spec_l9Rename, lcat_ok (by simp only [List.length_nil]; omega), bsm, psm, bsm]
    generalize hnm : (if f.kind = 1 ∧ f.name = x then y else f.name) = nm
    have e : ((if (decide (f.kind = 1) && decide (f.name = x)) = true then (pure (b || (!false)) >>= fun x38 => pure x38) else pure false : Option Bool) >>= fun x39 => (if x39 = true then pure y else pure f.name : Option ByteArray)) = some nm := by
      rw [← hnm]
      by_cases h1 : f.kind = 1 <;> by_cases h2 : f.name = x <;> simp [h1, h2]
    have key : ∀ (c : Bool) n (i : Nat), i + n = f.kids.length → spec_l9Rename_l0 f x y false f.sc nm c ((f.kids.take i).map (renF x y)) i = some (f.kids.map (renF x y)) := by
      intro c n
      induction n with
      | zero =>
        intro i hi
        rw [spec_l9Rename_l0, if_neg (by omega), show i = f.kids.length by omega, List.take_length]
        rfl
      | succ n ihn =>
        intro i hi
        have hil : i < f.kids.length := by omega
        rw [spec_l9Rename_l0, if_pos (by omega), idx_nat _ i hil, bsm]
        rw [ih _ (List.getElem_mem _) c (by have := Fm.sz_kid (List.getElem_mem hil); omega), bsm]
        rw [lcat_ok (by simp only [List.length_map, List.length_take, List.length_cons, List.length_nil]; omega), bsm]
        rw [wrap_nat (by omega)]
        have := ihn (i + 1) (by omega)
        rw [List.take_succ_eq_append_getElem hil, List.map_append] at this
        exact this
    have key0 : ∀ c, spec_l9Rename_l0 f x y false f.sc nm c [] 0 = some (f.kids.map (renF x y)) := fun c => by
      have := key c f.kids.length 0 (by omega)
      simp only [List.take_zero, List.map_nil] at this
      exact this
    rw [List.nil_append]
    have hb : ∀ {β : Type} (k : ByteArray → Option β), (((if (decide (f.kind = 1) && decide (f.name = x)) = true then (pure (b || (!false)) >>= fun x38 => pure x38) else pure false : Option Bool) >>= fun x39 => (if x39 = true then pure y else pure f.name : Option ByteArray) >>= k)) = k nm := by
      intro β k
      rw [← bind_assoc, e, bsm]
    rw [hb]
    have g1 : Tot (if (f.kids.length : Int) > 0 then (idx f.kids 0 >>= fun x49 => pure (decide (x49.kind = 1))) else pure false : Option Bool) fun v => v = true → (f.kids.length : Int) > 0 := by
      refine Tot.ite (fun h => Tot.bind (idx_tot (by omega) (by omega)) fun _ _ => Tot.pure fun _ => h) (fun _ => Tot.pure fun h => by cases h)
    obtain ⟨v1, hv1, hp1⟩ := g1
    rw [hv1, bsm]
    have g2 : Tot (if v1 = true then (idx f.kids 0 >>= fun x57 => pure (decide (x57.name = (ByteArray.mk #[114, 117, 108, 101, 115])))) else pure false : Option Bool) fun _ => True := by
      refine Tot.ite (fun h => Tot.bind (idx_tot (by omega) (by have := hp1 h; omega)) fun _ _ => Tot.pure trivial) (fun _ => Tot.pure trivial)
    obtain ⟨v2, hv2, _⟩ := g2
    rw [hv2, bsm]
    have g3 : Tot (if v2 = true then pure true else pure b : Option Bool) fun _ => True := Tot.ite (fun _ => Tot.pure trivial) (fun _ => Tot.pure trivial)
    obtain ⟨v3, hv3, _⟩ := g3
    rw [hv3, bsm, key0, bsm, ren_eq, hnm]; rfl
/-! ### the same form -/
theorem intsEq (l : List Int) (hl : l.length < 1000000000) : slices_Equal_int_int l l = some true := by
  have key : ∀ n (i : Nat), i + n = l.length → slices_Equal_int_int_l0 l l i = some (.inr ()) := by
    intro n
    induction n with
    | zero => intro i hi; rw [slices_Equal_int_int_l0, if_neg (by omega)]; rfl
    | succ n ihn =>
      intro i hi
      have hil : i < l.length := by omega
      rw [slices_Equal_int_int_l0, if_pos (by omega), idx_nat _ i hil, bsm, bsm, if_pos rfl, wrap_nat (by omega)]
      exact ihn (i + 1) (by omega)
  have := key l.length 0 (by omega)
  have e0 : ((0 : Nat) : Int) = 0 := rfl
  rw [e0] at this
  rw [slices_Equal_int_int, if_pos rfl, this]; rfl
theorem same_self : ∀ (f : Fm), f.sz < 1000000000 → impl_FormSame f f = some true := by
  intro f
  induction f using Fm.ind with
  | h f ih =>
    intro hf
    have hk := kids_lt hf
    have key : ∀ n (i : Nat), i + n = f.kids.length → slices_EqualFunc_Form_Form_Form_Form__impl_FormSame_l0 f.kids f.kids i = some (.inr ()) := by
      intro n
      induction n with
      | zero => intro i hi; rw [slices_EqualFunc_Form_Form_Form_Form__impl_FormSame_l0, if_neg (by omega)]; rfl
      | succ n ihn =>
        intro i hi
        have hil : i < f.kids.length := by omega
        rw [slices_EqualFunc_Form_Form_Form_Form__impl_FormSame_l0, if_pos (by omega), idx_nat _ i hil, bsm, bsm]
        rw [ih _ (List.getElem_mem _) (by have := Fm.sz_kid (List.getElem_mem hil); omega), bsm, if_neg (by decide), wrap_nat (by omega)]
        exact ihn (i + 1) (by omega)
    have := key f.kids.length 0 (by omega)
    have e0 : ((0 : Nat) : Int) = 0 := rfl
    rw [e0] at this
    rw [impl_FormSame]
    simp only [decide_true, Bool.and_self, psm, bsm, if_true]
    rw [intsEq _ hk.2]
    simp only [bsm, if_true]
    rw [slices_EqualFunc_Form_Form_Form_Form__impl_FormSame, if_pos rfl, this]
    rfl
end Go.Proofs.SA
