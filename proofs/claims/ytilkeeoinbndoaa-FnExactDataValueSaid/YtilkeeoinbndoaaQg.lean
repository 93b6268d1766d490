/- The frame of the exact laws, over core programs and values. -/
import Derived.Test.YtilkeeoinbndoaaQc
import Derived.Test.YtilkeeoinbndoaaFmH
set_option linter.unusedVariables false
set_option linter.unusedSimpArgs false
set_option maxRecDepth 100000
open Go Go.Proofs Go.Proofs.Shadow
namespace Go.Proofs.Shadow
theorem Cor.ind {p : Cor → Prop} (h : ∀ f, (∀ g ∈ f.kids, p g) → p f) (f : Cor) : p f :=
  h f fun g hg => Cor.ind h g
termination_by SizeOf.sizeOf f
decreasing_by
  obtain ⟨k, i, s, n, l, d, ks⟩ := f
  have := List.sizeOf_lt_of_mem hg
  simp only [Cor.kids] at this
  simp; omega
theorem Val.ind {p : Val → Prop} (h : ∀ v, (∀ x ∈ v.items, p x) → (∀ s ∈ v.env, p s.val) → p v) (v : Val) : p v :=
  h v (fun x hx => Val.ind h x) (fun s hs => Val.ind h s.val)
termination_by SizeOf.sizeOf v
decreasing_by
  · obtain ⟨k, n, s, l, f, e⟩ := v
    have := List.sizeOf_lt_of_mem hx
    simp only [Val.items] at this
    simp; omega
  · obtain ⟨k, n, s', l, f, e⟩ := v
    have := List.sizeOf_lt_of_mem hs
    simp only [Val.env] at this
    obtain ⟨i, w⟩ := s
    simp only [Slt.val]
    simp at this ⊢; omega
mutual
def Cor.sz : Cor → Nat
  | .mk _ _ s _ l d ks => s.size + l.length + d.sz + ks.length + Cor.szL ks
def Cor.szL : List Cor → Nat
  | [] => 0
  | f :: fs => f.sz + Cor.szL fs
end
mutual
def Val.sz : Val → Nat
  | .mk _ _ s l f e => s.size + l.length + Val.szL l + f.sz + e.length + Slt.szL e
def Val.szL : List Val → Nat
  | [] => 0
  | f :: fs => f.sz + Val.szL fs
def Slt.sz : Slt → Nat
  | .mk _ v => v.sz
def Slt.szL : List Slt → Nat
  | [] => 0
  | f :: fs => f.sz + Slt.szL fs
end
theorem Cor.szL_eq : ∀ ks, Cor.szL ks = sumL Cor.sz ks
  | [] => rfl
  | f :: fs => by rw [Cor.szL, Cor.szL_eq fs]; rfl
theorem Val.szL_eq : ∀ ks, Val.szL ks = sumL Val.sz ks
  | [] => rfl
  | f :: fs => by rw [Val.szL, Val.szL_eq fs]; rfl
theorem Slt.sz_eq : ∀ s : Slt, s.sz = s.val.sz
  | .mk _ v => by rw [Slt.sz]; rfl
theorem Slt.szL_eq : ∀ ks, Slt.szL ks = sumL Slt.sz ks
  | [] => rfl
  | f :: fs => by rw [Slt.szL, Slt.szL_eq fs]; rfl
theorem Cor.sz_eq (f : Cor) : f.sz = f.name.size + f.ids.length + f.data.sz + f.kids.length + sumL Cor.sz f.kids := by cases f; simp [Cor.sz, Cor.szL_eq, Cor.name, Cor.ids, Cor.data, Cor.kids]
theorem Val.sz_eq (v : Val) : v.sz = v.name.size + v.items.length + sumL Val.sz v.items + v.fn.sz + v.env.length + sumL Slt.sz v.env := by cases v; simp [Val.sz, Val.szL_eq, Slt.szL_eq, Val.name, Val.items, Val.fn, Val.env]
theorem eq_loop {α : Type} (F : Nat → List α → Option (Bool ⊕ Unit)) (a : List α) (hn : ∀ i, F i [] = some (.inr ())) (hc : ∀ (i : Nat) (hi : i < a.length) r, F i (a[i] :: r) = F (i + 1) r) : F 0 a = some (.inr ()) := by
  have key : ∀ (l : List α) (i : Nat), a.drop i = l → F i l = some (.inr ()) := by
    intro l
    induction l with
    | nil => intro i _; exact hn i
    | cons x l ih =>
      intro i hd
      have hi : i < a.length := by
        rcases Nat.lt_or_ge i a.length with h | h
        · exact h
        · rw [List.drop_of_length_le h] at hd; cases hd
      rw [List.drop_eq_getElem_cons hi] at hd
      injection hd with e1 e2
      rw [← e1, hc i hi]
      exact ih _ e2
  exact key a 0 (List.drop_zero ..)
end Go.Proofs.Shadow
namespace Go.Proofs.SA
theorem eqCore_self : ∀ c : Cor, c.sz ≤ 1048576 → laws_eqCore c c = some true := by
  intro c
  induction c using Cor.ind with
  | h c ih =>
    intro hc
    have hz := Cor.sz_eq c
    have hk : laws_eqCoreS c.kids c.kids = some true := by
      rw [laws_eqCoreS, if_pos rfl, laws_eqCoreS_l0L0 _ _ (by omega), eq_loop (laws_eqCoreS_l0L c.kids c.kids) c.kids (fun _ => rfl) (fun i hi r => by
        have := sumL_mem Cor.sz _ _ (List.getElem_mem hi)
        rw [laws_eqCoreS_l0L, psome, bsome, idx_nat _ _ hi, bsome, ih _ (List.getElem_mem hi) (by omega), bsome]; rfl)]
      rfl
    rw [laws_eqCore, if_pos rfl, if_pos rfl, if_pos rfl, if_pos rfl, eqIntS_self _ (by omega), bsome, eqForm_self _ (Fm.fit_of_sz (by omega)), bsome, hk]
    rfl
theorem eqValue_self : ∀ v : Val, v.sz ≤ 1048576 → laws_eqValue v v = some true := by
  intro v
  induction v using Val.ind with
  | h v ih ihe =>
    intro hc
    have hz := Val.sz_eq v
    have hk : laws_eqValueS v.items v.items = some true := by
      rw [laws_eqValueS, if_pos rfl, laws_eqValueS_l0L0 _ _ (by omega), eq_loop (laws_eqValueS_l0L v.items v.items) v.items (fun _ => rfl) (fun i hi r => by
        have := sumL_mem Val.sz _ _ (List.getElem_mem hi)
        rw [laws_eqValueS_l0L, psome, bsome, idx_nat _ _ hi, bsome, ih _ (List.getElem_mem hi) (by omega), bsome]; rfl)]
      rfl
    have he : laws_eqSlotS v.env v.env = some true := by
      rw [laws_eqSlotS, if_pos rfl, laws_eqSlotS_l0L0 _ _ (by omega), eq_loop (laws_eqSlotS_l0L v.env v.env) v.env (fun _ => rfl) (fun i hi r => by
        have := sumL_mem Slt.sz _ _ (List.getElem_mem hi)
        rw [Slt.sz_eq] at this
        rw [laws_eqSlotS_l0L, psome, bsome, idx_nat _ _ hi, bsome, laws_eqSlot, if_pos rfl, ihe _ (List.getElem_mem hi) (by omega), bsome]; rfl)]
      rfl
    rw [laws_eqValue, if_pos rfl, if_pos rfl, if_pos rfl, hk, bsome, eqCore_self _ (by omega), bsome, he]
    rfl
end Go.Proofs.SA

