/- The frame of the exact laws, over core programs and values. -/
import Derived.Test.YtmacemmkocjkaaaDoorQc
import Derived.Test.YtmacemmkocjkaaaDoorFmH
set_option linter.unusedVariables false
set_option linter.unusedSimpArgs false
set_option maxRecDepth 100000
open Go Go.Proofs Go.Proofs.Shadow
namespace Go.Proofs.Shadow
theorem Cor.ind {p : Cor → Prop} (h : ∀ f, (∀ g ∈ f.kids, p g) → p f) (f : Cor) : p f :=
  h f fun g hg => Cor.ind h g
termination_by SizeOf.sizeOf f
decreasing_by
  obtain ⟨k, i, s, n, l, d, ks⟩ := f
  have := List.sizeOf_lt_of_mem hg
  simp only [Cor.kids] at this
  simp; omega
theorem Val.ind {p : Val → Prop} (h : ∀ v, (∀ x ∈ v.items, p x) → (∀ s ∈ v.env, p s.val) → p v) (v : Val) : p v :=
  h v (fun x hx => Val.ind h x) (fun s hs => Val.ind h s.val)
termination_by SizeOf.sizeOf v
decreasing_by
  · obtain ⟨k, n, s, l, f, e⟩ := v
    have := List.sizeOf_lt_of_mem hx
    simp only [Val.items] at this
    simp; omega
  · obtain ⟨k, n, s', l, f, e⟩ := v
    have := List.sizeOf_lt_of_mem hs
    simp only [Val.env] at this
    obtain ⟨i, w⟩ := s
    simp only [Slt.val]
    simp at this ⊢; omega
mutual
def Cor.sz : Cor → Nat
  | .mk _ _ s _ l d ks => s.size + l.length + d.sz + ks.length + Cor.szL ks
def Cor.szL : List Cor → Nat
  | [] => 0
  | f :: fs => f.sz + Cor.szL fs
end
mutual
def Val.sz : Val → Nat
  | .mk _ _ s l f e => s.size + l.length + Val.szL l + f.sz + e.length + Slt.szL e
def Val.szL : List Val → Nat
  | [] => 0
  | f :: fs => f.sz + Val.szL fs
def Slt.sz : Slt → Nat
  | .mk _ v => v.sz
def Slt.szL : List Slt → Nat
  | [] => 0
  | f :: fs => f.sz + Slt.szL fs
end
theorem Cor.szL_eq : ∀ ks, Cor.szL ks = sumL Cor.sz ks
  | [] => rfl
  | f :: fs => by rw [Cor.szL, Cor.szL_eq fs]; rfl
theorem Val.szL_eq : ∀ ks, Val.szL ks = sumL Val.sz ks
  | [] => rfl
  | f :: fs => by rw [Val.szL, Val.szL_eq fs]; rfl
theorem Slt.sz_eq : ∀ s : Slt, s.sz = s.val.sz
  | .mk _ v => by rw [Slt.sz]; rfl
theorem Slt.szL_eq : ∀ ks, Slt.szL ks = sumL Slt.sz ks
  | [] => rfl
  | f :: fs => by rw [Slt.szL, Slt.szL_eq fs]; rfl
theorem Cor.sz_eq (f : Cor) : f.sz = f.name.size + f.ids.length + f.data.sz + f.kids.length + sumL Cor.sz f.kids := by cases f; simp [Cor.sz, Cor.szL_eq, Cor.name, Cor.ids, Cor.data, Cor.kids]
theorem Val.sz_eq (v : Val) : v.sz = v.name.size + v.items.length + sumL Val.sz v.items + v.fn.sz + v.env.length + sumL Slt.sz v.env := by cases v; simp [Val.sz, Val.szL_eq, Slt.szL_eq, Val.name, Val.items, Val.fn, Val.env]
theorem Cor.eta (c : Cor) : Cor.mk c.kind c.id c.name c.num c.ids c.data c.kids = c := by cases c; rfl
theorem Val.eta (v : Val) : Val.mk v.kind v.num v.name v.items v.fn v.env = v := by cases v; rfl
theorem Slt.eta (v : Slt) : Slt.mk v.id v.val = v := by cases v; rfl
theorem sz_loop {α : Type} (F : Int → Nat → List α → Option (Int ⊕ Int)) (s : α → Nat) (hn : ∀ m i, F m i [] = some (.inr m)) : ∀ (l : List α) (i : Nat) (m : Int), (∀ x ∈ l, ∀ (m : Int) i r, 0 ≤ m → m ≤ 1099511627776 → F m i (x :: r) = if (s x : Int) ≤ m then F (m - s x) (i + 1) r else some (.inl (-1))) → 0 ≤ m → m ≤ 1099511627776 → F m i l = some (if (sumL s l : Int) ≤ m then .inr (m - sumL s l) else .inl (-1)) := by
  intro l
  induction l with
  | nil => intro i m _ hm _; rw [hn]; simp [sumL, hm]
  | cons g l ih =>
    intro i m hc hm hm1
    rw [hc g (List.mem_cons_self ..) m i l hm hm1, show sumL s (g :: l) = s g + sumL s l from rfl]
    by_cases h : (s g : Int) ≤ m
    · rw [if_pos h, ih _ _ (fun x hx => hc x (List.mem_cons_of_mem _ hx)) (by omega) (by omega)]
      by_cases hd : (sumL s l : Int) ≤ m - s g
      · rw [if_pos hd, if_pos (by omega)]; congr 2; omega
      · rw [if_neg hd, if_neg (by omega)]
    · rw [if_neg h, if_neg (by omega)]
theorem eq_loop {α : Type} (F : Nat → List α → Option (Bool ⊕ Unit)) (a : List α) (hn : ∀ i, F i [] = some (.inr ())) (hc : ∀ (i : Nat) (hi : i < a.length) r, F i (a[i] :: r) = F (i + 1) r) : F 0 a = some (.inr ()) := by
  have key : ∀ (l : List α) (i : Nat), a.drop i = l → F i l = some (.inr ()) := by
    intro l
    induction l with
    | nil => intro i _; exact hn i
    | cons x l ih =>
      intro i hd
      have hi : i < a.length := by
        rcases Nat.lt_or_ge i a.length with h | h
        · exact h
        · rw [List.drop_of_length_le h] at hd; cases hd
      rw [List.drop_eq_getElem_cons hi] at hd
      injection hd with e1 e2
      rw [← e1, hc i hi]
      exact ih _ e2
  exact key a 0 (List.drop_zero ..)
end Go.Proofs.Shadow
namespace Go.Proofs.SA
end Go.Proofs.SA
