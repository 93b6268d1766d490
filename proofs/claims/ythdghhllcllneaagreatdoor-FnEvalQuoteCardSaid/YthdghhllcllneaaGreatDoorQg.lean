/- The frame of the exact laws, over core programs and values. -/
import Derived.Test.YthdghhllcllneaaGreatDoorQc
import Derived.Test.YthdghhllcllneaaGreatDoorFmH
set_option linter.unusedVariables false
set_option linter.unusedSimpArgs false
set_option maxRecDepth 100000
open Go Go.Proofs Go.Proofs.Shadow
namespace Go.Proofs.Shadow
theorem Cor.ind {p : Cor -> Prop} (h : ∀ f, (∀ g ∈ f.kids, p g) -> p f) (f : Cor) : p f :=
 h f fun g hg => Cor.ind h g
termination_by SizeOf.sizeOf f
decreasing_by
 obtain ⟨k, i, s, n, l, d, ks⟩ := f
 have := List.sizeOf_lt_of_mem hg
 simp only [Cor.kids] at this
 simp; omega
theorem Val.ind {p : Val -> Prop} (h : ∀ v, (∀ x ∈ v.items, p x) -> (∀ s ∈ v.env, p s.val) -> p v) (v : Val) : p v :=
 h v (fun x hx => Val.ind h x) (fun s hs => Val.ind h s.val)
termination_by SizeOf.sizeOf v
decreasing_by
 ·obtain ⟨k, n, s, l, f, e⟩ := v
  have := List.sizeOf_lt_of_mem hx
  simp only [Val.items] at this
  simp; omega
 ·obtain ⟨k, n, s', l, f, e⟩ := v
  have := List.sizeOf_lt_of_mem hs
  simp only [Val.env] at this
  obtain ⟨i, w⟩ := s
  simp only [Slt.val]
  simp at this ⊢; omega
mutual
def Cor.sz : Cor -> Nat
 | .mk _ _ s _ l d ks => s.size + l.length + d.sz + ks.length + Cor.szL ks
def Cor.szL : List Cor -> Nat
 | [] => 0
 | f :: fs => f.sz + Cor.szL fs
end
mutual
def Val.sz : Val -> Nat
 | .mk _ _ s l f e => s.size + l.length + Val.szL l + f.sz + e.length + Slt.szL e
def Val.szL : List Val -> Nat
 | [] => 0
 | f :: fs => f.sz + Val.szL fs
def Slt.sz : Slt -> Nat
 | .mk _ v => v.sz
def Slt.szL : List Slt -> Nat
 | [] => 0
 | f :: fs => f.sz + Slt.szL fs
end
theorem Cor.Qi6 : ∀ ks, Cor.szL ks = Qc4 Cor.sz ks
 | [] => rfl
 | f :: fs => by rw [Cor.szL, Cor.Qi6 fs]; rfl
theorem Val.Qi6 : ∀ ks, Val.szL ks = Qc4 Val.sz ks
 | [] => rfl
 | f :: fs => by rw [Val.szL, Val.Qi6 fs]; rfl
theorem Slt.Qff : ∀ s : Slt, s.sz = s.val.sz
 | .mk _ v => by rw [Slt.sz]; rfl
theorem Slt.Qi6 : ∀ ks, Slt.szL ks = Qc4 Slt.sz ks
 | [] => rfl
 | f :: fs => by rw [Slt.szL, Slt.Qi6 fs]; rfl
theorem Cor.Qff (f : Cor) : f.sz = f.name.size + f.ids.length + f.data.sz + f.kids.length + Qc4 Cor.sz f.kids := by cases f; simp [Cor.sz, Cor.Qi6, Cor.name, Cor.ids, Cor.data, Cor.kids]
theorem Val.Qff (v : Val) : v.sz = v.name.size + v.items.length + Qc4 Val.sz v.items + v.fn.sz + v.env.length + Qc4 Slt.sz v.env := by cases v; simp [Val.sz, Val.Qi6, Slt.Qi6, Val.name, Val.items, Val.fn, Val.env]
theorem Cor.eta (c : Cor) : Cor.mk c.kind c.id c.name c.num c.ids c.data c.kids = c := by cases c; rfl
theorem Val.eta (v : Val) : Val.mk v.kind v.num v.name v.items v.fn v.env = v := by cases v; rfl
theorem Slt.eta (v : Slt) : Slt.mk v.id v.val = v := by cases v; rfl
theorem Cor.Ok.out {c : Cor} (h : c.Ok) : c.name.size <= 140737488355328 /\ c.ids.length <= 140737488355328 /\ c.data.Ok /\ c.kids.length <= 140737488355328 /\ ∀ x ∈ c.kids, Cor.Ok x := by
 cases h with
 | mk hs hl hd hk h => exact ⟨hs, hl, hd, hk, h⟩
theorem Val.Ok.out {v : Val} (h : v.Ok) : Q12 v.num /\ v.name.size <= 140737488355328 /\ v.items.length <= 140737488355328 /\ v.fn.Ok /\ v.env.length <= 140737488355328 /\ (∀ x ∈ v.items, Val.Ok x) /\ ∀ x ∈ v.env, Slt.Ok x := by
 cases h with
 | mk hn hs hl hf he h1 h2 => exact ⟨hn, hs, hl, hf, he, h1, h2⟩
theorem Q0e {α : Type} (F : Nat -> List α -> Option (Bool ⊕ Unit)) (a : List α) (hn : ∀ i, F i [] = some (.inr ())) (hc : ∀ (i : Nat) (hi : i < a.length) r, F i (a[i] :: r) = F (i + 1) r) : F 0 a = some (.inr ()) := by
 have key : ∀ (l : List α) (i : Nat), a.drop i = l -> F i l = some (.inr ()) := by
  intro l
  induction l with
  | nil => intro i _; exact hn i
  | cons x l ih =>
   intro i hd
   have hi : i < a.length := by
    rcases Nat.lt_or_ge i a.length with h | h
    ·exact h
    ·rw [List.drop_of_length_le h] at hd; cases hd
   rw [List.drop_eq_getElem_cons hi] at hd
   injection hd with e1 e2
   rw [← e1, hc i hi]
   exact ih _ e2
 exact key a 0 (List.drop_zero ..)
end Go.Proofs.Shadow
namespace Go.Proofs.SA
end Go.Proofs.SA
