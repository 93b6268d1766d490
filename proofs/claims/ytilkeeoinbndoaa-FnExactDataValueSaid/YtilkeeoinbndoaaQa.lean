/- The frame of the exact laws, over forms: sizes, copies, comparisons. -/
import Derived.Test.YtilkeeoinbndoaadvL
import Derived.Test.YtilkeeoinbndoaaFmA
set_option linter.unusedVariables false
set_option linter.unusedSimpArgs false
set_option maxRecDepth 100000
open Go Go.Proofs Go.Proofs.Shadow
namespace Go.Proofs.Shadow
theorem fill_loop {α β : Type} (F : List β → Nat → List α → Option (List β)) (g : α → β) (hn : ∀ z i, F z i [] = some z) :
    ∀ (l : List α) (z : List β) (i : Nat), (∀ z i x r, x ∈ l → i < z.length → F z i (x :: r) = F (z.set i (g x)) (i + 1) r) → z.length = i + l.length → F z i l = some (z.take i ++ l.map g) := by
  intro l
  induction l with
  | nil => intro z i _ hz; rw [hn, List.map_nil, List.append_nil, List.take_of_length_le (by simp at hz; omega)]
  | cons x l ih =>
    intro z i hc hz
    simp only [List.length_cons] at hz
    rw [hc z i x l (List.mem_cons_self ..) (by omega), ih _ _ (fun z i x r hx => hc z i x r (List.mem_cons_of_mem _ hx)) (by simp; omega), List.map_cons]
    congr 1
    rw [List.take_add_one, List.getElem?_set_self (by omega), List.take_set_of_le (Nat.le_refl _)]
    simp
theorem lmake_ok {α : Type} {n : Nat} {z : α} {k : Nat} (h : k * n ≤ 140737488355328) (h2 : k ≤ 140737488355328) : lmake n z (k : Int) = some (List.replicate k z) := by
  unfold lmake
  rw [if_pos ⟨by omega, by rw [← Int.natCast_mul]; omega, by omega⟩, Int.toNat_natCast]
theorem wsub {a b : Int} (h0 : 0 ≤ a) (h1 : a ≤ 4611686018427387904) (h2 : 0 ≤ b) (h3 : b ≤ 4611686018427387904) : IntKind.i64.wrap (a - b) = a - b := wrap_id (by omega) (by omega)
theorem idx_some {α : Type} {l : List α} {i : Nat} (h : i < l.length) : ∃ x, idx l (i : Int) = some x := ⟨_, idx_nat l i h⟩
/-- Forms whose parts are not too long. -/
def Fm.Fit (f : Fm) : Prop := ∀ g ∈ f.all, g.sc.length ≤ 1099511627776 ∧ g.kids.length ≤ 1099511627776
theorem Fm.Fit.kid {f g : Fm} (h : f.Fit) (hg : g ∈ f.kids) : g.Fit := fun x hx => h x (by
  obtain ⟨k, s, n, sc, ks⟩ := f
  simp only [Fm.all, List.mem_cons]
  exact .inr (Fm.allL_mem ks g x hg hx))
theorem Fm.Fit.self {f : Fm} (h : f.Fit) : f.sc.length ≤ 1099511627776 ∧ f.kids.length ≤ 1099511627776 := h f (by obtain ⟨k, s, n, sc, ks⟩ := f; simp [Fm.all])
theorem Fm.sz_bounds (f : Fm) : f.name.size ≤ f.sz ∧ f.sc.length ≤ f.sz ∧ f.kids.length ≤ f.sz := by rw [Fm.sz_eq]; omega
theorem Fm.fit_of_sz {f : Fm} : f.sz ≤ 1099511627776 → f.Fit := by
  induction f using Fm.ind with
  | h f ih =>
    intro hz x hx
    obtain ⟨k, s, n, sc, ks⟩ := f
    simp only [Fm.all, List.mem_cons] at hx
    rcases hx with rfl | hx
    · have := Fm.sz_bounds (.mk k s n sc ks); omega
    · obtain ⟨g, hg, hx⟩ := Fm.allL_of ks x hx
      have h1 : g ∈ (Fm.mk k s n sc ks).kids := hg
      exact ih g h1 (by have := Fm.sz_kid h1; omega) x hx
end Go.Proofs.Shadow
namespace Go.Proofs.SA
theorem toIntS_eq (a : List Int) (h : a.length ≤ 1099511627776) : laws_toIntS a = some a := by
  rw [laws_toIntS, lmake_ok (by omega) (by omega), bsome, laws_toIntS_l0L0 _ _ (by omega),
    fill_loop (laws_toIntS_l0L a) id (fun _ _ => rfl) a _ 0 (fun z i x r _ hi => by
      obtain ⟨y, hy⟩ := idx_some hi
      rw [laws_toIntS_l0L, psome, bsome, hy, bsome, Int.toNat_natCast]; rfl) (by simp)]
  simp only [bsome, psome, List.take_zero, List.nil_append, List.map_id]
theorem toForm_eq : ∀ f : Fm, f.Fit → laws_toForm f = some f := by
  intro f
  induction f using Fm.ind with
  | h f ih =>
    intro hf
    obtain ⟨h1, h2⟩ := hf.self
    have hk : laws_toFormS f.kids = some f.kids := by
      rw [laws_toFormS, lmake_ok (by omega) (by omega), bsome, laws_toFormS_l0L0 _ _ (by omega),
        fill_loop (laws_toFormS_l0L f.kids) id (fun _ _ => rfl) f.kids _ 0 (fun z i x r hx hi => by
          obtain ⟨y, hy⟩ := idx_some hi
          rw [laws_toFormS_l0L, psome, bsome, ih x hx (hf.kid hx), bsome, hy, bsome, Int.toNat_natCast]; rfl) (by simp)]
      simp only [bsome, psome, List.take_zero, List.nil_append, List.map_id]
    rw [laws_toForm, toIntS_eq _ h1, bsome, hk, bsome, psome, Fm.eta]
theorem szIntS_eq (l : List Int) (n : Int) (h0 : 0 ≤ n) (h1 : n ≤ 4611686018427387904) (hl : l.length ≤ 4611686018427387904) : laws_szIntS l n = some (if (l.length : Int) ≤ n then n - l.length else -1) := by
  rw [laws_szIntS, wsub h0 h1 (by omega) (by omega)]
  split <;> split <;> first | rfl | omega
theorem szForm_eq : ∀ f : Fm, f.Ok → ∀ n : Int, 0 ≤ n → n ≤ 1099511627776 → laws_szForm f n = some (if (f.sz : Int) ≤ n then n - f.sz else -1) := by
  intro f
  induction f using Fm.ind with
  | h f ih =>
    intro hf n h0 h1
    obtain ⟨g1, g2, g3⟩ := hf.self
    have hz := Fm.sz_eq f
    have loop : ∀ (l : List Fm), (∀ g ∈ l, g ∈ f.kids) → ∀ (i : Nat) (m : Int), 0 ≤ m → m ≤ 1099511627776 → laws_szFormS_l0L f.kids m i l = some (if (sumL Fm.sz l : Int) ≤ m then .inr (m - sumL Fm.sz l) else .inl (-1)) := by
      intro l
      induction l with
      | nil => intro _ i m hm _; rw [laws_szFormS_l0L, psome]; simp [sumL, hm]
      | cons g l ihl =>
        intro hl i m hm hm1
        rw [laws_szFormS_l0L, psome, bsome, ih g (hl g (List.mem_cons_self ..)) (hf.kid (hl g (List.mem_cons_self ..))) m hm hm1, bsome, show sumL Fm.sz (g :: l) = g.sz + sumL Fm.sz l from rfl]
        by_cases hc : (g.sz : Int) ≤ m
        · rw [if_pos hc, if_neg (by omega), ihl (fun x hx => hl x (List.mem_cons_of_mem _ hx)) _ _ (by omega) (by omega)]
          by_cases hd : (sumL Fm.sz l : Int) ≤ m - g.sz
          · rw [if_pos hd, if_pos (by omega)]; congr 2; omega
          · rw [if_neg hd, if_neg (by omega)]
        · rw [if_neg hc, if_pos (by omega), if_neg (by omega)]; rfl
    rw [laws_szForm, wsub h0 (by omega) (by omega) (by omega)]
    by_cases c1 : n - (f.name.size : Int) < 0
    · rw [if_pos c1, if_neg (by omega)]; rfl
    rw [if_neg c1, szIntS_eq _ _ (by omega) (by omega) g2, bsome]
    by_cases c2 : (f.sc.length : Int) ≤ n - f.name.size
    · rw [if_pos c2, if_neg (by omega), laws_szFormS, wsub (by omega) (by omega) (by omega) (by omega)]
      by_cases c3 : n - (f.name.size : Int) - f.sc.length - f.kids.length < 0
      · rw [if_pos c3, psome, bsome, if_pos (by omega), if_neg (by omega)]
      · rw [if_neg c3, laws_szFormS_l0L0 _ _ (by omega), loop _ (fun _ h => h) _ _ (by omega) (by omega), bsome]
        by_cases c4 : (sumL Fm.sz f.kids : Int) ≤ n - (f.name.size : Int) - f.sc.length - f.kids.length
        · rw [if_pos c4, if_pos (by omega)]; simp only [psome, bsome]
          rw [if_neg (by omega)]; congr 1; omega
        · rw [if_neg c4, if_neg (by omega)]; simp only [psome, bsome]; rw [if_pos (by omega)]
    · rw [if_neg c2, if_pos (by omega), if_neg (by omega)]; rfl
theorem eqIntS_self (a : List Int) (h : a.length ≤ 1099511627776) : laws_eqIntS a a = some true := by
  have key : ∀ (l : List Int) (i : Nat), a.drop i = l → laws_eqIntS_l0L a a i l = some (.inr ()) := by
    intro l
    induction l with
    | nil => intro i _; rfl
    | cons x l ih =>
      intro i hd
      have hi : i < a.length := by
        rcases Nat.lt_or_ge i a.length with h | h
        · exact h
        · rw [List.drop_of_length_le h] at hd; cases hd
      rw [List.drop_eq_getElem_cons hi] at hd
      injection hd with e1 e2
      rw [laws_eqIntS_l0L, psome, bsome, idx_nat _ _ hi, bsome, e1]
      simp only [if_true]
      exact ih _ e2
  rw [laws_eqIntS, if_pos rfl, laws_eqIntS_l0L0 _ _ (by omega), key a 0 (List.drop_zero ..)]
  rfl
theorem eqForm_self : ∀ f : Fm, f.Fit → laws_eqForm f f = some true := by
  intro f
  induction f using Fm.ind with
  | h f ih =>
    intro hf
    obtain ⟨h1, h2⟩ := hf.self
    have key : ∀ (l : List Fm) (i : Nat), f.kids.drop i = l → laws_eqFormS_l0L f.kids f.kids i l = some (.inr ()) := by
      intro l
      induction l with
      | nil => intro i _; rfl
      | cons x l ihl =>
        intro i hd
        have hi : i < f.kids.length := by
          rcases Nat.lt_or_ge i f.kids.length with h | h
          · exact h
          · rw [List.drop_of_length_le h] at hd; cases hd
        rw [List.drop_eq_getElem_cons hi] at hd
        injection hd with e1 e2
        rw [laws_eqFormS_l0L, psome, bsome, idx_nat _ _ hi, bsome, e1, ih x (e1 ▸ List.getElem_mem hi) (hf.kid (e1 ▸ List.getElem_mem hi)), bsome]
        simp only [Bool.not_true, Bool.false_eq_true, if_false]
        exact ihl _ e2
    have hk : laws_eqFormS f.kids f.kids = some true := by
      rw [laws_eqFormS, if_pos rfl, laws_eqFormS_l0L0 _ _ (by omega), key f.kids 0 (List.drop_zero ..)]; rfl
    rw [laws_eqForm, if_pos rfl, if_pos rfl, if_pos rfl, eqIntS_self _ h1, bsome, hk]
    rfl
end Go.Proofs.SA

