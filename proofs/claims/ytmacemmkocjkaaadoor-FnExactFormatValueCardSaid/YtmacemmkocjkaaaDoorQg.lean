/- The frame of the exact laws, over core programs and values. -/
import Derived.Test.YtmacemmkocjkaaaDoorQc
import Derived.Test.YtmacemmkocjkaaaDoorFmH
set_option linter.unusedVariables false
set_option linter.unusedSimpArgs false
set_option maxRecDepth 100000
open Go Go.Proofs Go.Proofs.Shadow
namespace Go.Proofs.Shadow
theorem Cor.ind {p : Cor → Prop} (h : ∀ f, (∀ g ∈ f.kids, p g) → p f) (f : Cor) : p f :=
  h f fun g hg => Cor.ind h g
termination_by SizeOf.sizeOf f
decreasing_by
  obtain ⟨k, i, s, n, l, d, ks⟩ := f
  have := List.sizeOf_lt_of_mem hg
  simp only [Cor.kids] at this
  simp; omega
theorem Val.ind {p : Val → Prop} (h : ∀ v, (∀ x ∈ v.items, p x) → (∀ s ∈ v.env, p s.val) → p v) (v : Val) : p v :=
  h v (fun x hx => Val.ind h x) (fun s hs => Val.ind h s.val)
termination_by SizeOf.sizeOf v
decreasing_by
  · obtain ⟨k, n, s, l, f, e⟩ := v
    have := List.sizeOf_lt_of_mem hx
    simp only [Val.items] at this
    simp; omega
  · obtain ⟨k, n, s', l, f, e⟩ := v
    have := List.sizeOf_lt_of_mem hs
    simp only [Val.env] at this
    obtain ⟨i, w⟩ := s
    simp only [Slt.val]
    simp at this ⊢; omega
mutual
def Cor.sz : Cor → Nat
  | .mk _ _ s _ l d ks => s.size + l.length + d.sz + ks.length + Cor.szL ks
def Cor.szL : List Cor → Nat
  | [] => 0
  | f :: fs => f.sz + Cor.szL fs
end
mutual
def Val.sz : Val → Nat
  | .mk _ _ s l f e => s.size + l.length + Val.szL l + f.sz + e.length + Slt.szL e
def Val.szL : List Val → Nat
  | [] => 0
  | f :: fs => f.sz + Val.szL fs
def Slt.sz : Slt → Nat
  | .mk _ v => v.sz
def Slt.szL : List Slt → Nat
  | [] => 0
  | f :: fs => f.sz + Slt.szL fs
end
theorem Cor.szL_eq : ∀ ks, Cor.szL ks = sumL Cor.sz ks
  | [] => rfl
  | f :: fs => by rw [Cor.szL, Cor.szL_eq fs]; rfl
theorem Val.szL_eq : ∀ ks, Val.szL ks = sumL Val.sz ks
  | [] => rfl
  | f :: fs => by rw [Val.szL, Val.szL_eq fs]; rfl
theorem Slt.sz_eq : ∀ s : Slt, s.sz = s.val.sz
  | .mk _ v => by rw [Slt.sz]; rfl
theorem Slt.szL_eq : ∀ ks, Slt.szL ks = sumL Slt.sz ks
  | [] => rfl
  | f :: fs => by rw [Slt.szL, Slt.szL_eq fs]; rfl
theorem Cor.sz_eq (f : Cor) : f.sz = f.name.size + f.ids.length + f.data.sz + f.kids.length + sumL Cor.sz f.kids := by cases f; simp [Cor.sz, Cor.szL_eq, Cor.name, Cor.ids, Cor.data, Cor.kids]
theorem Val.sz_eq (v : Val) : v.sz = v.name.size + v.items.length + sumL Val.sz v.items + v.fn.sz + v.env.length + sumL Slt.sz v.env := by cases v; simp [Val.sz, Val.szL_eq, Slt.szL_eq, Val.name, Val.items, Val.fn, Val.env]
theorem Cor.eta (c : Cor) : Cor.mk c.kind c.id c.name c.num c.ids c.data c.kids = c := by cases c; rfl
theorem Val.eta (v : Val) : Val.mk v.kind v.num v.name v.items v.fn v.env = v := by cases v; rfl
theorem Slt.eta (v : Slt) : Slt.mk v.id v.val = v := by cases v; rfl
theorem Cor.Ok.out {c : Cor} (h : c.Ok) : c.name.size ≤ 140737488355328 ∧ c.ids.length ≤ 140737488355328 ∧ c.data.Ok ∧ c.kids.length ≤ 140737488355328 ∧ ∀ x ∈ c.kids, Cor.Ok x := by
  cases h with
  | mk hs hl hd hk h => exact ⟨hs, hl, hd, hk, h⟩
theorem Slt.Ok.out {c : Slt} (h : c.Ok) : c.val.Ok := by
  cases h with
  | mk h => exact h
theorem Val.Ok.out {v : Val} (h : v.Ok) : In64 v.num ∧ v.name.size ≤ 140737488355328 ∧ v.items.length ≤ 140737488355328 ∧ v.fn.Ok ∧ v.env.length ≤ 140737488355328 ∧ (∀ x ∈ v.items, Val.Ok x) ∧ ∀ x ∈ v.env, Slt.Ok x := by
  cases h with
  | mk hn hs hl hf he h1 h2 => exact ⟨hn, hs, hl, hf, he, h1, h2⟩
theorem sz_loop {α : Type} (F : Int → Nat → List α → Option (Int ⊕ Int)) (s : α → Nat) (hn : ∀ m i, F m i [] = some (.inr m)) : ∀ (l : List α) (i : Nat) (m : Int), (∀ x ∈ l, ∀ (m : Int) i r, 0 ≤ m → m ≤ 1099511627776 → F m i (x :: r) = if (s x : Int) ≤ m then F (m - s x) (i + 1) r else some (.inl (-1))) → 0 ≤ m → m ≤ 1099511627776 → F m i l = some (if (sumL s l : Int) ≤ m then .inr (m - sumL s l) else .inl (-1)) := by
  intro l
  induction l with
  | nil => intro i m _ hm _; rw [hn]; simp [sumL, hm]
  | cons g l ih =>
    intro i m hc hm hm1
    rw [hc g (List.mem_cons_self ..) m i l hm hm1, show sumL s (g :: l) = s g + sumL s l from rfl]
    by_cases h : (s g : Int) ≤ m
    · rw [if_pos h, ih _ _ (fun x hx => hc x (List.mem_cons_of_mem _ hx)) (by omega) (by omega)]
      by_cases hd : (sumL s l : Int) ≤ m - s g
      · rw [if_pos hd, if_pos (by omega)]; congr 2; omega
      · rw [if_neg hd, if_neg (by omega)]
    · rw [if_neg h, if_neg (by omega)]
theorem eq_loop {α : Type} (F : Nat → List α → Option (Bool ⊕ Unit)) (a : List α) (hn : ∀ i, F i [] = some (.inr ())) (hc : ∀ (i : Nat) (hi : i < a.length) r, F i (a[i] :: r) = F (i + 1) r) : F 0 a = some (.inr ()) := by
  have key : ∀ (l : List α) (i : Nat), a.drop i = l → F i l = some (.inr ()) := by
    intro l
    induction l with
    | nil => intro i _; exact hn i
    | cons x l ih =>
      intro i hd
      have hi : i < a.length := by
        rcases Nat.lt_or_ge i a.length with h | h
        · exact h
        · rw [List.drop_of_length_le h] at hd; cases hd
      rw [List.drop_eq_getElem_cons hi] at hd
      injection hd with e1 e2
      rw [← e1, hc i hi]
      exact ih _ e2
  exact key a 0 (List.drop_zero ..)
end Go.Proofs.Shadow
namespace Go.Proofs.SA
theorem szCore_eq : ∀ c : Cor, c.Ok → ∀ n : Int, 0 ≤ n → n ≤ 1099511627776 → laws_szCore c n = some (if (c.sz : Int) ≤ n then n - c.sz else -1) := by
  intro c
  induction c using Cor.ind with
  | h c ih =>
    intro hc n h0 h1
    obtain ⟨g1, g2, g3, g4, g5⟩ := hc.out
    have hz := Cor.sz_eq c
    rw [laws_szCore, wsub h0 (by omega) (by omega) (by omega)]
    by_cases c1 : n - (c.name.size : Int) < 0
    · rw [if_pos c1, if_neg (by omega)]; rfl
    rw [if_neg c1, szIntS_eq _ _ (by omega) (by omega) (by omega), bsome]
    by_cases c2 : (c.ids.length : Int) ≤ n - c.name.size
    rotate_left
    · rw [if_neg c2, if_pos (by omega), if_neg (by omega)]; rfl
    rw [if_pos c2, if_neg (by omega), szForm_eq _ g3 _ (by omega) (by omega), bsome]
    by_cases c3 : (c.data.sz : Int) ≤ n - c.name.size - c.ids.length
    rotate_left
    · rw [if_neg c3, if_pos (by omega), if_neg (by omega)]; rfl
    rw [if_pos c3, if_neg (by omega), laws_szCoreS, wsub (by omega) (by omega) (by omega) (by omega)]
    by_cases c4 : n - (c.name.size : Int) - c.ids.length - c.data.sz - c.kids.length < 0
    · rw [if_pos c4, psome, bsome, if_pos (by omega), if_neg (by omega)]
    rw [if_neg c4, laws_szCoreS_l0L0 _ _ (by omega), sz_loop (fun m i l => laws_szCoreS_l0L c.kids m i l) Cor.sz (fun _ _ => rfl) _ _ _ (fun x hx m i r hm hm1 => by
      show laws_szCoreS_l0L _ _ _ _ = _
      rw [laws_szCoreS_l0L, psome, bsome, ih x hx (g5 x hx) m hm hm1, bsome]
      by_cases hd : (x.sz : Int) ≤ m
      · rw [if_pos hd, if_neg (by omega), if_pos hd]
      · rw [if_neg hd, if_pos (by omega), if_neg hd]; rfl) (by omega) (by omega), bsome]
    by_cases c5 : (sumL Cor.sz c.kids : Int) ≤ n - (c.name.size : Int) - c.ids.length - c.data.sz - c.kids.length
    · rw [if_pos c5, if_pos (by omega)]; simp only [psome, bsome]
      rw [if_neg (by omega)]; congr 1; omega
    · rw [if_neg c5, if_neg (by omega)]; simp only [psome, bsome]; rw [if_pos (by omega)]
theorem szSlot_eq {s : Slt} {m : Int} (h : laws_szValue s.val m = some (if (s.val.sz : Int) ≤ m then m - s.val.sz else -1)) : laws_szSlot s m = some (if (s.sz : Int) ≤ m then m - s.sz else -1) := by
  rw [laws_szSlot, h, bsome, Slt.sz_eq]
  by_cases hd : (s.val.sz : Int) ≤ m
  · rw [if_pos hd, if_neg (by omega)]; rfl
  · rw [if_neg hd, if_pos (by omega)]; rfl
theorem szValue_eq : ∀ v : Val, v.Ok → ∀ n : Int, 0 ≤ n → n ≤ 1099511627776 → laws_szValue v n = some (if (v.sz : Int) ≤ n then n - v.sz else -1) := by
  intro v
  induction v using Val.ind with
  | h v ih ihe =>
    intro hc n h0 h1
    obtain ⟨g0, g1, g2, g3, g4, g5, g6⟩ := hc.out
    have hz := Val.sz_eq v
    rw [laws_szValue, wsub h0 (by omega) (by omega) (by omega)]
    by_cases c1 : n - (v.name.size : Int) < 0
    · rw [if_pos c1, if_neg (by omega)]; rfl
    rw [if_neg c1, laws_szValueS, wsub (by omega) (by omega) (by omega) (by omega)]
    by_cases c2 : n - (v.name.size : Int) - v.items.length < 0
    · rw [if_pos c2, psome, bsome, if_pos (by omega), if_neg (by omega)]
    rw [if_neg c2, laws_szValueS_l0L0 _ _ (by omega), sz_loop (fun m i l => laws_szValueS_l0L v.items m i l) Val.sz (fun _ _ => rfl) _ _ _ (fun x hx m i r hm hm1 => by
      show laws_szValueS_l0L _ _ _ _ = _
      rw [laws_szValueS_l0L, psome, bsome, ih x hx (g5 x hx) m hm hm1, bsome]
      by_cases hd : (x.sz : Int) ≤ m
      · rw [if_pos hd, if_neg (by omega), if_pos hd]
      · rw [if_neg hd, if_pos (by omega), if_neg hd]; rfl) (by omega) (by omega), bsome]
    by_cases c3 : (sumL Val.sz v.items : Int) ≤ n - (v.name.size : Int) - v.items.length
    rotate_left
    · rw [if_neg c3, if_neg (by omega)]; simp only [psome, bsome]; rw [if_pos (by omega)]
    rw [if_pos c3]; simp only [psome, bsome]
    rw [if_neg (by omega), szCore_eq _ g3 _ (by omega) (by omega), bsome]
    by_cases c4 : (v.fn.sz : Int) ≤ n - (v.name.size : Int) - v.items.length - sumL Val.sz v.items
    rotate_left
    · rw [if_neg c4, if_pos (by omega), if_neg (by omega)]
    rw [if_pos c4, if_neg (by omega), laws_szSlotS, wsub (by omega) (by omega) (by omega) (by omega)]
    by_cases c5 : n - (v.name.size : Int) - v.items.length - sumL Val.sz v.items - v.fn.sz - v.env.length < 0
    · rw [if_pos c5, psome, bsome, if_pos (by omega), if_neg (by omega)]
    rw [if_neg c5, laws_szSlotS_l0L0 _ _ (by omega), sz_loop (fun m i l => laws_szSlotS_l0L v.env m i l) Slt.sz (fun _ _ => rfl) _ _ _ (fun x hx m i r hm hm1 => by
      show laws_szSlotS_l0L _ _ _ _ = _
      rw [laws_szSlotS_l0L, psome, bsome, szSlot_eq (ihe x hx (g6 x hx).out m hm hm1), bsome]
      by_cases hd : (x.sz : Int) ≤ m
      · rw [if_pos hd, if_neg (by omega), if_pos hd]
      · rw [if_neg hd, if_pos (by omega), if_neg hd]; rfl) (by omega) (by omega), bsome]
    by_cases c6 : (sumL Slt.sz v.env : Int) ≤ n - (v.name.size : Int) - v.items.length - sumL Val.sz v.items - v.fn.sz - v.env.length
    · rw [if_pos c6, if_pos (by omega)]; simp only [psome, bsome]
      rw [if_neg (by omega)]; congr 1; omega
    · rw [if_neg c6, if_neg (by omega)]; simp only [psome, bsome]; rw [if_pos (by omega)]
theorem toCore_eq : ∀ c : Cor, c.sz ≤ 1048576 → laws_toCore c = some c := by
  intro c
  induction c using Cor.ind with
  | h c ih =>
    intro hc
    have hz := Cor.sz_eq c
    rw [laws_toCore, toIntS_eq _ (by omega), bsome, toForm_eq _ (Fm.fit_of_sz (by omega)), bsome]
    have hk : laws_toCoreS c.kids = some c.kids := by
      rw [laws_toCoreS, lmake_ok (by omega) (by omega), bsome, laws_toCoreS_l0L0 _ _ (by omega),
        fill_loop (laws_toCoreS_l0L c.kids) id (fun _ _ => rfl) c.kids _ 0 (fun z i x r hx hi => by
          obtain ⟨y, hy⟩ := idx_some hi
          have := sumL_mem Cor.sz _ _ hx
          rw [laws_toCoreS_l0L, psome, bsome, ih x hx (by omega), bsome, hy, bsome, Int.toNat_natCast]; rfl) (by simp)]
      simp only [bsome, psome, List.take_zero, List.nil_append, List.map_id]
    rw [hk, bsome, psome, Cor.eta]
theorem toValue_eq : ∀ v : Val, v.sz ≤ 1048576 → laws_toValue v = some v := by
  intro v
  induction v using Val.ind with
  | h v ih ihe =>
    intro hc
    have hz := Val.sz_eq v
    have hk : laws_toValueS v.items = some v.items := by
      rw [laws_toValueS, lmake_ok (by omega) (by omega), bsome, laws_toValueS_l0L0 _ _ (by omega),
        fill_loop (laws_toValueS_l0L v.items) id (fun _ _ => rfl) v.items _ 0 (fun z i x r hx hi => by
          obtain ⟨y, hy⟩ := idx_some hi
          have := sumL_mem Val.sz _ _ hx
          rw [laws_toValueS_l0L, psome, bsome, ih x hx (by omega), bsome, hy, bsome, Int.toNat_natCast]; rfl) (by simp)]
      simp only [bsome, psome, List.take_zero, List.nil_append, List.map_id]
    have he : laws_toSlotS v.env = some v.env := by
      rw [laws_toSlotS, lmake_ok (by omega) (by omega), bsome, laws_toSlotS_l0L0 _ _ (by omega),
        fill_loop (laws_toSlotS_l0L v.env) id (fun _ _ => rfl) v.env _ 0 (fun z i x r hx hi => by
          obtain ⟨y, hy⟩ := idx_some hi
          have := sumL_mem Slt.sz _ _ hx
          rw [Slt.sz_eq] at this
          rw [laws_toSlotS_l0L, psome, bsome, laws_toSlot, ihe x hx (by omega), bsome, psome, bsome, hy, bsome, Int.toNat_natCast, Slt.eta]; rfl) (by simp)]
      simp only [bsome, psome, List.take_zero, List.nil_append, List.map_id]
    rw [laws_toValue, hk, bsome, toCore_eq _ (by omega), bsome, he, bsome, psome, Val.eta]
theorem eqCore_self : ∀ c : Cor, c.sz ≤ 1048576 → laws_eqCore c c = some true := by
  intro c
  induction c using Cor.ind with
  | h c ih =>
    intro hc
    have hz := Cor.sz_eq c
    have hk : laws_eqCoreS c.kids c.kids = some true := by
      rw [laws_eqCoreS, if_pos rfl, laws_eqCoreS_l0L0 _ _ (by omega), eq_loop (laws_eqCoreS_l0L c.kids c.kids) c.kids (fun _ => rfl) (fun i hi r => by
        have := sumL_mem Cor.sz _ _ (List.getElem_mem hi)
        rw [laws_eqCoreS_l0L, psome, bsome, idx_nat _ _ hi, bsome, ih _ (List.getElem_mem hi) (by omega), bsome]; rfl)]
      rfl
    rw [laws_eqCore, if_pos rfl, if_pos rfl, if_pos rfl, if_pos rfl, eqIntS_self _ (by omega), bsome, eqForm_self _ (Fm.fit_of_sz (by omega)), bsome, hk]
    rfl
theorem eqValue_self : ∀ v : Val, v.sz ≤ 1048576 → laws_eqValue v v = some true := by
  intro v
  induction v using Val.ind with
  | h v ih ihe =>
    intro hc
    have hz := Val.sz_eq v
    have hk : laws_eqValueS v.items v.items = some true := by
      rw [laws_eqValueS, if_pos rfl, laws_eqValueS_l0L0 _ _ (by omega), eq_loop (laws_eqValueS_l0L v.items v.items) v.items (fun _ => rfl) (fun i hi r => by
        have := sumL_mem Val.sz _ _ (List.getElem_mem hi)
        rw [laws_eqValueS_l0L, psome, bsome, idx_nat _ _ hi, bsome, ih _ (List.getElem_mem hi) (by omega), bsome]; rfl)]
      rfl
    have he : laws_eqSlotS v.env v.env = some true := by
      rw [laws_eqSlotS, if_pos rfl, laws_eqSlotS_l0L0 _ _ (by omega), eq_loop (laws_eqSlotS_l0L v.env v.env) v.env (fun _ => rfl) (fun i hi r => by
        have := sumL_mem Slt.sz _ _ (List.getElem_mem hi)
        rw [Slt.sz_eq] at this
        rw [laws_eqSlotS_l0L, psome, bsome, idx_nat _ _ hi, bsome, laws_eqSlot, if_pos rfl, ihe _ (List.getElem_mem hi) (by omega), bsome]; rfl)]
      rfl
    rw [laws_eqValue, if_pos rfl, if_pos rfl, if_pos rfl, hk, bsome, eqCore_self _ (by omega), bsome, he]
    rfl
end Go.Proofs.SA
