/- IntroducedNames: what both sides compute, at the sizes of the exact law. -/
import Derived.Test.YtjanllllgiehfaaQi
import Derived.Test.YtjanllllgiehfaaPc
import Derived.Test.YtjanllllgiehfaaMb
import Derived.Test.YtjanllllgiehfaaMe
set_option linter.unusedVariables false
set_option linter.unusedSimpArgs false
set_option maxRecDepth 100000
open Go Go.Proofs Go.Proofs.Shadow
namespace Go.Proofs.SA
theorem nodes_pos (f : Fm) : 1 ≤ f.nodes := by rw [Fm.nodes_eq]; omega
end Go.Proofs.SA
namespace Go.Proofs.Shadow
theorem any_loop {α β : Type} (F : Nat → List α → Option (β ⊕ Unit)) (p : α → Bool) (b : β) (hn : ∀ i, F i [] = some (.inr ())) : ∀ (l : List α) (i : Nat), (∀ x ∈ l, ∀ i r, F i (x :: r) = if p x = true then some (.inl b) else F (i + 1) r) → F i l = some (if l.any p = true then .inl b else .inr ()) := by
  intro l
  induction l with
  | nil => intro i _; rw [hn]; rfl
  | cons x l ih =>
    intro i hc
    rw [hc x (List.mem_cons_self ..), List.any_cons]
    cases hp : p x
    · rw [if_neg (by simp), ih _ (fun y hy => hc y (List.mem_cons_of_mem _ hy))]; rfl
    · rfl
/-- A loop over a list beside another one: the first place that tells. -/
theorem any_at {α β : Type} (F : Nat → List α → Option (β ⊕ Unit)) (a : List α) (p : Nat → α → Bool) (b : β) (hn : ∀ i, F i [] = some (.inr ())) (hc : ∀ (i : Nat) (hi : i < a.length) r, F i (a[i] :: r) = if p i a[i] = true then some (.inl b) else F (i + 1) r) :
    (F 0 a = some (.inl b) ∧ ∃ i, ∃ hi : i < a.length, p i a[i] = true) ∨ (F 0 a = some (.inr ()) ∧ ∀ i, ∀ hi : i < a.length, p i a[i] = false) := by
  have key : ∀ (n i : Nat), i + n = a.length → (F i (a.drop i) = some (.inl b) ∧ ∃ j, i ≤ j ∧ ∃ hj : j < a.length, p j a[j] = true) ∨ (F i (a.drop i) = some (.inr ()) ∧ ∀ j, i ≤ j → ∀ hj : j < a.length, p j a[j] = false) := by
    intro n
    induction n with
    | zero => intro i hi; right; rw [show i = a.length by omega, List.drop_length]; exact ⟨hn _, fun j h1 h2 => by omega⟩
    | succ n ih =>
      intro i hi
      have hil : i < a.length := by omega
      rw [List.drop_eq_getElem_cons hil, hc i hil]
      cases hp : p i a[i]
      · rw [if_neg (by simp)]
        rcases ih (i + 1) (by omega) with ⟨h1, j, h2, h3, h4⟩ | ⟨h1, h2⟩
        · exact .inl ⟨h1, j, by omega, h3, h4⟩
        · refine .inr ⟨h1, fun j hj hjl => ?_⟩
          by_cases hji : j = i
          · subst hji; exact hp
          · exact h2 j (by omega) hjl
      · exact .inl ⟨rfl, i, Nat.le_refl _, hil, hp⟩
  rcases key a.length 0 (by omega) with ⟨h1, j, _, h3, h4⟩ | ⟨h1, h2⟩
  · exact .inl ⟨h1, j, h3, h4⟩
  · exact .inr ⟨h1, fun i hi => h2 i (Nat.zero_le _) hi⟩
theorem any_mem (l : List Int) (n : Int) : (l.any fun x => decide (x = n)) = decide (n ∈ l) := by
  induction l with
  | nil => rfl
  | cons x l ih =>
    rw [List.any_cons, ih]
    by_cases h : x = n
    · subst h; simp
    · have h2 : ¬ n = x := fun e => h e.symm
      simp [h, h2]
end Go.Proofs.Shadow
namespace Go.Proofs.SA
/-- No list of this length is too long. -/
abbrev Sm (n : Nat) : Prop := n ≤ 1099511627776
theorem has_eq (l : List Int) (n : Int) (h : Sm l.length) : spec_l2Has l n = some (decide (n ∈ l)) := by
  rw [spec_l2Has, spec_l2Has_l0L0 _ _ (by omega), any_loop (spec_l2Has_l0L l n) (fun x => decide (x = n)) true (fun _ => rfl) l 0 (fun x _ i r => by
    rw [spec_l2Has_l0L, psome, bsome]; by_cases hx : x = n <;> simp [hx, psome]), any_mem, bsome]
  cases decide (n ∈ l) <;> rfl
theorem ints_eq (a b : List Int) (h : Sm a.length) : spec_l1Ints a b = some (decide (a = b)) := by
  rw [spec_l1Ints]
  by_cases hl : a.length = b.length
  · rw [if_pos (by omega), spec_l1Ints_l0L0 _ _ (by omega)]
    rcases any_at (spec_l1Ints_l0L a b) a (fun i x => !decide (some x = b[i]?)) false (fun _ => rfl) (fun i hi r => by
      rw [spec_l1Ints_l0L, psome, bsome, idx_nat b i (by omega), bsome]
      have : b[i]? = some b[i] := List.getElem?_eq_getElem _
      by_cases hx : a[i] = b[i] <;> simp [hx, this, psome]) with ⟨h1, i, hi, hp⟩ | ⟨h1, hp⟩
    · rw [h1, bsome, decide_eq_false]; rfl
      rintro rfl
      simp at hp
    · rw [h1, bsome, decide_eq_true]; rfl
      apply List.ext_getElem? 
      intro i
      by_cases hi : i < a.length
      · have := hp i hi
        rw [List.getElem?_eq_getElem hi]; simpa using this
      · rw [List.getElem?_eq_none (by omega), List.getElem?_eq_none (by omega)]
  · rw [if_neg (by omega), decide_eq_false (fun h => hl (by rw [h]))]; rfl
theorem Fm.ext_iff {a b : Fm} : a = b ↔ a.kind = b.kind ∧ a.name = b.name ∧ a.num = b.num ∧ a.sc = b.sc ∧ a.kids = b.kids := by
  cases a; cases b; simp [Fm.kind, Fm.name, Fm.num, Fm.sc, Fm.kids]
theorem sameS_eq : ∀ a : Fm, a.sz ≤ 1100000 → ∀ b : Fm, spec_FormSame a b = some (decide (a = b)) := by
  intro a
  induction a using Fm.ind with
  | h a ih =>
    intro ha b
    have hz := Fm.sz_eq a
    have hd : ∀ (P : Prop) [Decidable P], (a = b ↔ P) → decide (a = b) = decide P := fun P _ h => by simp only [h]
    rw [spec_FormSame]
    by_cases h1 : a.kind = b.kind
    rotate_left
    · rw [decide_eq_false (fun h => h1 (Fm.ext_iff.1 h).1)]; simp [h1, psome, bsome]
    by_cases h2 : a.name = b.name
    rotate_left
    · rw [decide_eq_false (fun h => h2 (Fm.ext_iff.1 h).2.1)]; simp [h1, h2, psome, bsome]
    by_cases h3 : a.num = b.num
    rotate_left
    · rw [decide_eq_false (fun h => h3 (Fm.ext_iff.1 h).2.2.1)]; simp [h1, h2, h3, psome, bsome]
    by_cases h4 : a.sc = b.sc
    rotate_left
    · rw [decide_eq_false (fun h => h4 (Fm.ext_iff.1 h).2.2.2.1)]; simp [h1, h2, h3, h4, psome, bsome, ints_eq a.sc b.sc (by unfold Sm; omega)]
    by_cases h5 : a.kids.length = b.kids.length
    rotate_left
    · rw [show decide (a = b) = false from decide_eq_false (fun h => h5 (by rw [h]))]
      have : ¬ (a.kids.length : Int) = (b.kids.length : Int) := by omega
      simp [h1, h2, h3, h4, h5, this, psome, bsome, ints_eq b.sc b.sc (by rw [← h4]; unfold Sm; omega)]
    have h6 : (a.kids.length : Int) = (b.kids.length : Int) := by omega
    simp only [h1, h2, h3, h4, h6, decide_true, Bool.not_true, Bool.or_false, psome, bsome, Bool.false_eq_true, if_false, ints_eq b.sc b.sc (show Sm b.sc.length by rw [← h4]; unfold Sm; omega)]
    rw [spec_FormSame_l0L0 _ _ (by omega)]
    rcases any_at (spec_FormSame_l0L a b) a.kids (fun i x => !decide (some x = b.kids[i]?)) false (fun _ => rfl) (fun i hi r => by
      have hm : a.kids[i] ∈ a.kids := List.getElem_mem hi
      have := Fm.sz_kid hm
      rw [spec_FormSame_l0L, psome, bsome, idx_nat b.kids i (by omega), bsome, ih _ hm (by omega), bsome]
      have hg : b.kids[i]? = some (b.kids[i]'(by omega)) := List.getElem?_eq_getElem _
      rw [hg]
      simp only [Option.some.injEq]
      by_cases hx : a.kids[i] = b.kids[i] <;> simp [hx, psome]) with ⟨h7, i, hi, hp⟩ | ⟨h7, hp⟩
    · have e : decide (a = b) = false := decide_eq_false (fun h => by
        have h8 : some a.kids[i] = b.kids[i]? := by rw [← h]; exact (List.getElem?_eq_getElem hi).symm
        rw [decide_eq_true h8] at hp
        cases hp)
      rw [h7, e]; rfl
    · have e : decide (a = b) = true := decide_eq_true ?_
      · rw [h7, e]; rfl
      refine Fm.ext_iff.2 ⟨h1, h2, h3, h4, List.ext_getElem? fun i => ?_⟩
      by_cases hi : i < a.kids.length
      · have := hp i hi
        rw [List.getElem?_eq_getElem hi]; simpa using this
      · rw [List.getElem?_eq_none (by omega), List.getElem?_eq_none (by omega)]
/-- Forms that are not too large. -/
def FS (l : List Fm) : Prop := Sm l.length ∧ ∀ f ∈ l, f.sz ≤ 1100000
theorem in4_eq (l : List Fm) (f : Fm) (h : FS l) : spec_l4In l f = some (decide (f ∈ l)) := by
  have : ∀ l : List Fm, (l.any fun x => decide (x = f)) = decide (f ∈ l) := by
    intro l
    induction l with
    | nil => rfl
    | cons x l ih =>
      rw [List.any_cons, ih]
      by_cases h : x = f
      · subst h; simp
      · have h2 : ¬ f = x := fun e => h e.symm
        simp [h, h2]
  rw [spec_l4In, spec_l4In_l0L0 _ _ (by have := h.1; omega), any_loop (spec_l4In_l0L l f) (fun x => decide (x = f)) true (fun _ => rfl) l 0 (fun x hx i r => by
    rw [spec_l4In_l0L, psome, bsome, sameS_eq x (h.2 x hx), bsome]; rfl), this, bsome]
  cases decide (f ∈ l) <;> rfl
theorem nodes_le_sz : ∀ f : Fm, f.nodes ≤ f.sz + 1 := by
  intro f
  induction f using Fm.ind with
  | h f ih =>
    rw [Fm.nodes_eq, Fm.sz_eq]
    have key : ∀ l : List Fm, (∀ g ∈ l, g.nodes ≤ g.sz + 1) → sumL Fm.nodes l ≤ sumL Fm.sz l + l.length := by
      intro l
      induction l with
      | nil => intro _; exact Nat.le_refl _
      | cons x l ihl =>
        intro h
        have h1 := h x (List.mem_cons_self ..)
        have h2 := ihl (fun y hy => h y (List.mem_cons_of_mem _ hy))
        simp only [sumL, List.length_cons]; omega
    have := key f.kids ih
    omega
theorem implCopyForm_eq : ∀ f : Fm, f.sz ≤ 1100000 → impl_copyForm f = some f := by
  intro f
  induction f using Fm.ind with
  | h f ih =>
    intro hf
    have hz := Fm.sz_eq f
    rw [impl_copyForm, slices_Clone_int_int, lcat_ok (by simp only [List.length_nil]; omega), bsome, List.nil_append, impl_copyForm_l0L0 _ _ _ (by omega), app_loop (impl_copyForm_l0L f f.sc) id (fun _ _ => rfl) f.kids [] 0 (fun x hx z i r hz => by
      have := Fm.sz_kid hx
      rw [impl_copyForm_l0L, psome, bsome, ih x hx (by omega), bsome, lcat_ok (by simp; omega), bsome]; rfl) (by simp; omega), bsome, psome, List.nil_append, List.map_id]
    cases f; rfl
theorem implInts_eq (a b : List Int) (ha : a.length ≤ 1100000) : slices_Equal_int_int a b = some (decide (a = b)) := by
  rw [slices_Equal_int_int]
  by_cases hl : a.length = b.length
  rotate_left
  · rw [if_neg (by omega), decide_eq_false (fun h => hl (by rw [h]))]; rfl
  rw [if_pos (by omega), slices_Equal_int_int_l0L0 _ _ (by omega)]
  have key : ∀ (l : List Int) (i : Nat), a.drop i = l → slices_Equal_int_int_l0L a b i l = some (if l = b.drop i then .inr () else .inl false) := by
    intro l
    induction l with
    | nil =>
      intro i h
      have : a.length ≤ i := by have := congrArg List.length h; simp at this; omega
      rw [if_pos (by rw [List.drop_of_length_le (by omega)])]; rfl
    | cons x l ih =>
      intro i h
      have hi : i < a.length := by
        rcases Nat.lt_or_ge i a.length with h2 | h2
        · exact h2
        · rw [List.drop_of_length_le h2] at h; cases h
      rw [List.drop_eq_getElem_cons hi] at h
      injection h with e1 e2
      have hib : i < b.length := by omega
      rw [slices_Equal_int_int_l0L, psome, bsome, idx_nat _ _ hib, bsome, List.drop_eq_getElem_cons hib]
      by_cases hx : x = b[i]
      · rw [if_pos hx, ih _ e2]
        simp only [hx, List.cons.injEq, true_and]
      · rw [if_neg hx, if_neg (fun h => hx (by injection h))]; rfl
  rw [key a 0 (List.drop_zero ..), List.drop_zero, bsome]
  by_cases h : a = b
  · rw [if_pos h, decide_eq_true h]; rfl
  · rw [if_neg h, decide_eq_false h]; rfl
theorem implSame_eq : ∀ f : Fm, f.sz ≤ 1100000 → ∀ g : Fm, impl_FormSame f g = some (decide (f = g)) := by
  intro f
  induction f using Fm.ind with
  | h f ih =>
    intro hf g
    have hz := Fm.sz_eq f
    have kids : f.kids.length = g.kids.length → slices_EqualFunc_Form_Form_Form_Form__impl_FormSame_l0L f.kids g.kids 0 f.kids = some (if f.kids = g.kids then .inr () else .inl false) := by
      intro hl
      have key : ∀ (l : List Fm) (i : Nat), f.kids.drop i = l → slices_EqualFunc_Form_Form_Form_Form__impl_FormSame_l0L f.kids g.kids i l = some (if l = g.kids.drop i then .inr () else .inl false) := by
        intro l
        induction l with
        | nil =>
          intro i h
          have : f.kids.length ≤ i := by have := congrArg List.length h; simp at this; omega
          rw [if_pos (by rw [List.drop_of_length_le (by omega)])]; rfl
        | cons x l ihl =>
          intro i h
          have hi : i < f.kids.length := by
            rcases Nat.lt_or_ge i f.kids.length with h2 | h2
            · exact h2
            · rw [List.drop_of_length_le h2] at h; cases h
          rw [List.drop_eq_getElem_cons hi] at h
          injection h with e1 e2
          have hib : i < g.kids.length := by omega
          have hm : x ∈ f.kids := e1 ▸ List.getElem_mem hi
          have := Fm.sz_kid hm
          rw [slices_EqualFunc_Form_Form_Form_Form__impl_FormSame_l0L, psome, bsome, idx_nat _ _ hib, bsome, ih x hm (by omega), bsome, List.drop_eq_getElem_cons hib]
          by_cases hx : x = g.kids[i]
          · rw [decide_eq_true hx]
            simp only [Bool.not_true, Bool.false_eq_true, if_false]
            rw [ihl _ e2]
            simp only [hx, List.cons.injEq, true_and]
          · rw [decide_eq_false hx]
            show some (Sum.inl false) = _
            rw [if_neg (fun h => hx (by injection h))]
      have := key f.kids 0 (List.drop_zero ..)
      rwa [List.drop_zero] at this
    rw [impl_FormSame, psome, bsome, psome, bsome]
    by_cases h : f = g
    · subst h
      simp only [decide_true, Bool.and_self, if_true, implInts_eq _ _ (show f.sc.length ≤ 1100000 by omega), bsome, psome]
      rw [slices_EqualFunc_Form_Form_Form_Form__impl_FormSame, if_pos rfl, slices_EqualFunc_Form_Form_Form_Form__impl_FormSame_l0L0 _ _ (by omega), kids rfl, if_pos rfl]; rfl
    · rw [decide_eq_false h]
      by_cases c1 : (decide (f.kind = g.kind) && decide (f.name = g.name) && decide (f.num = g.num)) = true
      rotate_left
      · rw [if_neg c1]; rfl
      rw [if_pos c1, implInts_eq _ _ (show f.sc.length ≤ 1100000 by omega), bsome, psome, bsome]
      by_cases c2 : f.sc = g.sc
      rotate_left
      · rw [decide_eq_false c2]; rfl
      rw [decide_eq_true c2, if_pos rfl, slices_EqualFunc_Form_Form_Form_Form__impl_FormSame]
      by_cases c3 : f.kids.length = g.kids.length
      rotate_left
      · rw [if_neg (by omega)]; rfl
      rw [if_pos (by omega), slices_EqualFunc_Form_Form_Form_Form__impl_FormSame_l0L0 _ _ (by omega), kids c3, if_neg]
      · rfl
      · intro c4
        simp only [Bool.and_eq_true, decide_eq_true_eq] at c1
        apply h
        cases f; cases g
        simp only [Fm.kind, Fm.name, Fm.num, Fm.sc, Fm.kids] at c1 c2 c4
        rw [c1.1.1, c1.1.2, c1.2, c2, c4]
theorem hasI_eq (l : List Int) (x : Int) (h : l.length ≤ 1000000000) : slices_Contains_int_int l x = some (decide (x ∈ l)) := by
  have key : ∀ (r : List Int) (i : Nat), (x ∈ r → ∃ k : Nat, slices_Index_int_int_l0L l x i r = some (.inl (k : Int))) ∧ (x ∉ r → slices_Index_int_int_l0L l x i r = some (.inr ())) := by
    intro r
    induction r with
    | nil => intro i; exact ⟨fun h => (by cases h), fun _ => rfl⟩
    | cons y r ih =>
      intro i
      rw [slices_Index_int_int_l0L, psome, bsome]
      by_cases hxy : x = y
      · rw [if_pos hxy]
        exact ⟨fun _ => ⟨i, rfl⟩, fun h => absurd (hxy ▸ List.mem_cons_self ..) h⟩
      · rw [if_neg hxy]
        obtain ⟨h1, h2⟩ := ih (i + 1)
        exact ⟨fun h => h1 (by rcases List.mem_cons.1 h with h | h; exact absurd h hxy; exact h), fun h => h2 fun h3 => h (List.mem_cons_of_mem _ h3)⟩
  obtain ⟨h1, h2⟩ := key l 0
  rw [slices_Contains_int_int, slices_Index_int_int, slices_Index_int_int_l0L0 _ _ (by omega)]
  by_cases hx : x ∈ l
  · obtain ⟨k, hk⟩ := h1 hx
    rw [hk, bsome, decide_eq_true hx]
    simp only [psome, bsome]
    rw [decide_eq_true (by omega)]
  · rw [h2 hx, bsome, decide_eq_false hx]
    rfl
theorem inI_eq (a b c : Int) : impl_within a b c = some (decide (b ≤ a ∧ a ≤ c)) := by
  rw [impl_within, psome, bsome, psome, Bool.decide_and]
/-- A list of names, with one more if it has the scope and is new. -/
noncomputable def inN (s : Int) (o : List Fm) (f : Fm) : List Fm := if f.kind = 1 ∧ s ∈ f.sc ∧ f ∉ o then o ++ [f] else o
mutual
noncomputable def nmF (s : Int) : Fm → List Fm → List Fm
  | .mk k n m c ks, o => nmL s ks (inN s o (.mk k n m c ks))
noncomputable def nmL (s : Int) : List Fm → List Fm → List Fm
  | [], o => o
  | f :: fs, o => nmL s fs (nmF s f o)
end
theorem nmF_eq (s : Int) (f : Fm) (o : List Fm) : nmF s f o = nmL s f.kids (inN s o f) := by cases f; rw [nmF]; rfl
inductive Part : Fm → Fm → Prop
  | refl (f : Fm) : Part f f
  | kid {x k f : Fm} (hk : k ∈ f.kids) (h : Part x k) : Part x f
theorem Part.sz {x f : Fm} (h : Part x f) : x.sz ≤ f.sz := by
  induction h with
  | refl => exact Nat.le_refl _
  | kid hk _ ih => have := Fm.sz_kid hk; omega
/-- What a list of names is, behind a form. -/
structure NmOk (s : Int) (f : Fm) (o r : List Fm) : Prop where
  nd : o.Nodup → r.Nodup
  mem : ∀ x ∈ r, x ∈ o ∨ (s ∈ x.sc ∧ Part x f)
  len : r.length ≤ o.length + f.nodes
theorem inN_ok (s : Int) (f : Fm) (o : List Fm) : NmOk s f o (inN s o f) := by
  have := nodes_pos f
  unfold inN
  split
  · rename_i h
    refine ⟨fun hn => ?_, fun x hx => ?_, by simp; omega⟩
    · rw [List.nodup_append]
      exact ⟨hn, by simp, fun a ha b hb he => h.2.2 (by rw [List.mem_singleton.1 hb] at he; exact he ▸ ha)⟩
    · rcases List.mem_append.1 hx with hx | hx
      · exact .inl hx
      · rw [List.mem_singleton.1 hx]; exact .inr ⟨h.2.1, .refl _⟩
  · exact ⟨id, fun x hx => .inl hx, by omega⟩
theorem nmF_ok (s : Int) (f : Fm) : ∀ o, NmOk s f o (nmF s f o) := by
  induction f using Fm.ind with
  | h f ih =>
    intro o
    have hne := Fm.nodes_eq f
    have kids : ∀ (l : List Fm), (∀ k ∈ l, k ∈ f.kids) → ∀ o : List Fm, (o.Nodup → (nmL s l o).Nodup) ∧ (∀ x ∈ nmL s l o, x ∈ o ∨ (s ∈ x.sc ∧ Part x f)) ∧ (nmL s l o).length ≤ o.length + sumL Fm.nodes l := by
      intro l
      induction l with
      | nil => intro _ o; rw [nmL]; exact ⟨id, fun x hx => .inl hx, by simp [sumL]⟩
      | cons k l ihl =>
        intro hl o
        have hk := hl k (List.mem_cons_self ..)
        have h1 := ih k hk o
        obtain ⟨a1, a2, a3⟩ := ihl (fun x hx => hl x (List.mem_cons_of_mem _ hx)) (nmF s k o)
        rw [nmL, sumL]
        refine ⟨fun hn => a1 (h1.nd hn), fun x hx => ?_, by have := h1.len; omega⟩
        rcases a2 x hx with h | h
        · rcases h1.mem x h with h | h
          · exact .inl h
          · exact .inr ⟨h.1, .kid hk h.2⟩
        · exact .inr h
    have h1 := inN_ok s f o
    obtain ⟨a1, a2, a3⟩ := kids f.kids (fun _ h => h) (inN s o f)
    rw [nmF_eq]
    have hl1 : (inN s o f).length ≤ o.length + 1 := by unfold inN; split <;> simp
    refine ⟨fun hn => a1 (h1.nd hn), fun x hx => ?_, by omega⟩
    rcases a2 x hx with h | h
    · exact h1.mem x h
    · exact .inr h
/-- Small forms. -/
def OS (o : List Fm) : Prop := ∀ x ∈ o, x.sz ≤ 1100000
theorem nmF_os {s : Int} {f : Fm} {o : List Fm} (h : OS o) (hf : f.sz ≤ 1100000) : OS (nmF s f o) := fun x hx => by
  rcases (nmF_ok s f o).mem x hx with h2 | h2
  · exact h x h2
  · have := h2.2.sz; omega
theorem inN_os {s : Int} {f : Fm} {o : List Fm} (h : OS o) (hf : f.sz ≤ 1100000) : OS (inN s o f) := fun x hx => by
  rcases (inN_ok s f o).mem x hx with h2 | h2
  · exact h x h2
  · have := h2.2.sz; omega
theorem isIn_eq (o : List Fm) (f : Fm) (h : OS o) (hl : o.length ≤ 1000000000) : impl_isIn o f = some (decide (f ∈ o)) := by
  have key : ∀ (r : List Fm) (i : Nat), (∀ x ∈ r, x.sz ≤ 1100000) → (f ∈ r → ∃ k : Nat, slices_IndexFunc_Form_Form__impl_isIn_c1_l0L o f i r = some (.inl (k : Int))) ∧ (f ∉ r → slices_IndexFunc_Form_Form__impl_isIn_c1_l0L o f i r = some (.inr ())) := by
    intro r
    induction r with
    | nil => intro i _; exact ⟨fun h => (by cases h), fun _ => rfl⟩
    | cons y r ih =>
      intro i hs
      rw [slices_IndexFunc_Form_Form__impl_isIn_c1_l0L, psome, bsome, impl_isIn_c1, implSame_eq y (hs y (List.mem_cons_self ..))]
      simp only [psome, bsome]
      obtain ⟨h1, h2⟩ := ih (i + 1) fun x hx => hs x (List.mem_cons_of_mem _ hx)
      by_cases hy : y = f
      · rw [decide_eq_true hy, if_pos rfl]
        exact ⟨fun _ => ⟨i, rfl⟩, fun h => absurd (hy ▸ List.mem_cons_self ..) h⟩
      · rw [decide_eq_false hy, if_neg (by decide)]
        exact ⟨fun h => h1 (by rcases List.mem_cons.1 h with h | h; exact absurd h.symm hy; exact h), fun h => h2 fun h3 => h (List.mem_cons_of_mem _ h3)⟩
  obtain ⟨h1, h2⟩ := key o 0 h
  rw [impl_isIn, slices_ContainsFunc_Form_Form__impl_isIn_c1, slices_IndexFunc_Form_Form__impl_isIn_c1, slices_IndexFunc_Form_Form__impl_isIn_c1_l0L0 _ _ (by omega)]
  by_cases hx : f ∈ o
  · obtain ⟨k, hk⟩ := h1 hx
    rw [hk, bsome, decide_eq_true hx]
    simp only [psome, bsome]
    rw [decide_eq_true (by omega)]
  · rw [h2 hx, bsome, decide_eq_false hx]
    rfl
theorem intro1_eq (f : Fm) (st : Stp) (o : List Fm) (hf : f.sz ≤ 1100000) (ho : OS o) (hl : o.length ≤ 1000000000) : impl_IntroducedNames_c1 f st o = some (inN st.scope o f) := by
  have hz := Fm.sz_eq f
  rw [impl_IntroducedNames_c1, hasI_eq _ _ (by omega)]
  unfold inN
  simp only [psome, bsome]
  by_cases h1 : f.kind = 1
  rotate_left
  · rw [if_neg h1, bsome, if_neg (by decide), bsome, if_neg (by decide), if_neg (fun h => h1 h.1)]
  rw [if_pos h1, bsome]
  by_cases h2 : st.scope ∈ f.sc
  rotate_left
  · rw [decide_eq_false h2, if_neg (by decide), bsome, if_neg (by decide), if_neg (fun h => h2 h.2.1)]
  rw [decide_eq_true h2, if_pos rfl, isIn_eq o f ho hl, bsome, bsome]
  by_cases h3 : f ∈ o
  · rw [decide_eq_true h3, if_neg (by decide), if_neg (fun h => h.2.2 h3)]
  rw [decide_eq_false h3, if_pos (by decide), if_pos ⟨h1, h2, h3⟩, implCopyForm_eq f hf, bsome, lcat_ok (by simp; omega), bsome]
  have hi : idx (o ++ [Fm.mk 0 (ByteArray.mk #[]) 0 [] []]) (o.length : Int) = some (Fm.mk 0 (ByteArray.mk #[]) 0 [] []) := by
    rw [idx_nat _ o.length (by simp)]; simp
  rw [hi, bsome]
  simp
theorem each1_eq (st : Stp) : ∀ (f : Fm), f.sz ≤ 1100000 → ∀ o : List Fm, OS o → o.length + f.nodes ≤ 1000000000 → impl_eachForm__impl_IntroducedNames_c1 f st o = some (nmF st.scope f o) := by
  intro f
  induction f using Fm.ind with
  | h f ih =>
    intro hf o ho hl
    have hz := Fm.sz_eq f
    have hne := Fm.nodes_eq f
    have loop : ∀ (r : List Fm) (i : Nat) (z : List Fm), (∀ k ∈ r, k ∈ f.kids) → OS z → z.length + sumL Fm.nodes r ≤ 1000000000 → impl_eachForm__impl_IntroducedNames_c1_l0L f st z i r = some (nmL st.scope r z) := by
      intro r
      induction r with
      | nil => intro i z _ _ _; rw [nmL]; rfl
      | cons k r ihr =>
        intro i z hr hzo hzl
        rw [sumL] at hzl
        have hk := hr k (List.mem_cons_self ..)
        have hks := Fm.sz_kid hk
        have hnl := (nmF_ok st.scope k z).len
        rw [impl_eachForm__impl_IntroducedNames_c1_l0L, psome, bsome, ih k hk (by omega) z hzo (by omega), bsome, nmL]
        exact ihr (i + 1) _ (fun x hx => hr x (List.mem_cons_of_mem _ hx)) (nmF_os hzo (by omega)) (by omega)
    have hl1 : (inN st.scope o f).length ≤ o.length + 1 := by unfold inN; split <;> simp
    rw [impl_eachForm__impl_IntroducedNames_c1, intro1_eq f st o hf ho (by omega), bsome, impl_eachForm__impl_IntroducedNames_c1_l0L0 _ _ _ (by omega), loop f.kids 0 _ (fun _ h => h) (inN_os ho hf) (by omega), bsome, nmF_eq]; rfl
theorem names10_o0 (s : Int) : ∀ (f : Fm), f.sz ≤ 1100000 → ∀ o : List Fm, OS o → o.length + f.nodes ≤ 100000000 → spec_l10Names_o0 o f s = some (nmF s f o) := by
  intro f
  induction f using Fm.ind with
  | h f ih =>
    intro hf o ho hl
    have hz := Fm.sz_eq f
    have hne := Fm.nodes_eq f
    have loop : ∀ (r : List Fm) (i : Nat) (z : List Fm), (∀ k ∈ r, k ∈ f.kids) → OS z → z.length + sumL Fm.nodes r ≤ 100000000 → spec_l10Names_o0_l0L f s z i r = some (nmL s r z) := by
      intro r
      induction r with
      | nil => intro i z _ _ _; rw [nmL]; rfl
      | cons k r ihr =>
        intro i z hr hzo hzl
        rw [sumL] at hzl
        have hk := hr k (List.mem_cons_self ..)
        have hks := Fm.sz_kid hk
        have hnl := (nmF_ok s k z).len
        rw [spec_l10Names_o0_l0L, psome, bsome, ih k hk (by omega) z hzo (by omega), bsome, nmL]
        exact ihr (i + 1) _ (fun x hx => hr x (List.mem_cons_of_mem _ hx)) (nmF_os hzo (by omega)) (by omega)
    have hl1 : (inN s o f).length ≤ o.length + 1 := by unfold inN; split <;> simp
    have hlp := loop f.kids 0 _ (fun _ h => h) (inN_os (s := s) ho hf) (by omega)
    rw [spec_l10Names_o0, nmF_eq]
    simp only [psome, bsome, has_eq f.sc s (by unfold Sm; omega)]
    by_cases h1 : f.kind = 1
    rotate_left
    · rw [show inN s o f = o from if_neg (fun h => h1 h.1)] at hlp ⊢
      rw [if_neg h1, bsome, if_neg (by decide), bsome, if_neg (by decide), bsome, spec_l10Names_o0_l0L0 _ _ _ (by omega), hlp, bsome]
    rw [if_pos h1, bsome]
    by_cases h2 : s ∈ f.sc
    rotate_left
    · rw [show inN s o f = o from if_neg (fun h => h2 h.2.1)] at hlp ⊢
      rw [decide_eq_false h2, if_neg (by decide), bsome, if_neg (by decide), bsome, spec_l10Names_o0_l0L0 _ _ _ (by omega), hlp, bsome]
    rw [decide_eq_true h2, if_pos rfl, in4_eq o f ⟨by unfold Sm; omega, ho⟩, bsome, bsome]
    by_cases h3 : f ∈ o
    · rw [show inN s o f = o from if_neg (fun h => h.2.2 h3)] at hlp ⊢
      rw [decide_eq_true h3, if_neg (by decide), bsome, spec_l10Names_o0_l0L0 _ _ _ (by omega), hlp, bsome]
    rw [show inN s o f = o ++ [f] from if_pos ⟨h1, h2, h3⟩] at hlp ⊢
    rw [decide_eq_false h3, if_pos (by decide), copy_eq f (by omega), bsome, lcat_ok (by simp; omega), bsome, bsome, spec_l10Names_o0_l0L0 _ _ _ (by omega), hlp, bsome]
theorem names10 (s : Int) : ∀ (f : Fm), f.sz ≤ 1100000 → ∀ o : List Fm, OS o → o.length + f.nodes ≤ 100000000 → spec_l10Names o f s = some (nmF s f o) := by
  intro f
  · skip
    intro hf o ho hl
    have hz := Fm.sz_eq f
    have hne := Fm.nodes_eq f
    have loop : ∀ (r : List Fm) (i : Nat) (z : List Fm), (∀ k ∈ r, k ∈ f.kids) → OS z → z.length + sumL Fm.nodes r ≤ 100000000 → spec_l10Names_l0L f s z i r = some (nmL s r z) := by
      intro r
      induction r with
      | nil => intro i z _ _ _; rw [nmL]; rfl
      | cons k r ihr =>
        intro i z hr hzo hzl
        rw [sumL] at hzl
        have hk := hr k (List.mem_cons_self ..)
        have hks := Fm.sz_kid hk
        have hnl := (nmF_ok s k z).len
        rw [spec_l10Names_l0L, psome, bsome, names10_o0 s k (by omega) z hzo (by omega), bsome, nmL]
        exact ihr (i + 1) _ (fun x hx => hr x (List.mem_cons_of_mem _ hx)) (nmF_os hzo (by omega)) (by omega)
    have hl1 : (inN s o f).length ≤ o.length + 1 := by unfold inN; split <;> simp
    have hlp := loop f.kids 0 _ (fun _ h => h) (inN_os (s := s) ho hf) (by omega)
    rw [spec_l10Names, nmF_eq]
    simp only [psome, bsome, has_eq f.sc s (by unfold Sm; omega)]
    by_cases h1 : f.kind = 1
    rotate_left
    · rw [show inN s o f = o from if_neg (fun h => h1 h.1)] at hlp ⊢
      rw [if_neg h1, bsome, if_neg (by decide), bsome, if_neg (by decide), bsome, spec_l10Names_l0L0 _ _ _ (by omega), hlp, bsome]
    rw [if_pos h1, bsome]
    by_cases h2 : s ∈ f.sc
    rotate_left
    · rw [show inN s o f = o from if_neg (fun h => h2 h.2.1)] at hlp ⊢
      rw [decide_eq_false h2, if_neg (by decide), bsome, if_neg (by decide), bsome, spec_l10Names_l0L0 _ _ _ (by omega), hlp, bsome]
    rw [decide_eq_true h2, if_pos rfl, in4_eq o f ⟨by unfold Sm; omega, ho⟩, bsome, bsome]
    by_cases h3 : f ∈ o
    · rw [show inN s o f = o from if_neg (fun h => h.2.2 h3)] at hlp ⊢
      rw [decide_eq_true h3, if_neg (by decide), bsome, spec_l10Names_l0L0 _ _ _ (by omega), hlp, bsome]
    rw [show inN s o f = o ++ [f] from if_pos ⟨h1, h2, h3⟩] at hlp ⊢
    rw [decide_eq_false h3, if_pos (by decide), copy_eq f (by omega), bsome, lcat_ok (by simp; omega), bsome, bsome, spec_l10Names_l0L0 _ _ _ (by omega), hlp, bsome]
/-- What both sides answer. -/
noncomputable def intrF (st : Stp) : List Fm := @ite _ (FV st.res ∧ 1 ≤ st.scope ∧ st.scope ≤ 99) (Classical.propDecidable _) (nmF st.scope st.res []) []
theorem implIntr_eq (st : Stp) (h : st.res.sz ≤ 1100000) : impl_IntroducedNames st = some (intrF st) := by
  obtain ⟨b, hb, hv⟩ := fv_impl (f := st.res) (by omega)
  have := nodes_le_sz st.res
  rw [impl_IntroducedNames, hb, bsome, intrF]
  cases b
  · simp only [Bool.not_false, if_true, psome, bsome]
    rw [if_neg (fun hh => by cases hv.2 hh.1)]
  simp only [Bool.not_true, Bool.false_eq_true, if_false, inI_eq, psome, bsome]
  by_cases hs : 1 ≤ st.scope ∧ st.scope ≤ 99
  · simp only [decide_eq_true hs, Bool.not_true, Bool.false_eq_true, if_false]
    rw [if_pos ⟨hv.1 rfl, hs.1, hs.2⟩, each1_eq st st.res h [] (fun _ h => by cases h) (by simp; omega), bsome]
  · simp only [decide_eq_false hs, Bool.not_false, if_true]
    rw [if_neg (fun hh => hs ⟨hh.2.1, hh.2.2⟩)]
theorem specIntr_eq (st : Stp) (h : st.res.sz ≤ 1100000) : spec_IntroducedNames st = some (intrF st) := by
  obtain ⟨b, hb, hv⟩ := fv_spec (f := st.res) (by omega)
  have := nodes_le_sz st.res
  rw [spec_IntroducedNames, hb, bsome, intrF]
  cases b
  · simp only [Bool.not_false, if_true, psome, bsome]
    rw [if_neg (fun hh => by cases hv.2 hh.1)]
  simp only [Bool.not_true, Bool.false_eq_true, if_false, spec_l7In, psome, bsome]
  by_cases h1 : st.scope ≥ 1
  rotate_left
  · simp only [decide_eq_false h1, Bool.false_and, Bool.not_false, if_true]
    rw [if_neg (fun hh => h1 hh.2.1)]
  by_cases h2 : st.scope ≤ 99
  rotate_left
  · simp only [decide_eq_false h2, Bool.and_false, Bool.not_false, if_true]
    rw [if_neg (fun hh => h2 hh.2.2)]
  simp only [decide_eq_true h1, decide_eq_true h2, Bool.and_self, Bool.not_true, Bool.false_eq_true, if_false]
  rw [if_pos ⟨hv.1 rfl, h1, h2⟩, names10 st.scope st.res h [] (fun _ h => by cases h) (by simp; omega), bsome]
end Go.Proofs.SA

