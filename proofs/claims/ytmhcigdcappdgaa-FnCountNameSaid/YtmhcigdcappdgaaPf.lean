/- What CountName, NamesOf and FormSize compute; the law FnCountName yields true. -/
import Derived.Test.YtmhcigdcappdgaaPe
set_option linter.unusedVariables false
set_option linter.unusedSimpArgs false
set_option maxRecDepth 100000
open Go Go.Proofs Go.Proofs.Shadow
namespace Go.Proofs.SA
noncomputable instance decMem (s : ByteArray) (l : List ByteArray) : Decidable (s ∈ l) := Classical.propDecidable _
theorem bsome {α β : Type} (a : α) (f : α → Option β) : ((some a : Option α) >>= f) = f a := rfl
theorem psome {α : Type} (a : α) : (pure a : Option α) = some a := rfl
theorem named_eq (f : Fm) (c : ByteArray) : impl_named f c = some (decide (f.kind = 1) && decide (f.name = c)) := rfl
theorem hit_int (x : ByteArray) (k : Int) (s : ByteArray) : (hit x k s : Int) = if (decide (k = 1) && decide (s = x)) = true then 1 else 0 := by
  rw [hit_b]
  cases (decide (k = 1) && decide (s = x)) <;> rfl
theorem c1_eq (f : Fm) (c : ByteArray) (n : Int) (h0 : 0 ≤ n) (h : n < 1099511627776) : impl_CountName_c1 f c n = some (n + hit c f.kind f.name) := by
  unfold impl_CountName_c1
  rw [named_eq, bsome, hit_int]
  split
  · rw [wrap_id (by omega) (by omega)]; rfl
  · rw [Int.add_zero]; rfl
theorem each_count : ∀ (f : Fm) (c : ByteArray) (n : Int), 0 ≤ n → n + f.cnt c < 1099511627776 → f.sz < 1099511627776 → impl_eachForm__impl_CountName_c1 f c n = some (n + f.cnt c) := by
  intro f
  induction f using Fm.ind with
  | h f ih =>
    intro c n h0 h hf
    have hz := Fm.sz_eq f
    have hc := Fm.cnt_eq c f
    rw [impl_eachForm__impl_CountName_c1, c1_eq f c n h0 (by omega), bsome]
    have key : ∀ m (i : Nat), i + m = f.kids.length → impl_eachForm__impl_CountName_c1_l0 f c i (n + hit c f.kind f.name + sumL (Fm.cnt c) (f.kids.take i)) = some (n + f.cnt c) := by
      intro m
      induction m with
      | zero =>
        intro i hi
        rw [impl_eachForm__impl_CountName_c1_l0, if_neg (by omega), show i = f.kids.length by omega, List.take_length, psome]
        congr 1; omega
      | succ m ihm =>
        intro i hi
        have hil : i < f.kids.length := by omega
        have hs := sumL_take (Fm.cnt c) f.kids i hil
        have hle := sumL_le (Fm.cnt c) f.kids (i + 1)
        rw [impl_eachForm__impl_CountName_c1_l0, if_pos (by omega), idx_nat _ i hil, bsome]
        rw [ih _ (List.getElem_mem _) c _ (by omega) (by omega) (by have := Fm.sz_kid (List.getElem_mem hil); omega), bsome, wrap_nat (by omega)]
        have := ihm (i + 1) (by omega)
        rw [hs] at this
        rw [← this]
        congr 1
        omega
    have := key f.kids.length 0 (by omega)
    simp only [List.take_zero, sumL] at this
    have e0 : ((0 : Nat) : Int) = 0 := rfl
    rw [e0, Int.add_zero] at this
    rw [this]; rfl
theorem implCount_eq (f : Fm) (c : ByteArray) (hf : f.sz < 1000000000) : impl_CountName f c = some (f.cnt c : Int) := by
  have := Fm.cnt_le c f
  unfold impl_CountName
  rw [each_count f c 0 (by omega) (by omega) (by omega), bsome, Int.zero_add]; rfl
theorem specCount_eq : ∀ (f : Fm) (c : ByteArray), f.sz < 1000000000 → spec_CountName f c = some (f.cnt c : Int) := by
  intro f
  induction f using Fm.ind with
  | h f ih =>
    intro c hf
    have hz := Fm.sz_eq f
    have hc := Fm.cnt_eq c f
    have hcl := Fm.cnt_le c f
    rw [spec_CountName]
    have e : ((pure (decide (f.kind = 1) && decide (f.name = c)) : Option Bool) >>= fun x15 => (if x15 = true then pure 1 else pure 0 : Option Int)) = some (hit c f.kind f.name : Int) := by
      rw [hit_int, psome, bsome]
      split <;> rfl
    have key : ∀ m (i : Nat), i + m = f.kids.length → spec_CountName_l0 f c (hit c f.kind f.name + sumL (Fm.cnt c) (f.kids.take i) : Int) i = some (f.cnt c : Int) := by
      intro m
      induction m with
      | zero =>
        intro i hi
        rw [spec_CountName_l0, if_neg (by omega), show i = f.kids.length by omega, List.take_length, psome]
        congr 1; omega
      | succ m ihm =>
        intro i hi
        have hil : i < f.kids.length := by omega
        have hs := sumL_take (Fm.cnt c) f.kids i hil
        have hle := sumL_le (Fm.cnt c) f.kids (i + 1)
        rw [spec_CountName_l0, if_pos (by omega), idx_nat _ i hil, bsome]
        rw [ih _ (List.getElem_mem _) c (by have := Fm.sz_kid (List.getElem_mem hil); omega), bsome, wrap_nat (by omega), wrap_id (by omega) (by omega)]
        have := ihm (i + 1) (by omega)
        rw [hs] at this
        rw [← this]
        congr 1
        omega
    have := key f.kids.length 0 (by omega)
    simp only [List.take_zero, sumL] at this
    have e0 : ((0 : Nat) : Int) = 0 := rfl
    rw [e0, Int.add_zero] at this
    rw [psome, bsome] at e ⊢
    rw [e, bsome, this]; rfl
/-! ### names -/
theorem index_tot (l : List ByteArray) (s : ByteArray) (hl : l.length < 1099511627776) : ∀ (n : Nat) (i : Nat), i + n = l.length → (∀ x ∈ l.take i, x ≠ s) → Tot (slices_Index_string_string_l0 l s i) fun o => match o with | .inl r => 0 ≤ r ∧ s ∈ l | .inr _ => s ∉ l := by
  intro n
  induction n with
  | zero =>
    intro i hi hn
    rw [slices_Index_string_string_l0, if_neg (by omega)]
    refine Tot.pure ?_
    rw [show i = l.length by omega, List.take_length] at hn
    exact fun h => hn s h rfl
  | succ n ih =>
    intro i hi hn
    have hil : i < l.length := by omega
    rw [slices_Index_string_string_l0, if_pos (by omega), idx_nat _ i hil, bsome]
    refine Tot.ite (fun h => Tot.pure ⟨by omega, by rw [h]; exact List.getElem_mem _⟩) (fun h => ?_)
    rw [wrap_nat (by omega)]
    refine ih (i + 1) (by omega) fun x hx => ?_
    rw [List.take_succ_eq_append_getElem hil, List.mem_append, List.mem_singleton] at hx
    rcases hx with hx | rfl
    · exact hn x hx
    · exact fun h' => h h'.symm
theorem contains_eq (l : List ByteArray) (s : ByteArray) (hl : l.length < 1099511627776) : slices_Contains_string_string l s = some (decide (s ∈ l)) := by
  unfold slices_Contains_string_string slices_Index_string_string
  obtain ⟨o, ho, hp⟩ := index_tot l s hl l.length 0 (by omega) (by simp)
  have e0 : ((0 : Nat) : Int) = 0 := rfl
  rw [e0] at ho
  rw [ho, bsome]
  cases o with
  | inl r => simp only [psome, bsome]; rw [decide_eq_true hp.1, decide_eq_true hp.2]
  | inr u => simp only [psome, bsome]; rw [decide_eq_false hp]; rfl
theorem hasText_eq (l : List ByteArray) (s : ByteArray) (hl : l.length < 1099511627776) : laws_mxHasText l s = some (decide (s ∈ l)) := by
  have key : ∀ (n : Nat) (i : Nat), i + n = l.length → (∀ x ∈ l.take i, x ≠ s) → Tot (laws_mxHasText_l0 l s i) fun o => match o with | .inl r => r = true ∧ s ∈ l | .inr _ => s ∉ l := by
    intro n
    induction n with
    | zero =>
      intro i hi hn
      rw [laws_mxHasText_l0, if_neg (by omega)]
      refine Tot.pure ?_
      rw [show i = l.length by omega, List.take_length] at hn
      exact fun h => hn s h rfl
    | succ n ih =>
      intro i hi hn
      have hil : i < l.length := by omega
      rw [laws_mxHasText_l0, if_pos (by omega), idx_nat _ i hil, bsome]
      refine Tot.ite (fun h => Tot.pure ⟨rfl, by rw [← h]; exact List.getElem_mem _⟩) (fun h => ?_)
      rw [wrap_nat (by omega)]
      refine ih (i + 1) (by omega) fun x hx => ?_
      rw [List.take_succ_eq_append_getElem hil, List.mem_append, List.mem_singleton] at hx
      rcases hx with hx | rfl
      · exact hn x hx
      · exact h
  unfold laws_mxHasText
  obtain ⟨o, ho, hp⟩ := key l.length 0 (by omega) (by simp)
  have e0 : ((0 : Nat) : Int) = 0 := rfl
  rw [e0] at ho
  rw [ho, bsome]
  cases o with
  | inl r => simp only [psome]; rw [hp.1, decide_eq_true hp.2]
  | inr u => simp only [psome]; rw [decide_eq_false hp]
noncomputable def stepN (acc : List ByteArray) (g : Fm) : List ByteArray := if g.kind = 1 ∧ g.name ∉ acc then acc ++ [g.name] else acc
theorem stepN_len (acc : List ByteArray) (g : Fm) : (stepN acc g).length ≤ acc.length + 1 := by unfold stepN; split <;> simp
theorem foldN_len : ∀ (l : List Fm) (acc : List ByteArray), (l.foldl stepN acc).length ≤ acc.length + l.length
  | [], acc => by simp
  | g :: l, acc => by
    have := foldN_len l (stepN acc g)
    have := stepN_len acc g
    simp only [List.foldl_cons, List.length_cons]; omega
theorem all_eq (f : Fm) : f.all = f :: Fm.allL f.kids := by cases f; rfl
theorem allL_len : ∀ ks : List Fm, (∀ g ∈ ks, g.all.length = g.nodes) → (Fm.allL ks).length = sumL Fm.nodes ks
  | [], _ => rfl
  | k :: ks, h => by
    simp only [Fm.allL, List.length_append, sumL]
    rw [h k (by simp), allL_len ks (fun g hg => h g (by simp [hg]))]
theorem all_len (f : Fm) : f.all.length = f.nodes := by
  induction f using Fm.ind with
  | h f ih => rw [all_eq, Fm.nodes_eq, List.length_cons, allL_len _ ih]; omega
theorem namesC1_eq (f : Fm) (acc : List ByteArray) (h : acc.length < 1000000000000) : impl_NamesOf_c1 f acc = some (stepN acc f) := by
  unfold impl_NamesOf_c1 stepN
  by_cases hk : f.kind = 1
  · rw [if_pos hk, contains_eq _ _ (by omega), bsome, psome, bsome]
    by_cases hm : f.name ∈ acc
    · rw [if_neg (by simp [hm]), if_neg (by simp [hm])]; rfl
    · rw [if_pos (by simp [hm]), if_pos ⟨hk, hm⟩, lcat_ok (by simp only [List.length_cons, List.length_nil]; omega), bsome]; rfl
  · rw [if_neg hk, psome, bsome, if_neg (by simp), if_neg (by simp [hk])]; rfl
theorem each_names : ∀ (f : Fm) (acc : List ByteArray), acc.length + f.nodes < 1000000000000 → impl_eachForm__impl_NamesOf_c1 f acc = some (f.all.foldl stepN acc) := by
  intro f
  induction f using Fm.ind with
  | h f ih =>
    intro acc h
    have hn := Fm.nodes_eq f
    rw [impl_eachForm__impl_NamesOf_c1, namesC1_eq f acc (by omega), bsome]
    have hkl : f.kids.length ≤ sumL Fm.nodes f.kids := by
      have := sumL_le_len (fun _ => 1) Fm.nodes f.kids
      have h1 : ∀ ks : List Fm, ks.length ≤ sumL Fm.nodes ks := by
        intro ks
        induction ks with
        | nil => simp
        | cons k ks ihk => simp only [List.length_cons, sumL]; have := Fm.nodes_eq k; omega
      exact h1 _
    have key : ∀ m (i : Nat), i + m = f.kids.length → impl_eachForm__impl_NamesOf_c1_l0 f ((Fm.allL (f.kids.take i)).foldl stepN (stepN acc f)) i = some (f.all.foldl stepN acc) := by
      intro m
      induction m with
      | zero =>
        intro i hi
        rw [impl_eachForm__impl_NamesOf_c1_l0, if_neg (by omega), show i = f.kids.length by omega, List.take_length, psome, all_eq, List.foldl_cons]
      | succ m ihm =>
        intro i hi
        have hil : i < f.kids.length := by omega
        rw [impl_eachForm__impl_NamesOf_c1_l0, if_pos (by omega), idx_nat _ i hil, bsome]
        have l1 := foldN_len (Fm.allL (f.kids.take i)) (stepN acc f)
        have l2 := stepN_len acc f
        have l3 := allL_len (f.kids.take i) (fun g _ => all_len g)
        have l4 := sumL_take Fm.nodes f.kids i hil
        have l5 := sumL_le Fm.nodes f.kids (i + 1)
        rw [ih _ (List.getElem_mem _) _ (by omega), bsome, wrap_nat (by omega), ← List.foldl_append, ← Fm.allL_take _ i hil]
        exact ihm (i + 1) (by omega)
    have := key f.kids.length 0 (by omega)
    simp only [List.take_zero, Fm.allL, List.foldl_nil] at this
    have e0 : ((0 : Nat) : Int) = 0 := rfl
    rw [e0] at this
    rw [this]; rfl
theorem formSize_eq : ∀ (f : Fm), f.sz < 1000000000 → impl_FormSize f = some (f.nodes : Int) := by
  intro f
  induction f using Fm.ind with
  | h f ih =>
    intro hf
    have hz := Fm.sz_eq f
    have hc := Fm.nodes_eq f
    have hcl := Fm.nodes_le f
    rw [impl_FormSize]
    have key : ∀ m (i : Nat), i + m = f.kids.length → impl_FormSize_l0 f (1 + sumL Fm.nodes (f.kids.take i) : Int) i = some (f.nodes : Int) := by
      intro m
      induction m with
      | zero =>
        intro i hi
        rw [impl_FormSize_l0, if_neg (by omega), show i = f.kids.length by omega, List.take_length, psome]
        congr 1; omega
      | succ m ihm =>
        intro i hi
        have hil : i < f.kids.length := by omega
        have hs := sumL_take Fm.nodes f.kids i hil
        have hle := sumL_le Fm.nodes f.kids (i + 1)
        rw [impl_FormSize_l0, if_pos (by omega), idx_nat _ i hil, bsome]
        rw [ih _ (List.getElem_mem _) (by have := Fm.sz_kid (List.getElem_mem hil); omega), bsome, wrap_nat (by omega), wrap_id (by omega) (by omega)]
        have := ihm (i + 1) (by omega)
        rw [hs] at this
        rw [← this]
        congr 1
        omega
    have := key f.kids.length 0 (by omega)
    simp only [List.take_zero, sumL] at this
    have e0 : ((0 : Nat) : Int) = 0 := rfl
    have e1 : (1 : Int) + ((0 : Nat) : Int) = 1 := rfl
    rw [e1, e0] at this
    rw [this]; rfl
/-! ### sums -/
theorem stepN_nodup {acc : List ByteArray} (h : acc.Nodup) (g : Fm) : (stepN acc g).Nodup := by
  unfold stepN
  split
  · rename_i hc
    rw [List.nodup_append]
    exact ⟨h, by simp, fun a ha b hb => by rw [List.mem_singleton] at hb; subst hb; exact fun he => hc.2 (he ▸ ha)⟩
  · exact h
theorem foldN_nodup : ∀ (l : List Fm) (acc : List ByteArray), acc.Nodup → (l.foldl stepN acc).Nodup
  | [], acc, h => h
  | g :: l, acc, h => foldN_nodup l _ (stepN_nodup h g)
theorem stepN_mem (acc : List ByteArray) (g : Fm) (s : ByteArray) : s ∈ stepN acc g ↔ s ∈ acc ∨ (g.kind = 1 ∧ g.name = s) := by
  unfold stepN
  by_cases hk : g.kind = 1
  · by_cases hm : g.name ∈ acc
    · rw [if_neg (by simp [hm])]
      exact ⟨fun h => .inl h, fun h => h.elim id (fun h => h.2 ▸ hm)⟩
    · rw [if_pos ⟨hk, hm⟩, List.mem_append, List.mem_singleton]
      exact ⟨fun h => h.imp id (fun h => ⟨hk, h.symm⟩), fun h => h.imp id (fun h => h.2.symm)⟩
  · rw [if_neg (by simp [hk])]
    exact ⟨fun h => .inl h, fun h => h.elim id (fun h => absurd h.1 hk)⟩
theorem foldN_mem (s : ByteArray) : ∀ (l : List Fm) (acc : List ByteArray), s ∈ l.foldl stepN acc ↔ s ∈ acc ∨ ∃ g ∈ l, g.kind = 1 ∧ g.name = s
  | [], acc => by simp
  | g :: l, acc => by
    rw [List.foldl_cons, foldN_mem s l, stepN_mem]
    simp only [List.mem_cons, exists_eq_or_imp]
    constructor
    · rintro ((h | h) | h)
      · exact .inl h
      · exact .inr (.inl h)
      · exact .inr (.inr h)
    · rintro (h | h | h)
      · exact .inl (.inl h)
      · exact .inl (.inr h)
      · exact .inr h
theorem sumL_all (x : ByteArray) : ∀ (ks : List Fm), (∀ g ∈ ks, g.cnt x = sumL (fun g => hit x g.kind g.name) g.all) → sumL (Fm.cnt x) ks = sumL (fun g => hit x g.kind g.name) (Fm.allL ks)
  | [], _ => rfl
  | k :: ks, h => by
    simp only [Fm.allL, sumL, sumL_app]
    rw [h k (by simp), sumL_all x ks (fun g hg => h g (by simp [hg]))]
theorem cnt_all (x : ByteArray) (f : Fm) : f.cnt x = sumL (fun g => hit x g.kind g.name) f.all := by
  induction f using Fm.ind with
  | h f ih => rw [Fm.cnt_eq, all_eq]; simp only [sumL]; rw [sumL_all x f.kids ih]
theorem sumL_swap {α β : Type} (h : α → β → Nat) : ∀ (a : List α) (b : List β), sumL (fun x => sumL (h x) b) a = sumL (fun y => sumL (fun x => h x y) a) b
  | [], b => by
    induction b with
    | nil => rfl
    | cons y b ih => simp only [sumL] at ih ⊢; omega
  | x :: a, b => by
    have ih := sumL_swap h a b
    simp only [sumL]
    rw [ih]
    clear ih
    induction b with
    | nil => rfl
    | cons y b ih => simp only [sumL] at ih ⊢; omega
theorem hit_sum (k : Int) (s : ByteArray) : ∀ (l : List ByteArray), l.Nodup → sumL (fun x => hit x k s) l ≤ 1 ∧ (s ∉ l → sumL (fun x => hit x k s) l = 0)
  | [], _ => ⟨by simp [sumL], fun _ => rfl⟩
  | x :: l, h => by
    rw [List.nodup_cons] at h
    have ih := hit_sum k s l h.2
    simp only [sumL]
    have h1 := hit_le x k s
    by_cases hx : s = x
    · subst hx
      have := ih.2 h.1
      exact ⟨by omega, fun hn => absurd (List.mem_cons_self ..) hn⟩
    · have h0 : hit x k s = 0 := by unfold hit; rw [if_neg (by simp [hx])]
      refine ⟨by omega, fun hn => ?_⟩
      have := ih.2 (fun hm => hn (List.mem_cons_of_mem _ hm))
      omega
theorem sumL_one {α : Type} (g : α → Nat) (h : ∀ x, g x ≤ 1) : ∀ l : List α, sumL g l ≤ l.length
  | [] => Nat.le_refl _
  | x :: l => by simp only [sumL, List.length_cons]; have := sumL_one g h l; have := h x; omega
theorem names_sum (f : Fm) (l : List ByteArray) (h : l.Nodup) : sumL (fun x => f.cnt x) l ≤ f.nodes := by
  have : sumL (fun x => f.cnt x) l = sumL (fun x => sumL (fun g : Fm => hit x g.kind g.name) f.all) l := by congr 1; funext x; exact cnt_all x f
  rw [this, sumL_swap, ← all_len f]
  exact sumL_one _ (fun (g : Fm) => (hit_sum g.kind g.name l h).1) _
theorem sumL_pos {α : Type} (g : α → Nat) : ∀ l : List α, 0 < sumL g l ↔ ∃ x ∈ l, 0 < g x
  | [] => by simp [sumL]
  | x :: l => by
    simp only [sumL, List.mem_cons, exists_eq_or_imp]
    rw [← sumL_pos g l]; omega
theorem hit_pos (x : ByteArray) (k : Int) (s : ByteArray) : 0 < hit x k s ↔ k = 1 ∧ s = x := by
  unfold hit; split
  · simp_all
  · simp_all
theorem cnt_pos (f : Fm) (s : ByteArray) : 0 < f.cnt s ↔ s ∈ f.all.foldl stepN [] := by
  rw [cnt_all, sumL_pos, foldN_mem]
  simp only [hit_pos, List.not_mem_nil, false_or]
theorem fnCountName_true {l : List Int} (h : ∀ x ∈ l, 0 ≤ x ∧ x < 256) : laws_FnCountName l = some true := by
  unfold laws_FnCountName
  by_cases hl : (l.length : Int) > 1048576
  · rw [if_pos hl]; rfl
  rw [if_neg hl]
  obtain ⟨d, hd, hsz⟩ := drawCount_tot h
  rw [hd, bsome, implCount_eq _ _ (by omega), bsome, specCount_eq _ _ (by omega), bsome, if_pos rfl]
  have hn := Fm.nodes_le d.1
  have hN : impl_NamesOf d.1 = some (d.1.all.foldl stepN []) := by
    unfold impl_NamesOf
    rw [each_names d.1 [] (by simp; omega), bsome]; rfl
  rw [hN, bsome]
  generalize hnm : d.1.all.foldl stepN [] = nm
  have hnd : nm.Nodup := by rw [← hnm]; exact foldN_nodup _ _ List.nodup_nil
  have hln : nm.length ≤ d.1.nodes := by
    have := foldN_len d.1.all []
    rw [all_len, hnm] at this
    simpa using this
  have hsum := names_sum d.1 nm hnd
  have key : ∀ m (i : Nat), i + m = nm.length → laws_FnCountName_l0 d (d.1.cnt d.2) nm (sumL (fun x => d.1.cnt x) (nm.take i) : Int) i = some (sumL (fun x => d.1.cnt x) nm : Int) := by
    intro m
    induction m with
    | zero =>
      intro i hi
      rw [laws_FnCountName_l0, if_neg (by omega), show i = nm.length by omega, List.take_length, psome]
    | succ m ihm =>
      intro i hi
      have hil : i < nm.length := by omega
      have hs := sumL_take (fun x => d.1.cnt x) nm i hil
      have hle := sumL_le (fun x => d.1.cnt x) nm (i + 1)
      rw [laws_FnCountName_l0, if_pos (by omega), idx_nat _ i hil, bsome, implCount_eq _ _ (by omega), bsome, wrap_nat (by omega), wrap_id (by omega) (by omega)]
      have := ihm (i + 1) (by omega)
      rw [hs] at this
      rw [← this]
      congr 1
  have hk := key nm.length 0 (by omega)
  simp only [List.take_zero, sumL] at hk
  have e0 : ((0 : Nat) : Int) = 0 := rfl
  rw [e0] at hk
  rw [hk, bsome, hasText_eq _ _ (by omega), bsome, psome, bsome]
  have hp := cnt_pos d.1 d.2
  rw [hnm] at hp
  have c1 : (decide ((d.1.cnt d.2 : Int) > 0) == decide (d.2 ∈ nm)) = true := by
    by_cases hm : d.2 ∈ nm
    · have := hp.2 hm
      rw [decide_eq_true hm, decide_eq_true (by omega)]; rfl
    · have : ¬ 0 < d.1.cnt d.2 := fun h => hm (hp.1 h)
      rw [decide_eq_false hm, decide_eq_false (by omega)]; rfl
  have c2 : (d.1.cnt d.2 : Int) ≤ (sumL (fun x => d.1.cnt x) nm : Nat) := by
    by_cases hm : d.2 ∈ nm
    · have := sumL_mem (fun x => d.1.cnt x) nm d.2 hm
      omega
    · have : ¬ 0 < d.1.cnt d.2 := fun h => hm (hp.1 h)
      omega
  rw [c1, decide_eq_true c2]
  rw [if_pos (by rfl), formSize_eq _ (by omega), bsome, psome, bsome, decide_eq_true (by omega)]
  rfl
end Go.Proofs.SA
