/- NamesOf: the program's and the reference's. -/
import Derived.Test.YtmacemmkocjkaaaDoorQa
set_option linter.unusedVariables false
set_option linter.unusedSimpArgs false
set_option maxRecDepth 100000
open Go Go.Proofs Go.Proofs.Shadow
namespace Go.Proofs.Shadow
def hasN (l : List ByteArray) (s : ByteArray) : Bool := l.any fun x => decide (x = s)
def namesOne (out : List ByteArray) (g : Fm) : List ByteArray := if g.kind = 1 then (if hasN out g.name then out else out ++ [g.name]) else out
def namesM (out : List ByteArray) (f : Fm) : List ByteArray := f.all.foldl namesOne out
theorem Fm.all_eq (f : Fm) : f.all = f :: Fm.allL f.kids := by obtain ⟨k, s, n, sc, ks⟩ := f; rfl
theorem Fm.allL_len (ks : List Fm) : (Fm.allL ks).length = sumL (fun g => g.all.length) ks := by
  induction ks with
  | nil => rfl
  | cons k ks ih => rw [Fm.allL, List.length_append, ih]; rfl
theorem Fm.allL_foldl {σ : Type} (step : σ → Fm → σ) : ∀ (ks : List Fm) (s : σ), (Fm.allL ks).foldl step s = ks.foldl (fun s g => g.all.foldl step s) s
  | [], s => rfl
  | k :: ks, s => by rw [Fm.allL, List.foldl_append, List.foldl_cons]; exact Fm.allL_foldl step ks _
theorem Fm.all_len (f : Fm) : f.all.length = f.nodes := by
  induction f using Fm.ind with
  | h f ih =>
    rw [Fm.all_eq, List.length_cons, Fm.allL_len, Fm.nodes_eq]
    have : ∀ l : List Fm, (∀ g ∈ l, g ∈ f.kids) → sumL (fun g => g.all.length) l = sumL Fm.nodes l := by
      intro l
      induction l with
      | nil => intro _; rfl
      | cons g l ihl => intro hl; simp only [sumL]; rw [ihl fun x hx => hl x (List.mem_cons_of_mem _ hx), ih g (hl g (List.mem_cons_self ..))]
    rw [this _ fun _ h => h]; omega
theorem namesOne_len (out : List ByteArray) (g : Fm) : (namesOne out g).length ≤ out.length + 1 := by
  unfold namesOne; split
  · split
    · omega
    · simp
  · omega
theorem namesF_len : ∀ (l : List Fm) (out : List ByteArray), (l.foldl namesOne out).length ≤ out.length + l.length
  | [], out => by simp
  | g :: l, out => by
    have := namesF_len l (namesOne out g); have := namesOne_len out g
    simp only [List.foldl_cons, List.length_cons]; omega
theorem namesM_len (out : List ByteArray) (f : Fm) : (namesM out f).length ≤ out.length + f.nodes := by rw [← Fm.all_len]; exact namesF_len _ _
theorem namesM_eq (out : List ByteArray) (f : Fm) : namesM out f = f.kids.foldl namesM (namesOne out f) := by
  unfold namesM
  rw [Fm.all_eq, List.foldl_cons, Fm.allL_foldl]
end Go.Proofs.Shadow
namespace Go.Proofs.SA
theorem contains_eq (l : List ByteArray) (s : ByteArray) (h : l.length ≤ 4398046511104) : slices_Contains_string_string l s = some (hasN l s) := by
  have key : ∀ (r : List ByteArray) (i : Nat), slices_Index_string_string_l0L l s i r = some (if hasN r s then .inl (i + (r.takeWhile fun x => !decide (x = s)).length : Nat) else .inr ()) := by
    intro r
    induction r with
    | nil => intro i; rfl
    | cons x r ih =>
      intro i
      rw [slices_Index_string_string_l0L, psome, bsome]
      by_cases hx : x = s
      · subst hx; rw [if_pos rfl]; simp [hasN, psome]
      · rw [if_neg (Ne.symm hx), ih]
        have e : hasN (x :: r) s = hasN r s := by simp [hasN, hx]
        rw [e, List.takeWhile_cons_of_pos (by simp [hx]), List.length_cons]
        split
        · congr 3; omega
        · rfl
  rw [slices_Contains_string_string, slices_Index_string_string, slices_Index_string_string_l0L0 _ _ (by omega), key, bsome]
  cases hasN l s
  · simp only [Bool.false_eq_true, if_false, psome, bsome]; rfl
  · simp only [if_true, psome, bsome]; rw [decide_eq_true (by omega)]
theorem l1In_eq (l : List ByteArray) (s : ByteArray) (h : l.length ≤ 4398046511104) : spec_l1In l s = some (hasN l s) := by
  have key : ∀ (r : List ByteArray) (i : Nat), spec_l1In_l0L l s i r = some (if hasN r s then .inl true else .inr ()) := by
    intro r
    induction r with
    | nil => intro i; rfl
    | cons x r ih =>
      intro i
      rw [spec_l1In_l0L, psome, bsome]
      by_cases hx : x = s
      · subst hx; rw [if_pos rfl]; simp [hasN, psome]
      · rw [if_neg hx, ih]
        have e : hasN (x :: r) s = hasN r s := by simp [hasN, hx]
        rw [e]
  rw [spec_l1In, spec_l1In_l0L0 _ _ (by omega), key, bsome]
  cases hasN l s <;> rfl
theorem c1Names_eq (f : Fm) (out : List ByteArray) (h : out.length ≤ 1099511627776) : impl_NamesOf_c1 f out = some (namesOne out f) := by
  rw [impl_NamesOf_c1]
  unfold namesOne
  by_cases hk : f.kind = 1
  · rw [if_pos hk, if_pos hk, contains_eq _ _ (by omega)]
    simp only [psome, bsome]
    cases hasN out f.name
    · simp only [Bool.not_false, if_true, Bool.false_eq_true, if_false]; rw [lcat_ok (by simp; omega)]; rfl
    · simp
  · rw [if_neg hk, if_neg hk]; simp only [psome, bsome]; simp
theorem eachNames_eq : ∀ (f : Fm) (out : List ByteArray), f.sz ≤ 1073741824 → out.length + f.nodes ≤ 1099511627776 → impl_eachForm__impl_NamesOf_c1 f out = some (namesM out f) := by
  intro f
  induction f using Fm.ind with
  | h f ih =>
    intro out hz h
    have hn := Fm.nodes_eq f
    have hb := Fm.sz_bounds f
    rw [impl_eachForm__impl_NamesOf_c1, c1Names_eq _ _ (by omega), bsome, impl_eachForm__impl_NamesOf_c1_l0L0 _ _ (by omega)]
    have key : ∀ (l : List Fm), (∀ g ∈ l, g ∈ f.kids) → ∀ (i : Nat) (o : List ByteArray), o.length + sumL Fm.nodes l ≤ 1099511627776 → impl_eachForm__impl_NamesOf_c1_l0L f o i l = some (l.foldl namesM o) := by
      intro l
      induction l with
      | nil => intro _ i o _; rfl
      | cons g l ihl =>
        intro hl i o ho
        simp only [sumL] at ho
        have hg := hl g (List.mem_cons_self ..)
        have := namesM_len o g
        rw [impl_eachForm__impl_NamesOf_c1_l0L, psome, bsome, ih g hg o (by have := Fm.sz_kid hg; omega) (by omega), bsome, ihl (fun x hx => hl x (List.mem_cons_of_mem _ hx)) _ _ (by omega), List.foldl_cons]
    have := namesOne_len out f
    rw [key _ (fun _ h => h) _ _ (by omega), bsome, psome, ← namesM_eq]
theorem implNames_eq (f : Fm) (hz : f.sz ≤ 1073741824) : impl_NamesOf f = some (namesM [] f) := by
  have := Fm.nodes_le f
  rw [impl_NamesOf, eachNames_eq f [] hz (by simp; omega)]; rfl
theorem specNames1 (f : Fm) (out : List ByteArray) (h : out.length ≤ 1099511627776) : ((if f.kind = 1 then (spec_l1In out f.name >>= fun x13 => pure (!x13)) else pure false : Option Bool) >>= fun x15 => ((if x15 = true then (lcat 16 out [f.name] >>= fun x20 => pure x20) else pure out) : Option (List ByteArray))) = some (namesOne out f) := by
  unfold namesOne
  by_cases hk : f.kind = 1
  · rw [if_pos hk, if_pos hk, l1In_eq _ _ (by omega)]
    simp only [psome, bsome]
    cases hasN out f.name
    · simp only [Bool.not_false, if_true, Bool.false_eq_true, if_false]; rw [lcat_ok (by simp; omega)]; rfl
    · simp
  · rw [if_neg hk, if_neg hk]; simp only [psome, bsome]; simp
theorem basc {α β γ : Type} (o : Option α) (f : α → Option β) (g : β → Option γ) : (o >>= fun x => f x >>= g) = ((o >>= f) >>= g) := by cases o <;> rfl
theorem specNames_o0 : ∀ (f : Fm) (out : List ByteArray), f.sz ≤ 1073741824 → out.length + f.nodes ≤ 1099511627776 → spec_l1Names_o0 out f = some (namesM out f) := by
  intro f
  induction f using Fm.ind with
  | h f ih =>
    intro out hz h
    have hn := Fm.nodes_eq f
    have hb := Fm.sz_bounds f
    have key : ∀ (l : List Fm), (∀ g ∈ l, g ∈ f.kids) → ∀ (i : Nat) (o : List ByteArray), o.length + sumL Fm.nodes l ≤ 1099511627776 → spec_l1Names_o0_l0L f o i l = some (l.foldl namesM o) := by
      intro l
      induction l with
      | nil => intro _ i o _; rfl
      | cons g l ihl =>
        intro hl i o ho
        simp only [sumL] at ho
        have hg := hl g (List.mem_cons_self ..)
        have := namesM_len o g
        rw [spec_l1Names_o0_l0L, psome, bsome, ih g hg o (by have := Fm.sz_kid hg; omega) (by omega), bsome, ihl (fun x hx => hl x (List.mem_cons_of_mem _ hx)) _ _ (by omega), List.foldl_cons]
    have := namesOne_len out f
    rw [spec_l1Names_o0, basc, specNames1 f out (by omega), bsome, spec_l1Names_o0_l0L0 _ _ (by omega), key _ (fun _ h => h) _ _ (by omega), bsome, psome, ← namesM_eq]
theorem specNames_eq (f : Fm) (hz : f.sz ≤ 1073741824) : spec_l1Names [] f = some (namesM [] f) := by
  have hn := Fm.nodes_eq f
  have hb := Fm.sz_bounds f
  have hle := Fm.nodes_le f
  have key : ∀ (l : List Fm), (∀ g ∈ l, g ∈ f.kids) → ∀ (i : Nat) (o : List ByteArray), o.length + sumL Fm.nodes l ≤ 1099511627776 → spec_l1Names_l0L f o i l = some (l.foldl namesM o) := by
    intro l
    induction l with
    | nil => intro _ i o _; rfl
    | cons g l ihl =>
      intro hl i o ho
      simp only [sumL] at ho
      have hg := hl g (List.mem_cons_self ..)
      have := namesM_len o g
      rw [spec_l1Names_l0L, psome, bsome, specNames_o0 g o (by have := Fm.sz_kid hg; omega) (by omega), bsome, ihl (fun x hx => hl x (List.mem_cons_of_mem _ hx)) _ _ (by omega), List.foldl_cons]
  have := namesOne_len [] f
  simp only [List.length_nil] at this
  rw [spec_l1Names, basc, specNames1 f [] (by simp), bsome, spec_l1Names_l0L0 _ _ (by omega), key _ (fun _ h => h) _ _ (by omega), bsome, psome, ← namesM_eq]
end Go.Proofs.SA
