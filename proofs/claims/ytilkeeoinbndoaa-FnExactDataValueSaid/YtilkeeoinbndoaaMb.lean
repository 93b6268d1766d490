/- Marks of numbers and forms: they come to an end, and what was marked is held. -/
import Derived.Test.YtilkeeoinbndoaaMk
import Derived.Test.YtilkeeoinbndoaaQa
import Derived.Test.YtilkeeoinbndoaaQc
set_option linter.unusedVariables false
set_option linter.unusedSimpArgs false
set_option maxRecDepth 100000
open Go Go.Proofs Go.Proofs.Shadow
namespace Go.Proofs.SA
theorem str1_size (n : Int) : (strOfNums [n]).size = 1 := rfl
theorem markText_l0 : ∀ (d : Nat) (u : Nat) (s : ByteArray), u < 10 ^ d → u < 4611686018427387904 → s.size + d ≤ 1000 → ∃ t, laws_markText_l0 (u : Int) s = some t ∧ t.size ≤ 1000 := by
  intro d
  induction d with
  | zero =>
    intro u s h _ hs
    rw [laws_markText_l0, if_neg (by simp at h; omega)]
    exact ⟨s, rfl, by omega⟩
  | succ d ih =>
    intro u s h hu hs
    rw [laws_markText_l0]
    by_cases h0 : u = 0
    · subst h0
      rw [if_neg (by omega)]
      exact ⟨s, rfl, by omega⟩
    · have e2 : (u : Int).tdiv 10 = ((u / 10 : Nat) : Int) := rfl
      rw [if_pos (by omega), e2, wrap_id (a := ((u / 10 : Nat) : Int)) (by omega) (by omega)]
      rw [scat_ok (by rw [str1_size]; omega), bsome]
      rw [Nat.pow_succ] at h
      exact ih (u / 10) _ (by omega) (by omega) (by rw [ByteArray.size_append, str1_size]; omega)
theorem markText_tot {k : Int} (h : k < 4611686018427387904) : ∃ t, laws_markText k = some t := by
  rw [laws_markText]
  by_cases h0 : k ≤ 0
  · rw [if_pos h0]; exact ⟨_, rfl⟩
  · obtain ⟨u, rfl⟩ : ∃ u : Nat, k = u := ⟨k.toNat, by omega⟩
    obtain ⟨t, h1, h2⟩ := markText_l0 25 u (ByteArray.mk #[]) (by omega) (by omega) (by decide)
    rw [if_neg h0, h1, bsome, scat_ok (by show 1 + _ ≤ _; omega)]
    exact ⟨_, rfl⟩
/-- How many marks a form's slices take. -/
def mks (f : Fm) : Nat := f.sz + 3 * f.nodes
theorem wrap1 {k : Int} (h0 : 0 ≤ k) (h : k < 4611686018427387904) : IntKind.i64.wrap (k + 1) = k + 1 := wrap_id (by omega) (by omega)
theorem markI_ok : ∀ (l : List Int) (k : Int), 0 ≤ k → k + l.length < 4611686018427387904 → (markI l k).2 = k + l.length ∧ (markI l k).1.length = l.length
  | [], k, _, _ => ⟨by simp [markI], rfl⟩
  | x :: l, k, h0, h => by
    simp only [List.length_cons, Int.natCast_add, Int.natCast_one] at h
    obtain ⟨h1, h2⟩ := markI_ok l (k + 1) (by omega) (by omega)
    simp only [markI, wrap1 h0 (by omega), List.length_cons]
    omega
theorem heldI_ok (l : List Int) (k : Int) (h0 : 0 ≤ k) (h : k + l.length < 4611686018427387904) : laws_heldIntS (markI l k).1 k = some (k + l.length) := by
  have key : ∀ (r p : List Int) (j : Int), 0 ≤ j → j + r.length < 4611686018427387904 → p.length + r.length < 4611686018427387904 → laws_heldIntS_l0 (p ++ (markI r j).1) j (p.length : Int) = some (.inr (j + r.length)) := by
    intro r
    induction r with
    | nil => intro p j _ _ _; simp only [markI, List.append_nil]; rw [laws_heldIntS_l0, if_neg (by omega)]; simp
    | cons x r ih =>
      intro p j hj hjr hp
      simp only [List.length_cons, Int.natCast_add, Int.natCast_one] at hjr hp
      have h2 := (markI_ok r (j + 1) (by omega) (by omega)).2
      simp only [markI, wrap1 hj (by omega)]
      rw [laws_heldIntS_l0, if_pos (by simp; omega)]
      rw [idx_nat _ p.length (by simp), bsome]
      simp only [List.getElem_append_right (Nat.le_refl _), Nat.sub_self, List.getElem_cons_zero, if_true]
      rw [wrap1 hj (by omega), wrap_nat (by omega)]
      have := ih (p ++ [j]) (j + 1) (by omega) (by omega) (by simp; omega)
      simp only [List.length_append, List.length_cons, List.length_nil, List.append_assoc, List.singleton_append, Nat.zero_add] at this
      rw [this]
      simp only [List.length_cons, Int.natCast_add, Int.natCast_one]
      congr 2; omega
  rw [laws_heldIntS]
  have := key l [] k h0 h (by simp; omega)
  simp only [List.nil_append, List.length_nil, Int.natCast_zero] at this
  rw [this]; rfl
/-- A form's marks (its own fields are not marked): they end, stay in number, and are held. -/
def MarkOk (f : Fm) (k : Int) : Prop := ∃ r, markF f k = some r ∧ k ≤ r.2 ∧ r.2 ≤ k + f.sc.length + sumL mks f.kids ∧ laws_heldIntS r.1.sc k = some (k + f.sc.length) ∧ laws_heldFormS r.1.kids (k + f.sc.length) = some r.2
def MarkOkL (fs : List Fm) (k : Int) : Prop := ∃ r, markL fs k = some r ∧ k ≤ r.2 ∧ r.2 ≤ k + sumL mks fs ∧ r.1.length = fs.length ∧ laws_heldFormS r.1 k = some r.2
theorem mks_eq (f : Fm) : f.sc.length + sumL mks f.kids + 3 ≤ mks f := by
  have h1 := Fm.sz_eq f
  have h2 := Fm.nodes_eq f
  have h3 : sumL mks f.kids = sumL Fm.sz f.kids + 3 * sumL Fm.nodes f.kids := by
    generalize f.kids = l
    induction l with
    | nil => rfl
    | cons x l ih => simp only [sumL, ih]; unfold mks; omega
  show _ ≤ f.sz + 3 * f.nodes
  omega
theorem heldForm_step {p q : List Fm} {g : Fm} {j : Int} {t : ByteArray} {m m' : Int} (hj : 0 ≤ j) (hj2 : j < 4000000000000000000) (ht : laws_markText (j + 1) = some t) (hk : g.kind = j) (hn : g.name = t) (hm : g.num = j + 2) (h1 : laws_heldIntS g.sc (j + 3) = some m) (h2 : laws_heldFormS g.kids m = some m') (hm0 : 0 ≤ m) (hm1 : 0 ≤ m') (hp : p.length < 4611686018427387904) : laws_heldFormS_l0 (p ++ g :: q) j (p.length : Int) = laws_heldFormS_l0 (p ++ g :: q) m' ((p ++ [g]).length : Int) := by
  conv => lhs; rw [laws_heldFormS_l0]
  have hi : idx (p ++ g :: q) (p.length : Int) = some g := by
    rw [idx_nat _ p.length (by simp)]; simp
  rw [if_pos (by simp; omega), hi]
  simp only [bsome]
  have w1 : IntKind.i64.wrap (j + 1) = j + 1 := wrap1 hj (by omega)
  have w2 : IntKind.i64.wrap (j + 1 + 1) = j + 2 := by rw [wrap1 (by omega) (by omega)]; omega
  have w3 : IntKind.i64.wrap (j + 2 + 1) = j + 3 := by rw [wrap1 (by omega) (by omega)]; omega
  rw [w1, w2, w3, ht, if_pos hk]
  simp only [bsome]
  rw [if_pos hn, if_pos hm, h1]
  simp only [bsome]
  rw [if_neg (by omega), h2]
  simp only [bsome]
  rw [if_neg (by omega), wrap_nat (by omega)]
  simp
theorem markL_ok (fs : List Fm) (ih : ∀ f ∈ fs, ∀ k : Int, 0 ≤ k → k + f.sc.length + sumL mks f.kids < 4000000000000000000 → MarkOk f k) : ∀ (k : Int), 0 ≤ k → fs.length < 4000000000000000000 → k + sumL mks fs < 4000000000000000000 → MarkOkL fs k := by
  have key : ∀ (fs : List Fm) (ih : ∀ f ∈ fs, ∀ k : Int, 0 ≤ k → k + f.sc.length + sumL mks f.kids < 4000000000000000000 → MarkOk f k) (k : Int), 0 ≤ k → k + sumL mks fs < 4000000000000000000 → ∃ r, markL fs k = some r ∧ k ≤ r.2 ∧ r.2 ≤ k + sumL mks fs ∧ r.1.length = fs.length ∧ ∀ p : List Fm, p.length + fs.length < 4000000000000000000 → laws_heldFormS_l0 (p ++ r.1) k (p.length : Int) = some (.inr r.2) := by
    intro fs
    induction fs with
    | nil =>
      intro _ k h0 h
      refine ⟨([], k), rfl, Int.le_refl _, by simp [sumL], rfl, fun p _ => ?_⟩
      rw [List.append_nil, laws_heldFormS_l0, if_neg (by omega)]; rfl
    | cons f fs ihl =>
      intro ih k h0 h
      have e1 : sumL mks (f :: fs) = mks f + sumL mks fs := rfl
      have e2 := mks_eq f
      rw [e1] at h ⊢
      obtain ⟨t, ht⟩ := markText_tot (k := k + 1) (by omega)
      have w1 : IntKind.i64.wrap (k + 1) = k + 1 := wrap1 h0 (by omega)
      have w2 : IntKind.i64.wrap (k + 1 + 1) = k + 2 := by rw [wrap1 (by omega) (by omega)]; omega
      have w3 : IntKind.i64.wrap (k + 2 + 1) = k + 3 := by rw [wrap1 (by omega) (by omega)]; omega
      have hsc : ∃ r, markF f (k + 3) = some r ∧ k + 3 ≤ r.2 ∧ r.2 ≤ k + mks f ∧ laws_heldIntS r.1.sc (k + 3) = some (k + 3 + f.sc.length) ∧ laws_heldFormS r.1.kids (k + 3 + f.sc.length) = some r.2 := by
        obtain ⟨r, q1, q2, q3, q4, q5⟩ := ih f (List.mem_cons_self ..) (k + 3) (by omega) (by omega)
        exact ⟨r, q1, q2, by omega, q4, q5⟩
      obtain ⟨a, ha, ha1, ha2, ha3, ha4⟩ := hsc
      obtain ⟨r, hr, hr1, hr2, hr3, hr4⟩ := ihl (fun g hg => ih g (List.mem_cons_of_mem _ hg)) a.2 (by omega) (by omega)
      refine ⟨(.mk k t (k + 2) a.1.sc a.1.kids :: r.1, r.2), ?_, by simp only; omega, by simp only; omega, by simp [hr3], fun p hp => ?_⟩
      · rw [markL, w1, ht]
        simp only [bsome]
        rw [w2, w3, ha]
        simp only [bsome]
        rw [hr]; rfl
      · simp only [List.length_cons] at hp
        rw [heldForm_step (g := .mk k t (k + 2) a.1.sc a.1.kids) (m' := a.2) h0 (by omega) ht rfl rfl rfl ha3 ha4 (by omega) (by omega) (by omega)]
        have := hr4 (p ++ [.mk k t (k + 2) a.1.sc a.1.kids]) (by simp; omega)
        rw [List.append_assoc] at this
        exact this
  intro k h0 hl h
  obtain ⟨r, h1, h2, h3, h4, h5⟩ := key fs ih k h0 h
  refine ⟨r, h1, h2, h3, h4, ?_⟩
  have := h5 [] (by simp; omega)
  rw [laws_heldFormS]
  simp only [List.nil_append, List.length_nil, Int.natCast_zero] at this
  rw [this]; rfl
theorem markF_ok : ∀ (f : Fm), f.sz < 1000000000000 → ∀ k : Int, 0 ≤ k → k + f.sc.length + sumL mks f.kids < 4000000000000000000 → MarkOk f k := by
  intro f
  induction f using Fm.ind with
  | h f ih =>
    intro hz k h0 h
    have hs := Fm.sz_eq f
    obtain ⟨k1, k2⟩ := markI_ok f.sc k h0 (by omega)
    obtain ⟨r, h1, h2, h3, h4, h5⟩ := markL_ok f.kids (fun g hg => ih g hg (by have := Fm.sz_kid hg; omega)) (k + f.sc.length) (by omega) (by omega) h
    refine ⟨(.mk f.kind f.name f.num (markI f.sc k).1 r.1, r.2), ?_, by simp only; omega, by simp only; omega, heldI_ok f.sc k h0 (by omega), h5⟩
    obtain ⟨kk, s, n, sc, ks⟩ := f
    rw [markF]
    simp only [Fm.sc] at k1
    rw [k1]
    simp only [Fm.kids, Fm.sc] at h1
    rw [h1]; rfl
theorem heldForm_of {f : Fm} {k : Int} (h0 : 0 ≤ k) (h : MarkOk f k) : ∃ r, markF f k = some r ∧ 0 ≤ r.2 ∧ laws_heldForm r.1 k = some r.2 := by
  obtain ⟨r, h1, h2, h3, h4, h5⟩ := h
  refine ⟨r, h1, by omega, ?_⟩
  rw [laws_heldForm, h4]
  simp only [bsome]
  rw [if_neg (by omega), h5]
  simp only [bsome]
  rw [if_neg (by omega)]; rfl
end Go.Proofs.SA

