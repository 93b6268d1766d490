/- Marks of values that hold no program and no variables: they come to an end, and what was marked is held. -/
import Derived.Test.YtilkeeoinbndoaaMb
import Derived.Test.YtilkeeoinbndoaaQg
set_option linter.unusedVariables false
set_option linter.unusedSimpArgs false
set_option maxRecDepth 100000
open Go Go.Proofs Go.Proofs.Shadow
namespace Go.Proofs.SA
/-- The next number. -/
abbrev nx (k : Int) : Int := IntKind.i64.wrap (k + 1)
mutual
/-- A value's items, marked from k on; the number behind. -/
def markV : Val → Int → Option (List Val × Int)
  | .mk _ _ _ l _ _, k => markVL l k
def markVL : List Val → Int → Option (List Val × Int)
  | [], k => some ([], k)
  | v :: l, k => do
    let t ← laws_markText (nx (nx k))
    let a ← markV v (nx (nx (nx k)))
    let t2 ← laws_markText (nx (nx a.2))
    let t3 ← laws_markText (nx (nx (nx (nx (nx a.2)))))
    let r ← markVL l (nx (nx (nx (nx (nx (nx (nx a.2)))))))
    pure (.mk k (nx k) t a.1 (.mk a.2 (nx a.2) t2 (nx (nx (nx a.2))) [] (.mk (nx (nx (nx (nx a.2)))) t3 (nx (nx (nx (nx (nx (nx a.2)))))) [] []) []) [] :: r.1, r.2)
end
/-- A value without a program and without variables. -/
inductive Thin : Val → Prop
  | mk {k n : Int} {s : ByteArray} {l : List Val} {ck ci : Int} {cs : ByteArray} {cn dk : Int} {ds : ByteArray} {dn : Int} (h : ∀ x ∈ l, Thin x) : Thin (.mk k n s l (.mk ck ci cs cn [] (.mk dk ds dn [] []) []) [])
theorem heldI_nil (k : Int) : laws_heldIntS [] k = some k := by rw [laws_heldIntS, laws_heldIntS_l0, if_neg (by decide)]; rfl
theorem heldF_nil (k : Int) : laws_heldFormS [] k = some k := by rw [laws_heldFormS, laws_heldFormS_l0, if_neg (by decide)]; rfl
theorem heldC_nil (k : Int) : laws_heldCoreS [] k = some k := by rw [laws_heldCoreS, laws_heldCoreS_l0, if_neg (by decide)]; rfl
theorem heldS_nil (k : Int) : laws_heldSlotS [] k = some k := by rw [laws_heldSlotS, laws_heldSlotS_l0, if_neg (by decide)]; rfl
/-- What one marked value is. -/
def mval (j m : Int) (t t2 t3 : ByteArray) (its : List Val) : Val := .mk j (j + 1) t its (.mk m (m + 1) t2 (m + 3) [] (.mk (m + 4) t3 (m + 6) [] []) []) []
theorem heldVal_step {p q : List Val} {j m : Int} {t t2 t3 : ByteArray} {its : List Val} (hj : 0 ≤ j) (hj2 : j < 4000000000000000000) (hm : 0 ≤ m) (hm2 : m < 4000000000000000000) (ht : laws_markText (j + 2) = some t) (h : laws_heldValueS its (j + 3) = some m) (ht2 : laws_markText (m + 2) = some t2) (ht3 : laws_markText (m + 5) = some t3) (hp : p.length < 4000000000000000000) :
    laws_heldValueS_l0 (p ++ mval j m t t2 t3 its :: q) j (p.length : Int) = laws_heldValueS_l0 (p ++ mval j m t t2 t3 its :: q) (m + 7) ((p ++ [mval j m t t2 t3 its]).length : Int) := by
  conv => lhs; rw [laws_heldValueS_l0]
  have hi : idx (p ++ mval j m t t2 t3 its :: q) (p.length : Int) = some (mval j m t t2 t3 its) := by
    rw [idx_nat _ p.length (by simp)]; simp
  have w : ∀ (a b : Int), 0 ≤ a → a < 4500000000000000000 → a + 1 = b → IntKind.i64.wrap (a + 1) = b := fun a b h0 h1 e => by rw [wrap1 h0 (by omega), e]
  have e1 := w j _ hj (by omega) rfl
  have e2 := w (j + 1) (j + 2) (by omega) (by omega) (by omega)
  have e3 := w (j + 2) (j + 3) (by omega) (by omega) (by omega)
  have f1 := w m _ hm (by omega) rfl
  have f2 := w (m + 1) (m + 2) (by omega) (by omega) (by omega)
  have f3 := w (m + 2) (m + 3) (by omega) (by omega) (by omega)
  have f4 := w (m + 3) (m + 4) (by omega) (by omega) (by omega)
  have f5 := w (m + 4) (m + 5) (by omega) (by omega) (by omega)
  have f6 := w (m + 5) (m + 6) (by omega) (by omega) (by omega)
  have f7 := w (m + 6) (m + 7) (by omega) (by omega) (by omega)
  have e8 : IntKind.i64.wrap ((p.length : Int) + 1) = ((p ++ [mval j m t t2 t3 its]).length : Int) := by rw [wrap_nat (by omega)]; simp
  have n1 : ¬ m < 0 := by omega
  have n2 : ¬ m + 4 < 0 := by omega
  have n3 : ¬ m + 7 < 0 := by omega
  rw [if_pos (by simp; omega), hi]
  simp only [bsome, e1, e2, e3, ht, h]
  simp only [mval, Val.kind, Val.num, Val.name, Val.items, Val.fn, Val.env, Cor.kind, Cor.id, Cor.name, Cor.num, Cor.ids, Cor.data, Cor.kids, Fm.kind, Fm.name, Fm.num, Fm.sc, Fm.kids, h, bsome, if_true, n1, if_false, f1, f2, f3, f4, f5, f6, f7, ht2, ht3, heldI_nil, heldF_nil, heldC_nil, heldS_nil, n2, n3]
  rw [show IntKind.i64.wrap ((p.length : Int) + 1) = _ from e8]; rfl
/-- A value's marks: they end, stay in number, and are held. -/
def MarkVOk (v : Val) (k : Int) : Prop := ∃ r, markV v k = some r ∧ k ≤ r.2 ∧ r.2 ≤ k + 10 * (v.sz : Int) ∧ laws_heldValueS r.1 k = some r.2
theorem markVL_ok (fs : List Val) (ih : ∀ f ∈ fs, ∀ k : Int, 0 ≤ k → k + 10 * (f.sz : Int) < 3000000000000000000 → MarkVOk f k) : ∀ (k : Int), 0 ≤ k → fs.length < 3000000000000000000 → k + 10 * ((fs.length + sumL Val.sz fs : Nat) : Int) < 3000000000000000000 → ∃ r, markVL fs k = some r ∧ k ≤ r.2 ∧ r.2 ≤ k + 10 * ((fs.length + sumL Val.sz fs : Nat) : Int) ∧ laws_heldValueS r.1 k = some r.2 := by
  have key : ∀ (fs : List Val) (ih : ∀ f ∈ fs, ∀ k : Int, 0 ≤ k → k + 10 * (f.sz : Int) < 3000000000000000000 → MarkVOk f k) (k : Int), 0 ≤ k → k + 10 * ((fs.length + sumL Val.sz fs : Nat) : Int) < 3000000000000000000 → ∃ r, markVL fs k = some r ∧ k ≤ r.2 ∧ r.2 ≤ k + 10 * ((fs.length + sumL Val.sz fs : Nat) : Int) ∧ r.1.length = fs.length ∧ ∀ p : List Val, p.length + fs.length < 3000000000000000000 → laws_heldValueS_l0 (p ++ r.1) k (p.length : Int) = some (.inr r.2) := by
    intro fs
    induction fs with
    | nil =>
      intro _ k h0 h
      refine ⟨([], k), rfl, Int.le_refl _, by simp [sumL], rfl, fun p _ => ?_⟩
      rw [List.append_nil, laws_heldValueS_l0, if_neg (by omega)]; rfl
    | cons f fs ihl =>
      intro ih k h0 h
      have e1 : sumL Val.sz (f :: fs) = f.sz + sumL Val.sz fs := rfl
      rw [e1] at h ⊢
      simp only [List.length_cons] at h ⊢
      have w : ∀ (a b : Int), 0 ≤ a → a < 4500000000000000000 → a + 1 = b → nx a = b := fun a b h0 h1 e => by show IntKind.i64.wrap (a + 1) = b; rw [wrap1 h0 (by omega), e]
      obtain ⟨t, ht⟩ := markText_tot (k := k + 2) (by omega)
      obtain ⟨a, ha, ha1, ha2, ha3⟩ := ih f (List.mem_cons_self ..) (k + 3) (by omega) (by omega)
      obtain ⟨t2, ht2⟩ := markText_tot (k := a.2 + 2) (by omega)
      obtain ⟨t3, ht3⟩ := markText_tot (k := a.2 + 5) (by omega)
      obtain ⟨r, hr, hr1, hr2, hr3, hr4⟩ := ihl (fun g hg => ih g (List.mem_cons_of_mem _ hg)) (a.2 + 7) (by omega) (by omega)
      have e1 := w k _ h0 (by omega) rfl
      have e2 := w (k + 1) (k + 2) (by omega) (by omega) (by omega)
      have e3 := w (k + 2) (k + 3) (by omega) (by omega) (by omega)
      have f1 := w a.2 _ (by omega) (by omega) rfl
      have f2 := w (a.2 + 1) (a.2 + 2) (by omega) (by omega) (by omega)
      have f3 := w (a.2 + 2) (a.2 + 3) (by omega) (by omega) (by omega)
      have f4 := w (a.2 + 3) (a.2 + 4) (by omega) (by omega) (by omega)
      have f5 := w (a.2 + 4) (a.2 + 5) (by omega) (by omega) (by omega)
      have f6 := w (a.2 + 5) (a.2 + 6) (by omega) (by omega) (by omega)
      have f7 := w (a.2 + 6) (a.2 + 7) (by omega) (by omega) (by omega)
      refine ⟨(mval k a.2 t t2 t3 a.1 :: r.1, r.2), ?_, by simp only; omega, by simp only; omega, by simp [hr3], fun p hp => ?_⟩
      · rw [markVL]
        simp only [e1, e2, e3, ht, bsome, ha, f1, f2, f3, f4, f5, f6, f7, ht2, ht3, hr]
        rfl
      · rw [heldVal_step h0 (by omega) (by omega) (by omega) ht ha3 ht2 ht3 (by omega)]
        have := hr4 (p ++ [mval k a.2 t t2 t3 a.1]) (by simp; omega)
        rw [List.append_assoc] at this
        exact this
  intro k h0 hl h
  obtain ⟨r, h1, h2, h3, h4, h5⟩ := key fs ih k h0 h
  refine ⟨r, h1, h2, h3, ?_⟩
  have := h5 [] (by simp; omega)
  rw [laws_heldValueS]
  simp only [List.nil_append, List.length_nil, Int.natCast_zero] at this
  rw [this]; rfl
theorem markV_ok : ∀ (v : Val), v.sz < 100000000000 → ∀ k : Int, 0 ≤ k → k + 10 * (v.sz : Int) < 3000000000000000000 → MarkVOk v k := by
  intro v
  induction v using Val.ind with
  | h v ih _ =>
    intro hz k h0 h
    have hs := Val.sz_eq v
    obtain ⟨r, h1, h2, h3, h4⟩ := markVL_ok v.items (fun g hg => ih g hg (by have := sumL_mem Val.sz v.items g hg; omega)) k h0 (by omega) (by omega)
    refine ⟨r, ?_, h2, by omega, h4⟩
    obtain ⟨kk, n, s, l, f, e⟩ := v
    rw [markV]; exact h1
/-- The whole value, its items marked. -/
def remark (v : Val) (l : List Val) : Val := .mk v.kind v.num v.name l v.fn v.env
theorem heldValue_of {v : Val} (ht : Thin v) {k : Int} (h0 : 0 ≤ k) (h : MarkVOk v k) : ∃ r, markV v k = some r ∧ 0 ≤ r.2 ∧ laws_heldValue (remark v r.1) k = some r.2 := by
  obtain ⟨r, h1, h2, h3, h4⟩ := h
  refine ⟨r, h1, by omega, ?_⟩
  cases ht
  have hn : ¬ r.2 < 0 := by omega
  simp only [laws_heldValue, remark, Val.items, h4, bsome, hn, if_false, laws_heldCore, laws_heldForm, Val.fn, Val.env, Cor.ids, Cor.data, Cor.kids, Fm.sc, Fm.kids, heldI_nil, heldF_nil, heldC_nil, heldS_nil, psome]
end Go.Proofs.SA

