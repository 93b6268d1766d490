import Derived.Test.YtblnlnckbocddaaFmC
import Derived.Test.YtblnlnckbocddaaSaTy
set_option linter.unusedSimpArgs false
set_option linter.unusedVariables false
open Go Go.Proofs Go.Proofs.Shadow
namespace Go.Proofs.SA
theorem cnt_c (x : ByteArray) (f : Fm) : f.sz < 4294967296 → PCtr Try.prog 9 [.agg f.cells, .str x] (.int .i64 (Fm.cnt x f)) := by
  induction f using Fm.ind with
  | h f ih =>
  intro hz σ
  obtain ⟨k, s, n, sc, ks⟩ := f
  refine ctr_of mixed Try.func9 rfl (by kernel_rfl) (rs := [.tmp 4]) rfl (by kernel_rfl) ?_
  simp only [go_sem, ↓reduceIte, Nat.reduceEqDiff, Nat.reduceAdd, Nat.reduceLeDiff, Nat.reduceLT, Int.toNat_natCast, Fm.cells]
  refine aAlloc_intro fun b hb => ?_
  simp only [go_sem, ↓reduceIte, Nat.reduceEqDiff, Nat.reduceAdd, Nat.reduceLeDiff, Nat.reduceLT, Int.toNat_natCast]
  refine aGd_cut 7 15 (.bool (decide (k = 1) && decide (s = x))) (aGd_intro (fun h => ?_) (fun h => ?_)) (fun J => ?_)
  · simp only [go_sem, ↓reduceIte, Nat.reduceEqDiff, Nat.reduceAdd, Nat.reduceLeDiff, Nat.reduceLT, Int.toNat_natCast, h]
    refine cut_done 7 (by simp [upd, h]) ?_
    (repeat (first | refine agree_upd (by decide) ?_ | refine agree_low (by decide) ?_)) <;> (repeat (first | refine agree_updR (by decide) ?_ | refine agree_lowR (by decide) ?_)) <;> exact fun _ _ _ => rfl
  · simp only [go_sem, ↓reduceIte, Nat.reduceEqDiff, Nat.reduceAdd, Nat.reduceLeDiff, Nat.reduceLT, Int.toNat_natCast, h]
    refine cut_done 7 (by simp [upd, h]) ?_
    (repeat (first | refine agree_upd (by decide) ?_ | refine agree_low (by decide) ?_)) <;> (repeat (first | refine agree_updR (by decide) ?_ | refine agree_lowR (by decide) ?_)) <;> exact fun _ _ _ => rfl
  simp only [go_sem, ↓reduceIte, Nat.reduceEqDiff, Nat.reduceAdd, Nat.reduceLeDiff, Nat.reduceLT, Int.toNat_natCast]
  refine aCnd_cut 7 5 (.int .i64 (hit x k s)) (aCnd_intro (fun h => ?_) (fun h => ?_)) (fun J => ?_)
  · simp only [go_sem, ↓reduceIte, Nat.reduceEqDiff, Nat.reduceAdd, Nat.reduceLeDiff, Nat.reduceLT, Int.toNat_natCast]
    refine cut_done 7 (by simp [upd, hit_b, h]) ?_
    (repeat (first | refine agree_upd (by decide) ?_ | refine agree_low (by decide) ?_)) <;> (repeat (first | refine agree_updR (by decide) ?_ | refine agree_lowR (by decide) ?_)) <;> exact fun _ _ _ => rfl
  · simp only [go_sem, ↓reduceIte, Nat.reduceEqDiff, Nat.reduceAdd, Nat.reduceLeDiff, Nat.reduceLT, Int.toNat_natCast]
    refine cut_done 7 (by simp [upd, low, hit_b, h]) ?_
    (repeat (first | refine agree_upd (by decide) ?_ | refine agree_low (by decide) ?_)) <;> (repeat (first | refine agree_updR (by decide) ?_ | refine agree_lowR (by decide) ?_)) <;> exact fun _ _ _ => rfl
  simp only [go_sem, ↓reduceIte, Nat.reduceEqDiff, Nat.reduceAdd, Nat.reduceLeDiff, Nat.reduceLT, Int.toNat_natCast]
  have e1 := Fm.sz_eq (.mk k s n sc ks)
  simp only [Fm.name, Fm.sc, Fm.kids] at e1
  have e0 := hit_le x k s
  have e2 := sumL_le_len (Fm.cnt x) Fm.sz ks (fun a _ => Fm.cnt_le x a)
  refine aLoop_for ks.length (fun i s' => ∃ T, s' = ⟨T, σ.setVar b ⟨30, 5, Fm.cells (.mk k s n sc ks)⟩⟩ ∧ T 1 = .str x ∧ T 2 = .ptr b 0 ∧ T 5 = .int .i64 ((hit x k s : Int) + (sumL (Fm.cnt x) (ks.take i) : Nat)) ∧ T 6 = .int .i64 i) 0 ⟨_, rfl, ?_⟩ (Nat.zero_le _) ?_
  · simp only [go_sem, ↓reduceIte, Nat.reduceEqDiff, Nat.reduceAdd, Nat.reduceLeDiff, Nat.reduceLT, Int.toNat_natCast]
    simp [sumL]
  · rintro i s' hi ⟨T, rfl, h1, h2, h5, h6⟩
    simp only [go_sem, ↓reduceIte, Nat.reduceEqDiff, Nat.reduceAdd, Nat.reduceLeDiff, Nat.reduceLT, Int.toNat_natCast, h1, h2, h5, h6, Fm.cells]
    refine aCnd_intro (fun hc => ?_) (fun hc => ?_)
    · simp at hc
      simp only [go_sem, ↓reduceIte, Nat.reduceEqDiff, Nat.reduceAdd, Nat.reduceLeDiff, Nat.reduceLT, Int.toNat_natCast, h1, h2, h5, h6, Fm.cells, aidx_fm hc, aload_fm]
      have hm := List.getElem_mem hc
      refine aCall_pure (ih _ hm (by have := Fm.sz_kid (f := .mk k s n sc ks) hm; omega)) (WkVL.refl _) ?_
      have e3 := sumL_take (Fm.cnt x) ks i hc
      have e4 := sumL_le (Fm.cnt x) ks (i + 1)
      have e5 : IntKind.i64.wrap (((hit x k s : Int) + (sumL (Fm.cnt x) (ks.take i) : Nat)) + (Fm.cnt x ks[i] : Int)) = (hit x k s : Int) + (sumL (Fm.cnt x) (ks.take (i + 1)) : Nat) := by
        rw [wrap_id (by omega) (by omega)]; omega
      simp only [go_sem, ↓reduceIte, Nat.reduceEqDiff, Nat.reduceAdd, Nat.reduceLeDiff, Nat.reduceLT, Int.toNat_natCast, h1, h2, h5, h6, Fm.cells, wrap_succ (show i < 4611686018427387904 by omega), e5]
      refine ⟨hc, _, rfl, ?_⟩
      simp only [go_sem, ↓reduceIte, Nat.reduceEqDiff, Nat.reduceAdd, Nat.reduceLeDiff, Nat.reduceLT, Int.toNat_natCast, h1, h2, h5, h6]
      simp
    · simp at hc
      simp only [go_sem, ↓reduceIte, Nat.reduceEqDiff, Nat.reduceAdd, Nat.reduceLeDiff, Nat.reduceLT, Int.toNat_natCast, h1, h2, h5, h6, Fm.cells]
      refine aRet_sub rfl ((Sub.refl _).set_var hb _) ?_
      simp only [go_sem, ↓reduceIte, Nat.reduceEqDiff, Nat.reduceAdd, Nat.reduceLeDiff, Nat.reduceLT, Int.toNat_natCast]
      rw [Fm.cnt_eq, List.take_of_length_le hc]
      simp only [Fm.kind, Fm.name, Fm.kids]
      simp
theorem named_c (f : Fm) (x : ByteArray) : PCtr Try.prog 29 [.agg f.cells, .str x] (.bool (f.isNm x)) := by
  intro σ
  obtain ⟨k, s, n, sc, ks⟩ := f
  refine ctr_of mixed Try.func29 rfl (by kernel_rfl) (rs := [.tmp 4]) rfl (by kernel_rfl) ?_
  simp only [go_sem, ↓reduceIte, Nat.reduceEqDiff, Nat.reduceAdd, Nat.reduceLeDiff, Nat.reduceLT, Int.toNat_natCast, Fm.cells]
  refine aAlloc_intro fun b hb => ?_
  simp only [go_sem, ↓reduceIte, Nat.reduceEqDiff, Nat.reduceAdd, Nat.reduceLeDiff, Nat.reduceLT, Int.toNat_natCast]
  refine aGd_intro (fun h => ?_) (fun h => ?_)
  · simp only [go_sem, ↓reduceIte, Nat.reduceEqDiff, Nat.reduceAdd, Nat.reduceLeDiff, Nat.reduceLT, Int.toNat_natCast, h]
    refine aRet_sub rfl ((Sub.refl _).set_var hb _) ?_
    simp only [go_sem, ↓reduceIte, Nat.reduceEqDiff, Nat.reduceAdd, Nat.reduceLeDiff, Nat.reduceLT, Int.toNat_natCast, Fm.isNm, h]
    rw [Bool.true_and]
  · simp only [go_sem, ↓reduceIte, Nat.reduceEqDiff, Nat.reduceAdd, Nat.reduceLeDiff, Nat.reduceLT, Int.toNat_natCast, h]
    refine aRet_sub rfl ((Sub.refl _).set_var hb _) ?_
    simp only [go_sem, ↓reduceIte, Nat.reduceEqDiff, Nat.reduceAdd, Nat.reduceLeDiff, Nat.reduceLT, Int.toNat_natCast, Fm.isNm, h]
    rw [Bool.false_and]
/-- What a function that is called with each form may turn: blocks of E; I: what it keeps. -/
def Acc {α : Type} (P : Program) (E : List Nat) (g : FuncId) (caps : List AV) (I : α → Sto → Prop) (step : α → Fm → α) (f : Fm) : Prop :=
  ∀ a σ, I a σ → Ctr P g (.agg f.cells :: caps) σ fun r σ' => I (step a f) σ' ∧ ∀ b e, b ∉ E → σ.var b = some e → σ'.var b = some e
theorem each_c {α : Type} (E : List Nat) (g : FuncId) (caps : List AV) (I : α → Sto → Prop) (step : α → Fm → α) (hI : ∀ a σ b e, I a σ → σ.dead b → I a (σ.setVar b e)) (hE : ∀ a σ b, I a σ → σ.dead b → b ∉ E) (f : Fm) :
    f.sz < 4294967296 → (∀ h ∈ f.all, Acc Try.prog E g caps I step h) → ∀ a σ, I a σ → Ctr Try.prog 27 [.agg f.cells, .fn g caps] σ fun r σ' => I (f.all.foldl step a) σ' ∧ ∀ b e, b ∉ E → σ.var b = some e → σ'.var b = some e := by
  induction f using Fm.ind with
  | h f ih =>
  intro hz hA a σ ha
  obtain ⟨k, s, n, sc, ks⟩ := f
  refine ctr_of mixed Try.func27 rfl (by kernel_rfl) (rs := []) rfl (by kernel_rfl) ?_
  simp only [go_sem, ↓reduceIte, Nat.reduceEqDiff, Nat.reduceAdd, Nat.reduceLeDiff, Nat.reduceLT, Int.toNat_natCast, Fm.cells]
  refine aAlloc_intro fun b hb => ?_
  simp only [go_sem, ↓reduceIte, Nat.reduceEqDiff, Nat.reduceAdd, Nat.reduceLeDiff, Nat.reduceLT, Int.toNat_natCast]
  have h0 := hA (.mk k s n sc ks) (by simp [Fm.all]) a (σ.setVar b ⟨30, 5, Fm.cells (.mk k s n sc ks)⟩) (hI _ _ _ _ ha hb)
  refine aCall_ctr h0 (by simpa [Fm.cells] using WkVL.refl _) ?_
  rintro r σ1 ⟨hI1, hk1⟩
  have hv1 := hk1 b ⟨30, 5, Fm.cells (.mk k s n sc ks)⟩ (hE a σ b ha hb) (by simp only [go_sem, ↓reduceIte, Nat.reduceEqDiff, Nat.reduceAdd, Nat.reduceLeDiff, Nat.reduceLT, Int.toNat_natCast])
  simp only [go_sem, ↓reduceIte, Nat.reduceEqDiff, Nat.reduceAdd, Nat.reduceLeDiff, Nat.reduceLT, Int.toNat_natCast, hv1, Fm.cells]
  have e1 := Fm.sz_eq (.mk k s n sc ks)
  simp only [Fm.name, Fm.sc, Fm.kids] at e1
  refine aLoop_for ks.length (fun i s' => ∃ T σ', s' = ⟨T, σ'⟩ ∧ T 1 = .fn g caps ∧ T 10 = .sl false (Fm.rows ks) ∧ T 11 = .int .i64 ks.length ∧ T 12 = .int .i64 i ∧ I ((Fm.allL (ks.take i)).foldl step (step a (.mk k s n sc ks))) σ' ∧ ∀ b e, b ∉ E → σ.var b = some e → σ'.var b = some e) 0 ⟨_, _, rfl, ?_⟩ (Nat.zero_le _) ?_
  · simp only [go_sem, ↓reduceIte, Nat.reduceEqDiff, Nat.reduceAdd, Nat.reduceLeDiff, Nat.reduceLT, Int.toNat_natCast]
    simp only [Fm.allL, List.foldl_nil, Int.ofNat_zero, true_and]
    exact ⟨hI1, fun b2 e hb2 he => hk1 b2 e hb2 (by simp only [go_sem, ↓reduceIte, Nat.reduceEqDiff, Nat.reduceAdd, Nat.reduceLeDiff, Nat.reduceLT, Int.toNat_natCast]; rw [if_neg (fun h => by subst h; rw [hb.1] at he; cases he)]; exact he)⟩
  · rintro i s' hi ⟨T, σ', rfl, h1, h10, h11, h12, hI2, hk2⟩
    simp only [go_sem, ↓reduceIte, Nat.reduceEqDiff, Nat.reduceAdd, Nat.reduceLeDiff, Nat.reduceLT, Int.toNat_natCast, h1, h10, h11, h12]
    refine aCnd_intro (fun hc => ?_) (fun hc => ?_)
    · simp at hc
      simp only [go_sem, ↓reduceIte, Nat.reduceEqDiff, Nat.reduceAdd, Nat.reduceLeDiff, Nat.reduceLT, Int.toNat_natCast, h1, h10, h11, h12, aidx_fm hc, aload_fm, avCells]
      refine aAlloc_intro fun b2 hb2 => ?_
      simp only [go_sem, ↓reduceIte, Nat.reduceEqDiff, Nat.reduceAdd, Nat.reduceLeDiff, Nat.reduceLT, Int.toNat_natCast, h1, h10, h11, h12]
      have hm := List.getElem_mem hc
      refine aCall_ctr (ih _ hm (by have := Fm.sz_kid (f := .mk k s n sc ks) hm; omega) (fun h hh => hA h (by simp only [Fm.all, List.mem_cons]; exact .inr (Fm.allL_mem ks _ h hm hh))) _ _ (hI _ _ b2 ⟨30, 5, ks[i].cells⟩ hI2 hb2)) (WkVL.refl _) ?_
      rintro r σ3 ⟨hI3, hk3⟩
      simp only [go_sem, ↓reduceIte, Nat.reduceEqDiff, Nat.reduceAdd, Nat.reduceLeDiff, Nat.reduceLT, Int.toNat_natCast, h1, h10, h11, h12, wrap_succ (show i < 4611686018427387904 by omega)]
      refine ⟨hc, _, _, rfl, ?_⟩
      simp only [go_sem, ↓reduceIte, Nat.reduceEqDiff, Nat.reduceAdd, Nat.reduceLeDiff, Nat.reduceLT, Int.toNat_natCast, h1, h10, h11, h12]
      rw [Fm.allL_take ks i hc, List.foldl_append]
      refine ⟨trivial, trivial, trivial, trivial, hI3, fun b3 e hb3 he => hk3 b3 e hb3 ?_⟩
      simp only [go_sem, ↓reduceIte, Nat.reduceEqDiff, Nat.reduceAdd, Nat.reduceLeDiff, Nat.reduceLT, Int.toNat_natCast]
      rw [if_neg (fun h => by subst h; have := hk2 _ _ hb3 he; rw [hb2.1] at this; cases this)]
      exact hk2 _ _ hb3 he
    · simp at hc
      simp only [go_sem, ↓reduceIte, Nat.reduceEqDiff, Nat.reduceAdd, Nat.reduceLeDiff, Nat.reduceLT, Int.toNat_natCast, h1, h10, h11, h12]
      rw [List.take_of_length_le hc] at hI2
      exact ⟨_, rfl, _, _, Wk.refl _ _, by simpa only [Fm.all, List.foldl_cons] using hI2, hk2⟩
theorem wrap_add (a b : Int) : IntKind.wrap .i64 (IntKind.wrap .i64 a + b) = IntKind.wrap .i64 (a + b) := by simp only [IntKind.wrap_i64]; omega
theorem foldl_hit (x : ByteArray) : ∀ (l : List Fm) (a : Nat), l.foldl (fun a f => a + hit x f.kind f.name) a = a + sumL (fun f => hit x f.kind f.name) l
  | [], a => by simp [sumL]
  | f :: l, a => by simp only [List.foldl_cons, sumL, foldl_hit x l]; omega
theorem all_hit (x : ByteArray) (f : Fm) : sumL (fun f => hit x f.kind f.name) f.all = f.cnt x := by
  induction f using Fm.ind with
  | h f ih =>
  obtain ⟨k, s, n, sc, ks⟩ := f
  have h : ∀ l : List Fm, (∀ g ∈ l, sumL (fun f => hit x f.kind f.name) g.all = g.cnt x) → sumL (fun f => hit x f.kind f.name) (Fm.allL l) = Fm.cntL x l := by
    intro l
    induction l with
    | nil => intro _; rfl
    | cons g l ihl => intro hg; rw [Fm.allL, sumL_app, hg g (by simp), ihl (fun h hh => hg h (by simp [hh])), Fm.cntL]
  rw [Fm.all, sumL, h ks ih, Fm.cnt]
  rfl
theorem isNm_hit (x : ByteArray) (f : Fm) : (f.isNm x = true → hit x f.kind f.name = 1) ∧ (f.isNm x = false → hit x f.kind f.name = 0) := by
  obtain ⟨k, s, n, sc, ks⟩ := f
  simp only [Fm.isNm, Fm.kind, Fm.name, hit]
  by_cases h1 : k = 1 <;> by_cases h2 : s = x <;> simp [h1, h2]
/-- What CountName's inner function keeps. -/
def CI (bx bn : Nat) (σ0 : Sto) (x : ByteArray) (a : Nat) (σ : Sto) : Prop := bx ≠ bn ∧ σ.var bx = some ⟨9, 1, [.str x]⟩ ∧ σ.var bn = some ⟨3, 1, [.int .i64 (IntKind.wrap .i64 (a : Int))]⟩ ∧ Sub σ0 σ ∧ σ0.dead bn
theorem inner_c (bx bn : Nat) (σ0 : Sto) (x : ByteArray) (f : Fm) (a : Nat) (σ : Sto) (h : CI bx bn σ0 x a σ) : Ctr Try.prog 28 [.agg f.cells, .ptr bx 0, .ptr bn 0] σ fun r σ' => CI bx bn σ0 x (a + hit x f.kind f.name) σ' ∧ ∀ b e, b ∉ [bn] → σ.var b = some e → σ'.var b = some e := by
  obtain ⟨h1, h3, h4, h5, h6⟩ := h
  refine ctr_of mixed Try.func28 rfl (by kernel_rfl) (rs := []) rfl (by kernel_rfl) ?_
  simp only [go_sem, ↓reduceIte, Nat.reduceEqDiff, Nat.reduceAdd, Nat.reduceLeDiff, Nat.reduceLT, Int.toNat_natCast]
  refine aAlloc_intro fun b hb => ?_
  have hx : bx ≠ b := fun h => by subst h; rw [hb.1] at h3; cases h3
  have hn : bn ≠ b := fun h => by subst h; rw [hb.1] at h4; cases h4
  simp only [go_sem, ↓reduceIte, Nat.reduceEqDiff, Nat.reduceAdd, Nat.reduceLeDiff, Nat.reduceLT, Int.toNat_natCast, h3, h4, hx, hn]
  refine aCall_pure (named_c f x) (WkVL.refl _) ?_
  simp only [go_sem, ↓reduceIte, Nat.reduceEqDiff, Nat.reduceAdd, Nat.reduceLeDiff, Nat.reduceLT, Int.toNat_natCast]
  refine aCnd_intro (fun hc => ?_) (fun hc => ?_)
  · have e5 : IntKind.i64.wrap (IntKind.i64.wrap (a : Int) + 1) = IntKind.i64.wrap ((a + 1 : Nat) : Int) := by simp only [IntKind.wrap_i64]; omega
    simp only [go_sem, ↓reduceIte, Nat.reduceEqDiff, Nat.reduceAdd, Nat.reduceLeDiff, Nat.reduceLT, Int.toNat_natCast, h3, h4, hx, hn]
    simp only [e5]
    refine ⟨_, rfl, _, _, Wk.refl _ _, ⟨h1, ?_, ?_, ?_, h6⟩, ?_⟩
    · simp only [go_sem, ↓reduceIte, Nat.reduceEqDiff, Nat.reduceAdd, Nat.reduceLeDiff, Nat.reduceLT, Int.toNat_natCast, h3, h1, hx]
    · simp only [go_sem, ↓reduceIte, Nat.reduceEqDiff, Nat.reduceAdd, Nat.reduceLeDiff, Nat.reduceLT, Int.toNat_natCast, h4, hn, (isNm_hit x f).1 hc]
    · exact (h5.setVar (h5.dead hb).1 _).setVar h6.1 _
    · intro b' e hb' he
      have hb'' : b' ≠ bn := by simpa using hb'
      have : b' ≠ b := fun h => by subst h; rw [hb.1] at he; cases he
      simp only [go_sem, ↓reduceIte, Nat.reduceEqDiff, Nat.reduceAdd, Nat.reduceLeDiff, Nat.reduceLT, Int.toNat_natCast, hb'', this, he]
  · simp only [go_sem, ↓reduceIte, Nat.reduceEqDiff, Nat.reduceAdd, Nat.reduceLeDiff, Nat.reduceLT, Int.toNat_natCast]
    refine ⟨_, rfl, _, _, Wk.refl _ _, ⟨h1, ?_, ?_, ?_, h6⟩, ?_⟩
    · simp only [go_sem, ↓reduceIte, Nat.reduceEqDiff, Nat.reduceAdd, Nat.reduceLeDiff, Nat.reduceLT, Int.toNat_natCast, h3, h1, hx]
    · simp only [go_sem, ↓reduceIte, Nat.reduceEqDiff, Nat.reduceAdd, Nat.reduceLeDiff, Nat.reduceLT, Int.toNat_natCast, h4, hn, (isNm_hit x f).2 hc]
    · exact h5.setVar (h5.dead hb).1 _
    · intro b' e hb' he
      have : b' ≠ b := fun h => by subst h; rw [hb.1] at he; cases he
      simp only [go_sem, ↓reduceIte, Nat.reduceEqDiff, Nat.reduceAdd, Nat.reduceLeDiff, Nat.reduceLT, Int.toNat_natCast, this, he]
theorem count_c (x : ByteArray) (f : Fm) (hz : f.sz < 4294967296) : PCtr Try.prog 11 [.agg f.cells, .str x] (.int .i64 (Fm.cnt x f)) := by
  intro σ
  refine ctr_of mixed Try.func11 rfl (by kernel_rfl) (rs := [.tmp 4]) rfl (by kernel_rfl) ?_
  simp only [go_sem, ↓reduceIte, Nat.reduceEqDiff, Nat.reduceAdd, Nat.reduceLeDiff, Nat.reduceLT, Int.toNat_natCast]
  refine aAlloc_intro fun b1 hb1 => ?_
  simp only [go_sem, ↓reduceIte, Nat.reduceEqDiff, Nat.reduceAdd, Nat.reduceLeDiff, Nat.reduceLT, Int.toNat_natCast]
  refine aAlloc_intro fun bx hbx => ?_
  simp only [go_sem, ↓reduceIte, Nat.reduceEqDiff, Nat.reduceAdd, Nat.reduceLeDiff, Nat.reduceLT, Int.toNat_natCast]
  refine aAlloc_intro fun bn hbn => ?_
  have n1 : b1 ≠ bx := (dead_setVar hbx).1.symm
  have n2 : b1 ≠ bn := (dead_setVar (dead_setVar hbn).2).1.symm
  have n3 : bx ≠ bn := (dead_setVar hbn).1.symm
  simp only [go_sem, ↓reduceIte, Nat.reduceEqDiff, Nat.reduceAdd, Nat.reduceLeDiff, Nat.reduceLT, Int.toNat_natCast, n1, n2, n3]
  have e1 := Fm.cnt_le x f
  refine aCall_ctr (each_c [bn] 28 [.ptr bx 0, .ptr bn 0] (CI bx bn σ x) (fun a f => a + hit x f.kind f.name) ?_ ?_ f hz ?_ 0 _ ?_) (WkVL.refl _) ?_
  · rintro a σ1 b e ⟨h1, h3, h4, h5, h6⟩ hb
    have hx : bx ≠ b := fun h => by subst h; rw [hb.1] at h3; cases h3
    have hn : bn ≠ b := fun h => by subst h; rw [hb.1] at h4; cases h4
    exact ⟨h1, by simp only [go_sem, ↓reduceIte, Nat.reduceEqDiff, Nat.reduceAdd, Nat.reduceLeDiff, Nat.reduceLT, Int.toNat_natCast, hx, h3], by simp only [go_sem, ↓reduceIte, Nat.reduceEqDiff, Nat.reduceAdd, Nat.reduceLeDiff, Nat.reduceLT, Int.toNat_natCast, hn, h4], h5.setVar (h5.dead hb).1 _, h6⟩
  · rintro a σ1 b ⟨h1, h3, h4, h5, h6⟩ hb
    simp only [List.mem_singleton]
    intro h
    subst h
    rw [hb.1] at h4
    cases h4
  · intro h hh a σ1 hI
    exact inner_c bx bn σ x h a σ1 hI
  · exact ⟨n3, by simp only [go_sem, ↓reduceIte, Nat.reduceEqDiff, Nat.reduceAdd, Nat.reduceLeDiff, Nat.reduceLT, Int.toNat_natCast, n3], by simp only [go_sem, ↓reduceIte, Nat.reduceEqDiff, Nat.reduceAdd, Nat.reduceLeDiff, Nat.reduceLT, Int.toNat_natCast]; rfl, (((Sub.refl _).set_var hb1 _).set_var (dead_setVar hbx).2 _).set_var (dead_setVar (dead_setVar hbn).2).2 _, (dead_setVar (dead_setVar hbn).2).2⟩
  · rintro r σ' ⟨⟨h1, h3, h4, h5, h6⟩, _⟩
    simp only [go_sem, ↓reduceIte, Nat.reduceEqDiff, Nat.reduceAdd, Nat.reduceLeDiff, Nat.reduceLT, Int.toNat_natCast, h4]
    refine aRet_sub rfl h5 ?_
    simp only [go_sem, ↓reduceIte, Nat.reduceEqDiff, Nat.reduceAdd, Nat.reduceLeDiff, Nat.reduceLT, Int.toNat_natCast]
    rw [foldl_hit, all_hit, wrap_id (by omega) (by omega)]
    simp
theorem szInt_c (l : List Int) (left : Int) (hl : l.length ≤ 4611686018427387904) (h0 : 0 ≤ left) (h1 : left ≤ 4611686018427387904) : PCtr Try.prog 23 [.sl false (ints l), .int .i64 left] (.int .i64 (lf l.length left)) := by
  intro σ
  refine ctr_of mixed Try.func23 rfl (by kernel_rfl) (rs := [.tmp 4]) rfl (by kernel_rfl) ?_
  simp only [go_sem, ↓reduceIte, Nat.reduceEqDiff, Nat.reduceAdd, Nat.reduceLeDiff, Nat.reduceLT, Int.toNat_natCast]
  have e1 : IntKind.i64.wrap (left - (l.length : Int)) = left - l.length := wrap_id (by omega) (by omega)
  simp only [e1]
  refine aCnd_intro (fun h => ?_) (fun h => ?_)
  · simp only [go_sem, ↓reduceIte, Nat.reduceEqDiff, Nat.reduceAdd, Nat.reduceLeDiff, Nat.reduceLT, Int.toNat_natCast]
    refine aRet_sub rfl (Sub.refl _) ?_
    simp at h
    simp only [go_sem, ↓reduceIte, Nat.reduceEqDiff, Nat.reduceAdd, Nat.reduceLeDiff, Nat.reduceLT, Int.toNat_natCast]
    rw [lf_lt (by omega)]
  · simp only [go_sem, ↓reduceIte, Nat.reduceEqDiff, Nat.reduceAdd, Nat.reduceLeDiff, Nat.reduceLT, Int.toNat_natCast]
    refine aRet_sub rfl (Sub.refl _) ?_
    simp at h
    simp only [go_sem, ↓reduceIte, Nat.reduceEqDiff, Nat.reduceAdd, Nat.reduceLeDiff, Nat.reduceLT, Int.toNat_natCast]
    rw [lf_ge (by omega)]
theorem szForms_c (ks : List Fm) (hk : ∀ g ∈ ks, ∀ left : Int, 0 ≤ left → left ≤ 4611686018427387904 → PCtr Try.prog 8 [.agg g.cells, .int .i64 left] (.int .i64 (lf g.sz left))) (left : Int) (hl : ks.length ≤ 4611686018427387904) (h0 : 0 ≤ left) (h1 : left ≤ 4611686018427387904) :
    PCtr Try.prog 24 [.sl false (Fm.rows ks), .int .i64 left] (.int .i64 (lf (ks.length + sumL Fm.sz ks) left)) := by
  intro σ
  refine ctr_of mixed Try.func24 rfl (by kernel_rfl) (rs := [.tmp 4]) rfl (by kernel_rfl) ?_
  simp only [go_sem, ↓reduceIte, Nat.reduceEqDiff, Nat.reduceAdd, Nat.reduceLeDiff, Nat.reduceLT, Int.toNat_natCast]
  have e1 : IntKind.i64.wrap (left - (ks.length : Int)) = left - ks.length := wrap_id (by omega) (by omega)
  simp only [e1]
  refine aCnd_intro (fun h => ?_) (fun h => ?_)
  · simp only [go_sem, ↓reduceIte, Nat.reduceEqDiff, Nat.reduceAdd, Nat.reduceLeDiff, Nat.reduceLT, Int.toNat_natCast]
    refine aRet_sub rfl (Sub.refl _) ?_
    simp at h
    simp only [go_sem, ↓reduceIte, Nat.reduceEqDiff, Nat.reduceAdd, Nat.reduceLeDiff, Nat.reduceLT, Int.toNat_natCast]
    rw [lf_lt (by omega)]
  simp only [go_sem, ↓reduceIte, Nat.reduceEqDiff, Nat.reduceAdd, Nat.reduceLeDiff, Nat.reduceLT, Int.toNat_natCast]
  simp at h
  refine aLoop_for ks.length (fun i s' => ∃ T, s' = ⟨T, σ⟩ ∧ T 0 = .sl false (Fm.rows ks) ∧ T 1 = .int .i64 (left - ks.length - (sumL Fm.sz (ks.take i) : Nat)) ∧ T 5 = .int .i64 i ∧ (ks.length : Int) + (sumL Fm.sz (ks.take i) : Nat) ≤ left) 0 ⟨_, rfl, ?_⟩ (Nat.zero_le _) ?_
  · simp only [go_sem, ↓reduceIte, Nat.reduceEqDiff, Nat.reduceAdd, Nat.reduceLeDiff, Nat.reduceLT, Int.toNat_natCast]
    simp [sumL, h]
  · rintro i s' hi ⟨T, rfl, t0, t1, t5, hle⟩
    simp only [go_sem, ↓reduceIte, Nat.reduceEqDiff, Nat.reduceAdd, Nat.reduceLeDiff, Nat.reduceLT, Int.toNat_natCast, t0, t1, t5]
    refine aCnd_intro (fun hc => ?_) (fun hc => ?_)
    · simp at hc
      have hm := List.getElem_mem hc
      have e3 := sumL_take Fm.sz ks i hc
      have e4 := sumL_le Fm.sz ks (i + 1)
      simp only [go_sem, ↓reduceIte, Nat.reduceEqDiff, Nat.reduceAdd, Nat.reduceLeDiff, Nat.reduceLT, Int.toNat_natCast, t0, t1, t5, aidx_fm hc, aload_fm]
      refine aCall_pure (hk _ hm _ (by omega) (by omega)) (WkVL.refl _) ?_
      simp only [go_sem, ↓reduceIte, Nat.reduceEqDiff, Nat.reduceAdd, Nat.reduceLeDiff, Nat.reduceLT, Int.toNat_natCast, t0, t1, t5]
      refine aCnd_intro (fun hd => ?_) (fun hd => ?_)
      · simp only [go_sem, ↓reduceIte, Nat.reduceEqDiff, Nat.reduceAdd, Nat.reduceLeDiff, Nat.reduceLT, Int.toNat_natCast]
        refine aRet_sub rfl (Sub.refl _) ?_
        simp only [go_sem, ↓reduceIte, Nat.reduceEqDiff, Nat.reduceAdd, Nat.reduceLeDiff, Nat.reduceLT, Int.toNat_natCast]
        have hd' : lf (ks[i]).sz (left - ks.length - (sumL Fm.sz (ks.take i) : Nat)) < 0 := by simpa using hd
        unfold lf at hd'
        split at hd'
        · omega
        · rw [lf_lt (by omega)]
      · have hd' : 0 ≤ lf (ks[i]).sz (left - ks.length - (sumL Fm.sz (ks.take i) : Nat)) := by simpa using hd
        have e6 : lf (ks[i]).sz (left - ks.length - (sumL Fm.sz (ks.take i) : Nat)) = left - ks.length - (sumL Fm.sz (ks.take (i + 1)) : Nat) ∧ (ks.length : Int) + (sumL Fm.sz (ks.take (i + 1)) : Nat) ≤ left := by
          unfold lf at hd' ⊢
          split at hd'
          · rename_i hq; rw [if_pos hq]; omega
          · omega
        simp only [go_sem, ↓reduceIte, Nat.reduceEqDiff, Nat.reduceAdd, Nat.reduceLeDiff, Nat.reduceLT, Int.toNat_natCast, t0, t1, t5, wrap_succ (show i < 4611686018427387904 by omega)]
        refine ⟨hc, _, rfl, ?_⟩
        simp only [go_sem, ↓reduceIte, Nat.reduceEqDiff, Nat.reduceAdd, Nat.reduceLeDiff, Nat.reduceLT, Int.toNat_natCast, t0, t1, t5]
        exact ⟨trivial, by rw [e6.1], trivial, e6.2⟩
    · simp at hc
      simp only [go_sem, ↓reduceIte, Nat.reduceEqDiff, Nat.reduceAdd, Nat.reduceLeDiff, Nat.reduceLT, Int.toNat_natCast, t0, t1, t5]
      rw [List.take_of_length_le hc] at hle
      refine aRet_sub rfl (Sub.refl _) ?_
      simp only [go_sem, ↓reduceIte, Nat.reduceEqDiff, Nat.reduceAdd, Nat.reduceLeDiff, Nat.reduceLT, Int.toNat_natCast, t1]
      rw [List.take_of_length_le hc, lf_ge (by omega)]
      congr 1
      omega
theorem sz_c (f : Fm) : f.Ok → ∀ left : Int, 0 ≤ left → left ≤ 4611686018427387904 → PCtr Try.prog 8 [.agg f.cells, .int .i64 left] (.int .i64 (lf f.sz left)) := by
  induction f using Fm.ind with
  | h f ih =>
  intro hok left h0 h1 σ
  have e1 := Fm.sz_eq f
  obtain ⟨o1, o2, o3⟩ := hok.self
  have ih' := fun g hg => ih g hg (hok.kid hg)
  obtain ⟨k, s, n, sc, ks⟩ := f
  simp only [Fm.name, Fm.sc, Fm.kids] at e1 o1 o2 o3
  refine ctr_of mixed Try.func8 rfl (by kernel_rfl) (rs := [.tmp 4]) rfl (by kernel_rfl) ?_
  simp only [go_sem, ↓reduceIte, Nat.reduceEqDiff, Nat.reduceAdd, Nat.reduceLeDiff, Nat.reduceLT, Int.toNat_natCast, Fm.cells]
  refine aAlloc_intro fun b hb => ?_
  simp only [go_sem, ↓reduceIte, Nat.reduceEqDiff, Nat.reduceAdd, Nat.reduceLeDiff, Nat.reduceLT, Int.toNat_natCast]
  have e2 : IntKind.i64.wrap (left - (s.size : Int)) = left - s.size := wrap_id (by omega) (by omega)
  simp only [e2]
  refine aCnd_intro (fun h => ?_) (fun h => ?_)
  · simp only [go_sem, ↓reduceIte, Nat.reduceEqDiff, Nat.reduceAdd, Nat.reduceLeDiff, Nat.reduceLT, Int.toNat_natCast]
    refine aRet_sub rfl ((Sub.refl _).set_var hb _) ?_
    simp at h
    simp only [go_sem, ↓reduceIte, Nat.reduceEqDiff, Nat.reduceAdd, Nat.reduceLeDiff, Nat.reduceLT, Int.toNat_natCast]
    rw [lf_lt (by omega)]
  simp at h
  simp only [go_sem, ↓reduceIte, Nat.reduceEqDiff, Nat.reduceAdd, Nat.reduceLeDiff, Nat.reduceLT, Int.toNat_natCast]
  refine aCall_pure (szInt_c sc _ o2 (by omega) (by omega)) (WkVL.refl _) ?_
  simp only [go_sem, ↓reduceIte, Nat.reduceEqDiff, Nat.reduceAdd, Nat.reduceLeDiff, Nat.reduceLT, Int.toNat_natCast]
  refine aCnd_intro (fun h2 => ?_) (fun h2 => ?_)
  · simp only [go_sem, ↓reduceIte, Nat.reduceEqDiff, Nat.reduceAdd, Nat.reduceLeDiff, Nat.reduceLT, Int.toNat_natCast]
    refine aRet_sub rfl ((Sub.refl _).set_var hb _) ?_
    have h2' : lf sc.length (left - s.size) < 0 := by simpa using h2
    unfold lf at h2'
    split at h2'
    · omega
    · simp only [go_sem, ↓reduceIte, Nat.reduceEqDiff, Nat.reduceAdd, Nat.reduceLeDiff, Nat.reduceLT, Int.toNat_natCast]
      rw [lf_lt (by omega)]
  have h2' : 0 ≤ lf sc.length (left - s.size) := by simpa using h2
  have e3 : lf sc.length (left - s.size) = left - s.size - sc.length ∧ (0 : Int) ≤ left - s.size - sc.length := by
    unfold lf at h2' ⊢
    split at h2'
    · rename_i hq; rw [if_pos hq]; omega
    · omega
  simp only [go_sem, ↓reduceIte, Nat.reduceEqDiff, Nat.reduceAdd, Nat.reduceLeDiff, Nat.reduceLT, Int.toNat_natCast]
  rw [e3.1]
  refine aCall_pure (szForms_c ks ih' _ o3 e3.2 (by omega)) (WkVL.refl _) ?_
  simp only [go_sem, ↓reduceIte, Nat.reduceEqDiff, Nat.reduceAdd, Nat.reduceLeDiff, Nat.reduceLT, Int.toNat_natCast]
  refine aCnd_intro (fun h3 => ?_) (fun h3 => ?_)
  · simp only [go_sem, ↓reduceIte, Nat.reduceEqDiff, Nat.reduceAdd, Nat.reduceLeDiff, Nat.reduceLT, Int.toNat_natCast]
    refine aRet_sub rfl ((Sub.refl _).set_var hb _) ?_
    have h3' : lf (ks.length + sumL Fm.sz ks) (left - s.size - sc.length) < 0 := by simpa using h3
    unfold lf at h3'
    split at h3'
    · omega
    · simp only [go_sem, ↓reduceIte, Nat.reduceEqDiff, Nat.reduceAdd, Nat.reduceLeDiff, Nat.reduceLT, Int.toNat_natCast]
      rw [lf_lt (by omega)]
  · simp only [go_sem, ↓reduceIte, Nat.reduceEqDiff, Nat.reduceAdd, Nat.reduceLeDiff, Nat.reduceLT, Int.toNat_natCast]
    refine aRet_sub rfl ((Sub.refl _).set_var hb _) ?_
    have h3' : 0 ≤ lf (ks.length + sumL Fm.sz ks) (left - s.size - sc.length) := by simpa using h3
    unfold lf at h3'
    split at h3'
    · rename_i hq
      simp only [go_sem, ↓reduceIte, Nat.reduceEqDiff, Nat.reduceAdd, Nat.reduceLeDiff, Nat.reduceLT, Int.toNat_natCast]
      rw [lf_ge hq, lf_ge (by omega), e1]
      congr 1
      omega
    · omega
theorem toInt_c (l : List Int) (hl : l.length < 4294967296) : PCtr Try.prog 25 [.sl false (ints l)] (.sl false (ints l)) := by
  intro σ
  refine ctr_of mixed Try.func25 rfl (by kernel_rfl) (rs := [.tmp 2]) rfl (by kernel_rfl) ?_
  simp only [go_sem, ↓reduceIte, Nat.reduceEqDiff, Nat.reduceAdd, Nat.reduceLeDiff, Nat.reduceLT, Int.toNat_natCast]
  refine aMake_intro (by omega) (by omega) rfl fun b hb => ?_
  simp only [go_sem, ↓reduceIte, Nat.reduceEqDiff, Nat.reduceAdd, Nat.reduceLeDiff, Nat.reduceLT, Int.toNat_natCast]
  refine aLoop_for l.length (fun i s' => ∃ T, s' = ⟨T, σ.setOwn b ⟨3, l.length * 1, (ints (l.take i) ++ List.replicate (l.length - i) [AV.int .i64 0]).flatten⟩⟩ ∧ T 0 = .sl false (ints l) ∧ T 3 = .ref b l.length l.length ∧ T 4 = .int .i64 i) 0 ⟨_, rfl, ?_⟩ (Nat.zero_le _) ?_
  · simp only [go_sem, ↓reduceIte, Nat.reduceEqDiff, Nat.reduceAdd, Nat.reduceLeDiff, Nat.reduceLT, Int.toNat_natCast]
    simp
  · rintro i s' hi ⟨T, rfl, t0, t3, t4⟩
    simp only [go_sem, ↓reduceIte, Nat.reduceEqDiff, Nat.reduceAdd, Nat.reduceLeDiff, Nat.reduceLT, Int.toNat_natCast, t0, t3, t4]
    refine aCnd_intro (fun hc => ?_) (fun hc => ?_)
    · simp at hc
      simp only [go_sem, ↓reduceIte, Nat.reduceEqDiff, Nat.reduceAdd, Nat.reduceLeDiff, Nat.reduceLT, Int.toNat_natCast, t0, t3, t4, aidx_int hc, aidx_ref hc]
      rw [astore_fill (k := 1) (i := i) (xs := ints (l.take i)) (m := l.length - i) [.int .i64 l[i]] rfl rfl rfl (ints_mem _) (by simp [ints_len]; omega) (by omega)]
      simp only [go_sem, ↓reduceIte, Nat.reduceEqDiff, Nat.reduceAdd, Nat.reduceLeDiff, Nat.reduceLT, Int.toNat_natCast, t0, t3, t4, wrap_succ (show i < 4611686018427387904 by omega)]
      refine ⟨hc, _, by rw [ints_take l i hc, Nat.sub_sub], ?_⟩
      simp only [go_sem, ↓reduceIte, Nat.reduceEqDiff, Nat.reduceAdd, Nat.reduceLeDiff, Nat.reduceLT, Int.toNat_natCast, t0, t3, t4]
      simp
    · simp at hc
      simp only [go_sem, ↓reduceIte, Nat.reduceEqDiff, Nat.reduceAdd, Nat.reduceLeDiff, Nat.reduceLT, Int.toNat_natCast, t0, t3, t4]
      refine aRet_wk (by simp only [go_sem, ↓reduceIte, Nat.reduceEqDiff, Nat.reduceAdd, Nat.reduceLeDiff, Nat.reduceLT, Int.toNat_natCast, t3]; rfl) ?_
      have hi2 : i = l.length := by omega
      subst hi2
      refine Wk.mine (e := 3) (sz := 1) (Mine.made (ints_len l) (ints_mem l) hb ?_) ((Sub.refl _).set_own hb _)
      simp only [go_sem, ↓reduceIte, Nat.reduceEqDiff, Nat.reduceAdd, Nat.reduceLeDiff, Nat.reduceLT, Int.toNat_natCast]
      simp
theorem toForms_c (ks : List Fm) (hk : ∀ g ∈ ks, PCtr Try.prog 10 [.agg g.cells] (.agg g.cells)) (hl : ks.length < 4294967296) : PCtr Try.prog 26 [.sl false (Fm.rows ks)] (.sl false (Fm.rows ks)) := by
  intro σ
  refine ctr_of mixed Try.func26 rfl (by kernel_rfl) (rs := [.tmp 2]) rfl (by kernel_rfl) ?_
  simp only [go_sem, ↓reduceIte, Nat.reduceEqDiff, Nat.reduceAdd, Nat.reduceLeDiff, Nat.reduceLT, Int.toNat_natCast]
  refine aMake_intro (by omega) (by omega) rfl fun b hb => ?_
  simp only [go_sem, ↓reduceIte, Nat.reduceEqDiff, Nat.reduceAdd, Nat.reduceLeDiff, Nat.reduceLT, Int.toNat_natCast]
  refine aLoop_for ks.length (fun i s' => ∃ T, s' = ⟨T, σ.setOwn b ⟨30, ks.length * 5, (Fm.rows (ks.take i) ++ List.replicate (ks.length - i) [AV.int .i64 0, .str (ByteArray.mk #[]), .int .i64 0, .nilsl, .nilsl]).flatten⟩⟩ ∧ T 0 = .sl false (Fm.rows ks) ∧ T 3 = .ref b ks.length ks.length ∧ T 4 = .int .i64 i) 0 ⟨_, rfl, ?_⟩ (Nat.zero_le _) ?_
  · simp only [go_sem, ↓reduceIte, Nat.reduceEqDiff, Nat.reduceAdd, Nat.reduceLeDiff, Nat.reduceLT, Int.toNat_natCast]
    simp [Fm.rows]
  · rintro i s' hi ⟨T, rfl, t0, t3, t4⟩
    simp only [go_sem, ↓reduceIte, Nat.reduceEqDiff, Nat.reduceAdd, Nat.reduceLeDiff, Nat.reduceLT, Int.toNat_natCast, t0, t3, t4]
    refine aCnd_intro (fun hc => ?_) (fun hc => ?_)
    · simp at hc
      simp only [go_sem, ↓reduceIte, Nat.reduceEqDiff, Nat.reduceAdd, Nat.reduceLeDiff, Nat.reduceLT, Int.toNat_natCast, t0, t3, t4, aidx_fm hc, aload_fm]
      refine aCall_pure (hk _ (List.getElem_mem hc)) (WkVL.refl _) ?_
      simp only [go_sem, ↓reduceIte, Nat.reduceEqDiff, Nat.reduceAdd, Nat.reduceLeDiff, Nat.reduceLT, Int.toNat_natCast, t0, t3, t4, aidx_ref hc]
      rw [astore_fill (k := 5) (i := i) (xs := Fm.rows (ks.take i)) (m := ks.length - i) (ks[i]).cells rfl (Fm.cells_len _) rfl (Fm.rows_mem _) (by simp [Fm.rows_len]; omega) (by omega)]
      simp only [go_sem, ↓reduceIte, Nat.reduceEqDiff, Nat.reduceAdd, Nat.reduceLeDiff, Nat.reduceLT, Int.toNat_natCast, t0, t3, t4, wrap_succ (show i < 4611686018427387904 by omega)]
      refine ⟨hc, _, by rw [Fm.rows_take ks i hc, Nat.sub_sub], ?_⟩
      simp only [go_sem, ↓reduceIte, Nat.reduceEqDiff, Nat.reduceAdd, Nat.reduceLeDiff, Nat.reduceLT, Int.toNat_natCast, t0, t3, t4]
      simp
    · simp at hc
      simp only [go_sem, ↓reduceIte, Nat.reduceEqDiff, Nat.reduceAdd, Nat.reduceLeDiff, Nat.reduceLT, Int.toNat_natCast, t0, t3, t4]
      refine aRet_wk (by simp only [go_sem, ↓reduceIte, Nat.reduceEqDiff, Nat.reduceAdd, Nat.reduceLeDiff, Nat.reduceLT, Int.toNat_natCast, t3]; rfl) ?_
      have hi2 : i = ks.length := by omega
      subst hi2
      refine Wk.mine (e := 30) (sz := 5) (Mine.made (Fm.rows_len ks) (Fm.rows_mem ks) hb ?_) ((Sub.refl _).set_own hb _)
      simp only [go_sem, ↓reduceIte, Nat.reduceEqDiff, Nat.reduceAdd, Nat.reduceLeDiff, Nat.reduceLT, Int.toNat_natCast]
      simp
theorem to_c (f : Fm) : f.sz < 4294967296 → PCtr Try.prog 10 [.agg f.cells] (.agg f.cells) := by
  induction f using Fm.ind with
  | h f ih =>
  intro hz σ
  have e1 := Fm.sz_eq f
  have ih' := fun g hg => ih g hg (Nat.lt_of_le_of_lt (Fm.sz_kid hg) hz)
  obtain ⟨k, s, n, sc, ks⟩ := f
  simp only [Fm.name, Fm.sc, Fm.kids] at e1
  refine ctr_of mixed Try.func10 rfl (by kernel_rfl) (rs := [.cell 2 30]) rfl (by kernel_rfl) ?_
  simp only [go_sem, ↓reduceIte, Nat.reduceEqDiff, Nat.reduceAdd, Nat.reduceLeDiff, Nat.reduceLT, Int.toNat_natCast, Fm.cells]
  refine aAlloc_intro fun b1 hb1 => ?_
  simp only [go_sem, ↓reduceIte, Nat.reduceEqDiff, Nat.reduceAdd, Nat.reduceLeDiff, Nat.reduceLT, Int.toNat_natCast]
  refine aAlloc_intro fun b2 hb2 => ?_
  simp only [go_sem, ↓reduceIte, Nat.reduceEqDiff, Nat.reduceAdd, Nat.reduceLeDiff, Nat.reduceLT, Int.toNat_natCast]
  refine aAlloc_intro fun b3 hb3 => ?_
  have n1 : b1 ≠ b2 := (dead_setVar hb2).1.symm
  have n2 : b1 ≠ b3 := (dead_setVar (dead_setVar hb3).2).1.symm
  have n3 : b2 ≠ b3 := (dead_setVar hb3).1.symm
  have m3 := (dead_setVar (dead_setVar hb3).2).2
  have m2 := (dead_setVar hb2).2
  simp only [go_sem, ↓reduceIte, Nat.reduceEqDiff, Nat.reduceAdd, Nat.reduceLeDiff, Nat.reduceLT, Int.toNat_natCast, n1, n2, n3]
  refine aCall_pure (toInt_c sc (by omega)) (WkVL.refl _) ?_
  simp only [go_sem, ↓reduceIte, Nat.reduceEqDiff, Nat.reduceAdd, Nat.reduceLeDiff, Nat.reduceLT, Int.toNat_natCast, n1, n2, n3]
  refine aCall_pure (toForms_c ks ih' (by omega)) (WkVL.refl _) ?_
  simp only [go_sem, ↓reduceIte, Nat.reduceEqDiff, Nat.reduceAdd, Nat.reduceLeDiff, Nat.reduceLT, Int.toNat_natCast, n1, n2, n3]
  refine aRet_wk (by simp only [go_sem, ↓reduceIte, Nat.reduceEqDiff, Nat.reduceAdd, Nat.reduceLeDiff, Nat.reduceLT, Int.toNat_natCast]; rfl) ?_
  simp only [go_sem, ↓reduceIte, Nat.reduceEqDiff, Nat.reduceAdd, Nat.reduceLeDiff, Nat.reduceLT, Int.toNat_natCast]
  exact Wk.sub (((((Sub.refl _).set_var hb1 _).set_var m2 _).set_var m3 _).set_var m2 _) _
theorem eqInt_c (a b : List Int) (ha : a.length < 4294967296) : PCtr Try.prog 30 [.sl false (ints a), .sl false (ints b)] (.bool (decide (a = b))) := by
  intro σ
  refine ctr_of mixed Try.func30 rfl (by kernel_rfl) (rs := [.tmp 4]) rfl (by kernel_rfl) ?_
  simp only [go_sem, ↓reduceIte, Nat.reduceEqDiff, Nat.reduceAdd, Nat.reduceLeDiff, Nat.reduceLT, Int.toNat_natCast]
  refine aCnd_intro (fun h => ?_) (fun h => ?_)
  · simp only [go_sem, ↓reduceIte, Nat.reduceEqDiff, Nat.reduceAdd, Nat.reduceLeDiff, Nat.reduceLT, Int.toNat_natCast]
    refine aRet_sub rfl (Sub.refl _) ?_
    have : a ≠ b := fun he => by subst he; simp at h
    simp only [go_sem, ↓reduceIte, Nat.reduceEqDiff, Nat.reduceAdd, Nat.reduceLeDiff, Nat.reduceLT, Int.toNat_natCast]
    simp [this]
  simp only [go_sem, ↓reduceIte, Nat.reduceEqDiff, Nat.reduceAdd, Nat.reduceLeDiff, Nat.reduceLT, Int.toNat_natCast]
  have hl : a.length = b.length := by simp at h; omega
  refine aLoop_for a.length (fun i s' => ∃ T, s' = ⟨T, σ⟩ ∧ T 0 = .sl false (ints a) ∧ T 1 = .sl false (ints b) ∧ T 5 = .int .i64 i ∧ a.take i = b.take i) 0 ⟨_, rfl, ?_⟩ (Nat.zero_le _) ?_
  · simp only [go_sem, ↓reduceIte, Nat.reduceEqDiff, Nat.reduceAdd, Nat.reduceLeDiff, Nat.reduceLT, Int.toNat_natCast]
    simp
  · rintro i s' hi ⟨T, rfl, t0, t1, t5, hq⟩
    simp only [go_sem, ↓reduceIte, Nat.reduceEqDiff, Nat.reduceAdd, Nat.reduceLeDiff, Nat.reduceLT, Int.toNat_natCast, t0, t1, t5]
    refine aCnd_intro (fun hc => ?_) (fun hc => ?_)
    · simp at hc
      simp only [go_sem, ↓reduceIte, Nat.reduceEqDiff, Nat.reduceAdd, Nat.reduceLeDiff, Nat.reduceLT, Int.toNat_natCast]
      refine draw_text [] [.v, .v, .v, .v, .v, .v, .v, .v, .v] (by kernel_rfl) ?_
      simp only [go_sem, ↓reduceIte, Nat.reduceEqDiff, Nat.reduceAdd, Nat.reduceLeDiff, Nat.reduceLT, Int.toNat_natCast, t0, t1, t5, aidx_int hc, aidx_int (show i < b.length by omega)]
      refine aCnd_intro (fun hd => ?_) (fun hd => ?_)
      · simp only [go_sem, ↓reduceIte, Nat.reduceEqDiff, Nat.reduceAdd, Nat.reduceLeDiff, Nat.reduceLT, Int.toNat_natCast]
        refine aRet_sub rfl (Sub.refl _) ?_
        have : a ≠ b := ne_of_get hc (show i < b.length by omega) (by simpa using hd)
        simp only [go_sem, ↓reduceIte, Nat.reduceEqDiff, Nat.reduceAdd, Nat.reduceLeDiff, Nat.reduceLT, Int.toNat_natCast]
        simp [this]
      · simp only [go_sem, ↓reduceIte, Nat.reduceEqDiff, Nat.reduceAdd, Nat.reduceLeDiff, Nat.reduceLT, Int.toNat_natCast, t0, t1, t5, wrap_succ (show i < 4611686018427387904 by omega)]
        refine ⟨hc, _, rfl, ?_⟩
        simp only [go_sem, ↓reduceIte, Nat.reduceEqDiff, Nat.reduceAdd, Nat.reduceLeDiff, Nat.reduceLT, Int.toNat_natCast, t0, t1, t5]
        simp
        exact take_eq_of hc (by omega) hq (by simpa using hd)
    · simp at hc
      simp only [go_sem, ↓reduceIte, Nat.reduceEqDiff, Nat.reduceAdd, Nat.reduceLeDiff, Nat.reduceLT, Int.toNat_natCast, t0, t1, t5]
      refine aRet_sub rfl (Sub.refl _) ?_
      rw [List.take_of_length_le hc, List.take_of_length_le (by omega)] at hq
      simp only [go_sem, ↓reduceIte, Nat.reduceEqDiff, Nat.reduceAdd, Nat.reduceLeDiff, Nat.reduceLT, Int.toNat_natCast]
      simp [hq]
theorem eqForms_c (a b : List Fm) (hk : ∀ f ∈ a, ∀ g, PCtr Try.prog 12 [.agg f.cells, .agg g.cells] (.bool (decide (f = g)))) (ha : a.length < 4294967296) : PCtr Try.prog 31 [.sl false (Fm.rows a), .sl false (Fm.rows b)] (.bool (decide (a = b))) := by
  intro σ
  refine ctr_of mixed Try.func31 rfl (by kernel_rfl) (rs := [.tmp 4]) rfl (by kernel_rfl) ?_
  simp only [go_sem, ↓reduceIte, Nat.reduceEqDiff, Nat.reduceAdd, Nat.reduceLeDiff, Nat.reduceLT, Int.toNat_natCast]
  refine aCnd_intro (fun h => ?_) (fun h => ?_)
  · simp only [go_sem, ↓reduceIte, Nat.reduceEqDiff, Nat.reduceAdd, Nat.reduceLeDiff, Nat.reduceLT, Int.toNat_natCast]
    refine aRet_sub rfl (Sub.refl _) ?_
    have : a ≠ b := fun he => by subst he; simp at h
    simp only [go_sem, ↓reduceIte, Nat.reduceEqDiff, Nat.reduceAdd, Nat.reduceLeDiff, Nat.reduceLT, Int.toNat_natCast]
    simp [this]
  simp only [go_sem, ↓reduceIte, Nat.reduceEqDiff, Nat.reduceAdd, Nat.reduceLeDiff, Nat.reduceLT, Int.toNat_natCast]
  have hl : a.length = b.length := by simp at h; omega
  refine aLoop_for a.length (fun i s' => ∃ T, s' = ⟨T, σ⟩ ∧ T 0 = .sl false (Fm.rows a) ∧ T 1 = .sl false (Fm.rows b) ∧ T 5 = .int .i64 i ∧ a.take i = b.take i) 0 ⟨_, rfl, ?_⟩ (Nat.zero_le _) ?_
  · simp only [go_sem, ↓reduceIte, Nat.reduceEqDiff, Nat.reduceAdd, Nat.reduceLeDiff, Nat.reduceLT, Int.toNat_natCast]
    simp
  · rintro i s' hi ⟨T, rfl, t0, t1, t5, hq⟩
    simp only [go_sem, ↓reduceIte, Nat.reduceEqDiff, Nat.reduceAdd, Nat.reduceLeDiff, Nat.reduceLT, Int.toNat_natCast, t0, t1, t5]
    refine aCnd_intro (fun hc => ?_) (fun hc => ?_)
    · simp at hc
      simp only [go_sem, ↓reduceIte, Nat.reduceEqDiff, Nat.reduceAdd, Nat.reduceLeDiff, Nat.reduceLT, Int.toNat_natCast]
      refine draw_text [] [.v, .v, .v, .v, .v, .v, .v, .v, .v, .v] (by kernel_rfl) ?_
      simp only [go_sem, ↓reduceIte, Nat.reduceEqDiff, Nat.reduceAdd, Nat.reduceLeDiff, Nat.reduceLT, Int.toNat_natCast, t0, t1, t5, aidx_fm hc, aidx_fm (show i < b.length by omega), aload_fm]
      refine vCall_pure (hk _ (List.getElem_mem hc) _) (WkVL.refl _) ?_
      simp only [go_sem, ↓reduceIte, Nat.reduceEqDiff, Nat.reduceAdd, Nat.reduceLeDiff, Nat.reduceLT, Int.toNat_natCast]
      refine aCnd_intro (fun hd => ?_) (fun hd => ?_)
      · simp only [go_sem, ↓reduceIte, Nat.reduceEqDiff, Nat.reduceAdd, Nat.reduceLeDiff, Nat.reduceLT, Int.toNat_natCast]
        refine aRet_sub rfl (Sub.refl _) ?_
        have : a ≠ b := ne_of_get hc (show i < b.length by omega) (by simpa using hd)
        simp only [go_sem, ↓reduceIte, Nat.reduceEqDiff, Nat.reduceAdd, Nat.reduceLeDiff, Nat.reduceLT, Int.toNat_natCast]
        simp [this]
      · simp only [go_sem, ↓reduceIte, Nat.reduceEqDiff, Nat.reduceAdd, Nat.reduceLeDiff, Nat.reduceLT, Int.toNat_natCast, t0, t1, t5, wrap_succ (show i < 4611686018427387904 by omega)]
        refine ⟨hc, _, rfl, ?_⟩
        simp only [go_sem, ↓reduceIte, Nat.reduceEqDiff, Nat.reduceAdd, Nat.reduceLeDiff, Nat.reduceLT, Int.toNat_natCast, t0, t1, t5]
        simp
        exact take_eq_of hc (by omega) hq (by simpa using hd)
    · simp at hc
      simp only [go_sem, ↓reduceIte, Nat.reduceEqDiff, Nat.reduceAdd, Nat.reduceLeDiff, Nat.reduceLT, Int.toNat_natCast, t0, t1, t5]
      refine aRet_sub rfl (Sub.refl _) ?_
      rw [List.take_of_length_le hc, List.take_of_length_le (by omega)] at hq
      simp only [go_sem, ↓reduceIte, Nat.reduceEqDiff, Nat.reduceAdd, Nat.reduceLeDiff, Nat.reduceLT, Int.toNat_natCast]
      simp [hq]
theorem eq_c (f : Fm) : f.sz < 4294967296 → ∀ g, PCtr Try.prog 12 [.agg f.cells, .agg g.cells] (.bool (decide (f = g))) := by
  induction f using Fm.ind with
  | h f ih =>
  intro hz g σ
  have e1 := Fm.sz_eq f
  have ih' := fun g hg => ih g hg (Nat.lt_of_le_of_lt (Fm.sz_kid hg) hz)
  obtain ⟨k, s, n, sc, ks⟩ := f
  obtain ⟨k2, s2, n2, sc2, ks2⟩ := g
  simp only [Fm.name, Fm.sc, Fm.kids] at e1
  refine ctr_of mixed Try.func12 rfl (by kernel_rfl) (rs := [.tmp 4]) rfl (by kernel_rfl) ?_
  simp only [go_sem, ↓reduceIte, Nat.reduceEqDiff, Nat.reduceAdd, Nat.reduceLeDiff, Nat.reduceLT, Int.toNat_natCast, Fm.cells]
  refine aAlloc_intro fun b1 hb1 => ?_
  simp only [go_sem, ↓reduceIte, Nat.reduceEqDiff, Nat.reduceAdd, Nat.reduceLeDiff, Nat.reduceLT, Int.toNat_natCast]
  refine aAlloc_intro fun b2 hb2 => ?_
  have n1 : b1 ≠ b2 := (dead_setVar hb2).1.symm
  have m2 := (dead_setVar hb2).2
  simp only [go_sem, ↓reduceIte, Nat.reduceEqDiff, Nat.reduceAdd, Nat.reduceLeDiff, Nat.reduceLT, Int.toNat_natCast, n1]
  refine aCnd_intro (fun h => ?_) (fun h => ?_)
  · simp only [go_sem, ↓reduceIte, Nat.reduceEqDiff, Nat.reduceAdd, Nat.reduceLeDiff, Nat.reduceLT, Int.toNat_natCast]
    refine aRet_sub rfl (((Sub.refl _).set_var hb1 _).set_var m2 _) ?_
    simp only [go_sem, ↓reduceIte, Nat.reduceEqDiff, Nat.reduceAdd, Nat.reduceLeDiff, Nat.reduceLT, Int.toNat_natCast]
    simp at h
    simp [h]
  simp only [go_sem, ↓reduceIte, Nat.reduceEqDiff, Nat.reduceAdd, Nat.reduceLeDiff, Nat.reduceLT, Int.toNat_natCast, n1]
  refine aCnd_intro (fun h2 => ?_) (fun h2 => ?_)
  · simp only [go_sem, ↓reduceIte, Nat.reduceEqDiff, Nat.reduceAdd, Nat.reduceLeDiff, Nat.reduceLT, Int.toNat_natCast]
    refine aRet_sub rfl (((Sub.refl _).set_var hb1 _).set_var m2 _) ?_
    simp only [go_sem, ↓reduceIte, Nat.reduceEqDiff, Nat.reduceAdd, Nat.reduceLeDiff, Nat.reduceLT, Int.toNat_natCast]
    simp at h2
    simp [h2]
  simp only [go_sem, ↓reduceIte, Nat.reduceEqDiff, Nat.reduceAdd, Nat.reduceLeDiff, Nat.reduceLT, Int.toNat_natCast, n1]
  refine aCnd_intro (fun h3 => ?_) (fun h3 => ?_)
  · simp only [go_sem, ↓reduceIte, Nat.reduceEqDiff, Nat.reduceAdd, Nat.reduceLeDiff, Nat.reduceLT, Int.toNat_natCast]
    refine aRet_sub rfl (((Sub.refl _).set_var hb1 _).set_var m2 _) ?_
    simp only [go_sem, ↓reduceIte, Nat.reduceEqDiff, Nat.reduceAdd, Nat.reduceLeDiff, Nat.reduceLT, Int.toNat_natCast]
    simp at h3
    simp [h3]
  simp only [go_sem, ↓reduceIte, Nat.reduceEqDiff, Nat.reduceAdd, Nat.reduceLeDiff, Nat.reduceLT, Int.toNat_natCast, n1]
  refine aCall_pure (eqInt_c sc sc2 (by omega)) (WkVL.refl _) ?_
  simp only [go_sem, ↓reduceIte, Nat.reduceEqDiff, Nat.reduceAdd, Nat.reduceLeDiff, Nat.reduceLT, Int.toNat_natCast]
  refine aCnd_intro (fun h4 => ?_) (fun h4 => ?_)
  · simp only [go_sem, ↓reduceIte, Nat.reduceEqDiff, Nat.reduceAdd, Nat.reduceLeDiff, Nat.reduceLT, Int.toNat_natCast]
    refine aRet_sub rfl (((Sub.refl _).set_var hb1 _).set_var m2 _) ?_
    simp only [go_sem, ↓reduceIte, Nat.reduceEqDiff, Nat.reduceAdd, Nat.reduceLeDiff, Nat.reduceLT, Int.toNat_natCast]
    simp at h4
    simp [h4]
  simp only [go_sem, ↓reduceIte, Nat.reduceEqDiff, Nat.reduceAdd, Nat.reduceLeDiff, Nat.reduceLT, Int.toNat_natCast, n1]
  refine aCall_pure (eqForms_c ks ks2 ih' (by omega)) (WkVL.refl _) ?_
  simp only [go_sem, ↓reduceIte, Nat.reduceEqDiff, Nat.reduceAdd, Nat.reduceLeDiff, Nat.reduceLT, Int.toNat_natCast]
  refine aCnd_intro (fun h5 => ?_) (fun h5 => ?_)
  · simp only [go_sem, ↓reduceIte, Nat.reduceEqDiff, Nat.reduceAdd, Nat.reduceLeDiff, Nat.reduceLT, Int.toNat_natCast]
    refine aRet_sub rfl (((Sub.refl _).set_var hb1 _).set_var m2 _) ?_
    simp only [go_sem, ↓reduceIte, Nat.reduceEqDiff, Nat.reduceAdd, Nat.reduceLeDiff, Nat.reduceLT, Int.toNat_natCast]
    simp at h5
    simp [h5]
  · simp only [go_sem, ↓reduceIte, Nat.reduceEqDiff, Nat.reduceAdd, Nat.reduceLeDiff, Nat.reduceLT, Int.toNat_natCast]
    refine aRet_sub rfl (((Sub.refl _).set_var hb1 _).set_var m2 _) ?_
    simp only [go_sem, ↓reduceIte, Nat.reduceEqDiff, Nat.reduceAdd, Nat.reduceLeDiff, Nat.reduceLT, Int.toNat_natCast]
    simp at h h2 h3 h4 h5
    simp [h, h2, h3, h4, h5]
theorem law_count_c (f : Fm) (hok : f.Ok) (x : ByteArray) : PCtr Try.prog 3 [.agg f.cells, .str x] (.bool true) := by
  intro σ
  refine ctr_of mixed Try.func3 rfl (by kernel_rfl) (rs := [.tmp 4]) rfl (by kernel_rfl) ?_
  simp only [go_sem, ↓reduceIte, Nat.reduceEqDiff, Nat.reduceAdd, Nat.reduceLeDiff, Nat.reduceLT, Int.toNat_natCast]
  refine aAlloc_intro fun b1 hb1 => ?_
  simp only [go_sem, ↓reduceIte, Nat.reduceEqDiff, Nat.reduceAdd, Nat.reduceLeDiff, Nat.reduceLT, Int.toNat_natCast]
  refine aCnd_intro (fun h => ?_) (fun h => ?_)
  · simp only [go_sem, ↓reduceIte, Nat.reduceEqDiff, Nat.reduceAdd, Nat.reduceLeDiff, Nat.reduceLT, Int.toNat_natCast]
    refine aRet_sub rfl ((Sub.refl _).set_var hb1 _) ?_
    simp only [go_sem, ↓reduceIte, Nat.reduceEqDiff, Nat.reduceAdd, Nat.reduceLeDiff, Nat.reduceLT, Int.toNat_natCast]
  simp only [go_sem, ↓reduceIte, Nat.reduceEqDiff, Nat.reduceAdd, Nat.reduceLeDiff, Nat.reduceLT, Int.toNat_natCast]
  refine aCall_pure (sz_c f hok _ (by omega) (by omega)) (WkVL.refl _) ?_
  simp only [go_sem, ↓reduceIte, Nat.reduceEqDiff, Nat.reduceAdd, Nat.reduceLeDiff, Nat.reduceLT, Int.toNat_natCast]
  refine aCnd_intro (fun h2 => ?_) (fun h2 => ?_)
  · simp only [go_sem, ↓reduceIte, Nat.reduceEqDiff, Nat.reduceAdd, Nat.reduceLeDiff, Nat.reduceLT, Int.toNat_natCast]
    refine aRet_sub rfl ((Sub.refl _).set_var hb1 _) ?_
    simp only [go_sem, ↓reduceIte, Nat.reduceEqDiff, Nat.reduceAdd, Nat.reduceLeDiff, Nat.reduceLT, Int.toNat_natCast]
  have hz : f.sz ≤ 1048576 := by
    simp at h2
    unfold lf at h2
    split at h2 <;> omega
  simp only [go_sem, ↓reduceIte, Nat.reduceEqDiff, Nat.reduceAdd, Nat.reduceLeDiff, Nat.reduceLT, Int.toNat_natCast]
  refine aCall_pure (to_c f (by omega)) (WkVL.refl _) ?_
  simp only [go_sem, ↓reduceIte, Nat.reduceEqDiff, Nat.reduceAdd, Nat.reduceLeDiff, Nat.reduceLT, Int.toNat_natCast]
  refine aCall_pure (cnt_c x f (by omega)) (WkVL.refl _) ?_
  simp only [go_sem, ↓reduceIte, Nat.reduceEqDiff, Nat.reduceAdd, Nat.reduceLeDiff, Nat.reduceLT, Int.toNat_natCast]
  refine aCall_pure (to_c f (by omega)) (WkVL.refl _) ?_
  simp only [go_sem, ↓reduceIte, Nat.reduceEqDiff, Nat.reduceAdd, Nat.reduceLeDiff, Nat.reduceLT, Int.toNat_natCast]
  refine aAlloc_intro fun b2 hb2 => ?_
  have n1 : b1 ≠ b2 := (dead_setVar hb2).1.symm
  have m2 := (dead_setVar hb2).2
  simp only [go_sem, ↓reduceIte, Nat.reduceEqDiff, Nat.reduceAdd, Nat.reduceLeDiff, Nat.reduceLT, Int.toNat_natCast, n1]
  refine aCall_pure (count_c x f (by omega)) (WkVL.refl _) ?_
  simp only [go_sem, ↓reduceIte, Nat.reduceEqDiff, Nat.reduceAdd, Nat.reduceLeDiff, Nat.reduceLT, Int.toNat_natCast]
  refine draw_text [] [.v, .v, .v, .v, .v] (by kernel_rfl) ?_
  simp only [go_sem, ↓reduceIte, Nat.reduceEqDiff, Nat.reduceAdd, Nat.reduceLeDiff, Nat.reduceLT, Int.toNat_natCast, n1]
  refine vCall_pure (to_c f (by omega)) (WkVL.refl _) ?_
  simp only [go_sem, ↓reduceIte, Nat.reduceEqDiff, Nat.reduceAdd, Nat.reduceLeDiff, Nat.reduceLT, Int.toNat_natCast]
  refine vCall_pure (eq_c f (by omega) f) (WkVL.refl _) ?_
  simp only [go_sem, ↓reduceIte, Nat.reduceEqDiff, Nat.reduceAdd, Nat.reduceLeDiff, Nat.reduceLT, Int.toNat_natCast]
  refine aRet_sub rfl (((Sub.refl _).set_var hb1 _).set_var m2 _) ?_
  simp only [go_sem, ↓reduceIte, Nat.reduceEqDiff, Nat.reduceAdd, Nat.reduceLeDiff, Nat.reduceLT, Int.toNat_natCast]
end Go.Proofs.SA
