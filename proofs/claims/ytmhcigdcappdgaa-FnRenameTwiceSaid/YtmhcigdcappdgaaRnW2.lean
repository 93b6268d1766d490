/- The code computes the plain functions: walks, printed by a program of mine. -/
import Derived.Test.YtmhcigdcappdgaaGy
import Derived.Test.YtmhcigdcappdgaaSaTy
import Derived.Test.YtmhcigdcappdgaaChecked
import Derived.Lib.Strings
import Derived.Lib.Slices
import Derived.Lib.Walk
import Derived.Lib.Bytealg
import Derived.Test.YtmhcigdcappdgaaRnD
import Derived.Test.YtmhcigdcappdgaaRnW1
set_option maxRecDepth 100000
set_option linter.unusedSimpArgs false
set_option linter.unusedVariables false
open Go Go.Proofs Go.Proofs.Shadow
namespace Go.Proofs.SA
theorem impl_NameValid_l0_ok : ∀ (a0 : ByteArray) (z0t_3 : Int) out, impl_NameValid_l0 a0 z0t_3 = some out → ∀ c, loopAt Try.f25 0 = some c → ∀ (Q : AX → AS → Prop) (τ : Sto), (∀ (_u : Unit), out = Sum.inr () → ∀ (T : Nat → AV) (σ : Sto), T 0 = .str a0 → T 2 = .bool false → Fx τ σ [] [] → Q (.ex 0) ⟨T, σ⟩) → (∀ r, out = Sum.inl r → ∀ s', aRet Try.prog [.tmp 2] (fun r' σ' => r' = .bool r ∧ σ' = τ) s' → Q .ret s') → ∀ (T : Nat → AV) (σ : Sto), T 0 = .str a0 → T 2 = .bool false → T 3 = .int .i64 z0t_3 → Fx τ σ [] [] → aLoop (acode Try.prog c) Q ⟨T, σ⟩ := by
  intro a0 z0t_3
  revert z0t_3
  refine impl_NameValid_l0.partial_correctness a0 _ ?_
  intro impl_NameValid_l0 IH z0t_3 out H c hc Q τ  hE hR T σ t0 t2 t3 hF
  obtain rfl := Option.some.inj ((rfl : loopAt Try.f25 0 = some _).symm.trans hc)
  refine aLoop_round ?_
  try simp only [go_sem, ↓reduceIte, Nat.reduceEqDiff, Nat.reduceAdd, Nat.reduceMul, Nat.reduceLeDiff, Nat.reduceLT, Int.reduceEq, Int.toNat_natCast, t0, t2, t3]
  refine aCnd_p (z0t_3 < (a0.size : Int)) rfl (fun h => ?_) (fun h => ?_)
  · rw [if_pos h] at H
    obtain ⟨x19, hx19, H⟩ := bnd H
    try simp only [go_sem, ↓reduceIte, Nat.reduceEqDiff, Nat.reduceAdd, Nat.reduceMul, Nat.reduceLeDiff, Nat.reduceLT, Int.reduceEq, Int.toNat_natCast, t0, t2, t3, aindex_sidx hx19]
    obtain ⟨x26, g3, H⟩ := bnd H
    refine aGd_cutN 2 24 26 (.bool x26) (aGd_intro (fun q4 => ?_) (fun q4 => ?_)) (fun J => ?_)
    · try simp only [go_sem, ↓reduceIte, Nat.reduceEqDiff, Nat.reduceAdd, Nat.reduceMul, Nat.reduceLeDiff, Nat.reduceLT, Int.reduceEq, Int.toNat_natCast, t0, t2, t3, q4]
      refine cut_done 24 (by have e := pur g3; subst e; (first | rfl | (simp only [go_sem, ↓reduceIte, Nat.reduceEqDiff, Nat.reduceAdd, Nat.reduceMul, Nat.reduceLeDiff, Nat.reduceLT, Int.reduceEq, Int.toNat_natCast, q4]; done) | (simp only [go_sem, ↓reduceIte, Nat.reduceEqDiff, Nat.reduceAdd, Nat.reduceMul, Nat.reduceLeDiff, Nat.reduceLT, Int.reduceEq, Int.toNat_natCast, q4]; simp_all [upd_app]) | simp_all [upd_app])) ?_
      (repeat (first | refine agree_upd (by decide) ?_ | refine agree_low (by decide) ?_)) <;> (repeat (first | refine agree_updR (by decide) ?_ | refine agree_lowR (by decide) ?_)) <;> exact fun _ _ _ => rfl
    · try simp only [go_sem, ↓reduceIte, Nat.reduceEqDiff, Nat.reduceAdd, Nat.reduceMul, Nat.reduceLeDiff, Nat.reduceLT, Int.reduceEq, Int.toNat_natCast, t0, t2, t3, q4]
      refine cut_done 24 (by have e := pur g3; subst e; (first | rfl | (simp only [go_sem, ↓reduceIte, Nat.reduceEqDiff, Nat.reduceAdd, Nat.reduceMul, Nat.reduceLeDiff, Nat.reduceLT, Int.reduceEq, Int.toNat_natCast, q4]; done) | (simp only [go_sem, ↓reduceIte, Nat.reduceEqDiff, Nat.reduceAdd, Nat.reduceMul, Nat.reduceLeDiff, Nat.reduceLT, Int.reduceEq, Int.toNat_natCast, q4]; simp_all [upd_app]) | simp_all [upd_app])) ?_
      (repeat (first | refine agree_upd (by decide) ?_ | refine agree_low (by decide) ?_)) <;> (repeat (first | refine agree_updR (by decide) ?_ | refine agree_lowR (by decide) ?_)) <;> exact fun _ _ _ => rfl
    try simp only [go_sem, ↓reduceIte, Nat.reduceEqDiff, Nat.reduceAdd, Nat.reduceMul, Nat.reduceLeDiff, Nat.reduceLT, Int.reduceEq, Int.toNat_natCast, t0, t2, t3]
    obtain ⟨x31, g5, H⟩ := bnd H
    refine aGd_cutN 3 28 31 (.bool x31) (aGd_introN (fun q6 => ?_) (fun q6 => ?_)) (fun J => ?_)
    · rw [if_neg (b_f q6)] at g5
      try simp only [go_sem, ↓reduceIte, Nat.reduceEqDiff, Nat.reduceAdd, Nat.reduceMul, Nat.reduceLeDiff, Nat.reduceLT, Int.reduceEq, Int.toNat_natCast, t0, t2, t3, q6]
      obtain ⟨x29, hx29, g5⟩ := bnd g5
      refine aCall_pure (strings_IndexByte_ok (ByteArray.mk #[42, 63, 61, 43, 60]) x19 _ hx29) (WkVL.refl _) ?_
      try simp only [go_sem, ↓reduceIte, Nat.reduceEqDiff, Nat.reduceAdd, Nat.reduceMul, Nat.reduceLeDiff, Nat.reduceLT, Int.reduceEq, Int.toNat_natCast, t0, t2, t3, q6]
      refine cut_done 28 (by have e := pur g5; subst e; (first | rfl | (simp only [go_sem, ↓reduceIte, Nat.reduceEqDiff, Nat.reduceAdd, Nat.reduceMul, Nat.reduceLeDiff, Nat.reduceLT, Int.reduceEq, Int.toNat_natCast, q6]; done) | (simp only [go_sem, ↓reduceIte, Nat.reduceEqDiff, Nat.reduceAdd, Nat.reduceMul, Nat.reduceLeDiff, Nat.reduceLT, Int.reduceEq, Int.toNat_natCast, q6]; simp_all [upd_app]) | simp_all [upd_app])) ?_
      (repeat (first | refine agree_upd (by decide) ?_ | refine agree_low (by decide) ?_)) <;> (repeat (first | refine agree_updR (by decide) ?_ | refine agree_lowR (by decide) ?_)) <;> exact fun _ _ _ => rfl
    · rw [if_pos (q6)] at g5
      try simp only [go_sem, ↓reduceIte, Nat.reduceEqDiff, Nat.reduceAdd, Nat.reduceMul, Nat.reduceLeDiff, Nat.reduceLT, Int.reduceEq, Int.toNat_natCast, t0, t2, t3, q6]
      refine cut_done 28 (by have e := pur g5; subst e; (first | rfl | (simp only [go_sem, ↓reduceIte, Nat.reduceEqDiff, Nat.reduceAdd, Nat.reduceMul, Nat.reduceLeDiff, Nat.reduceLT, Int.reduceEq, Int.toNat_natCast, q6]; done) | (simp only [go_sem, ↓reduceIte, Nat.reduceEqDiff, Nat.reduceAdd, Nat.reduceMul, Nat.reduceLeDiff, Nat.reduceLT, Int.reduceEq, Int.toNat_natCast, q6]; simp_all [upd_app]) | simp_all [upd_app])) ?_
      (repeat (first | refine agree_upd (by decide) ?_ | refine agree_low (by decide) ?_)) <;> (repeat (first | refine agree_updR (by decide) ?_ | refine agree_lowR (by decide) ?_)) <;> exact fun _ _ _ => rfl
    try simp only [go_sem, ↓reduceIte, Nat.reduceEqDiff, Nat.reduceAdd, Nat.reduceMul, Nat.reduceLeDiff, Nat.reduceLT, Int.reduceEq, Int.toNat_natCast, t0, t2, t3]
    refine aCnd_b x31 rfl (fun h => ?_) (fun h => ?_)
    · rw [if_pos h] at H
      try simp only [go_sem, ↓reduceIte, Nat.reduceEqDiff, Nat.reduceAdd, Nat.reduceMul, Nat.reduceLeDiff, Nat.reduceLT, Int.reduceEq, Int.toNat_natCast, t0, t2, t3]
      exact IH  (IntKind.i64.wrap (z0t_3 + 1)) _ H _ rfl Q τ  hE hR _ _  (by first | (simp only [go_sem, ↓reduceIte, Nat.reduceEqDiff, Nat.reduceAdd, Nat.reduceMul, Nat.reduceLeDiff, Nat.reduceLT, Int.reduceEq, Int.toNat_natCast, t0, t2, t3]; done) | rfl | (simp only [go_sem, ↓reduceIte, Nat.reduceEqDiff, Nat.reduceAdd, Nat.reduceMul, Nat.reduceLeDiff, Nat.reduceLT, Int.reduceEq, Int.toNat_natCast, t0, t2, t3]; rfl)) (by first | (simp only [go_sem, ↓reduceIte, Nat.reduceEqDiff, Nat.reduceAdd, Nat.reduceMul, Nat.reduceLeDiff, Nat.reduceLT, Int.reduceEq, Int.toNat_natCast, t0, t2, t3]; done) | rfl | (simp only [go_sem, ↓reduceIte, Nat.reduceEqDiff, Nat.reduceAdd, Nat.reduceMul, Nat.reduceLeDiff, Nat.reduceLT, Int.reduceEq, Int.toNat_natCast, t0, t2, t3]; rfl)) (by first | (simp only [go_sem, ↓reduceIte, Nat.reduceEqDiff, Nat.reduceAdd, Nat.reduceMul, Nat.reduceLeDiff, Nat.reduceLT, Int.reduceEq, Int.toNat_natCast, t0, t2, t3]; done) | rfl | (simp only [go_sem, ↓reduceIte, Nat.reduceEqDiff, Nat.reduceAdd, Nat.reduceMul, Nat.reduceLeDiff, Nat.reduceLT, Int.reduceEq, Int.toNat_natCast, t0, t2, t3]; rfl)) hF
    · rw [if_neg h] at H
      try simp only [go_sem, ↓reduceIte, Nat.reduceEqDiff, Nat.reduceAdd, Nat.reduceMul, Nat.reduceLeDiff, Nat.reduceLT, Int.reduceEq, Int.toNat_natCast, t0, t2, t3]
      obtain ⟨x46, g7, H⟩ := bnd H
      refine aGd_cutN 10 36 46 (.bool x46) (aGd_intro (fun q8 => ?_) (fun q8 => ?_)) (fun J => ?_)
      · rw [if_pos (of_decide_eq_true q8)] at g7
        try simp only [go_sem, ↓reduceIte, Nat.reduceEqDiff, Nat.reduceAdd, Nat.reduceMul, Nat.reduceLeDiff, Nat.reduceLT, Int.reduceEq, Int.toNat_natCast, t0, t2, t3, q8]
        obtain ⟨x41, g9, g7⟩ := bnd g7
        refine aGd_cutN 2 39 41 (.bool x41) (aGd_intro (fun q10 => ?_) (fun q10 => ?_)) (fun J => ?_)
        · try simp only [go_sem, ↓reduceIte, Nat.reduceEqDiff, Nat.reduceAdd, Nat.reduceMul, Nat.reduceLeDiff, Nat.reduceLT, Int.reduceEq, Int.toNat_natCast, t0, t2, t3, q8, q10]
          refine cut_done 39 (by have e := pur g9; subst e; (first | rfl | (simp only [go_sem, ↓reduceIte, Nat.reduceEqDiff, Nat.reduceAdd, Nat.reduceMul, Nat.reduceLeDiff, Nat.reduceLT, Int.reduceEq, Int.toNat_natCast, q8, q10]; done) | (simp only [go_sem, ↓reduceIte, Nat.reduceEqDiff, Nat.reduceAdd, Nat.reduceMul, Nat.reduceLeDiff, Nat.reduceLT, Int.reduceEq, Int.toNat_natCast, q8, q10]; simp_all [upd_app]) | simp_all [upd_app])) ?_
          (repeat (first | refine agree_upd (by decide) ?_ | refine agree_low (by decide) ?_)) <;> (repeat (first | refine agree_updR (by decide) ?_ | refine agree_lowR (by decide) ?_)) <;> exact fun _ _ _ => rfl
        · try simp only [go_sem, ↓reduceIte, Nat.reduceEqDiff, Nat.reduceAdd, Nat.reduceMul, Nat.reduceLeDiff, Nat.reduceLT, Int.reduceEq, Int.toNat_natCast, t0, t2, t3, q8, q10]
          refine cut_done 39 (by have e := pur g9; subst e; (first | rfl | (simp only [go_sem, ↓reduceIte, Nat.reduceEqDiff, Nat.reduceAdd, Nat.reduceMul, Nat.reduceLeDiff, Nat.reduceLT, Int.reduceEq, Int.toNat_natCast, q8, q10]; done) | (simp only [go_sem, ↓reduceIte, Nat.reduceEqDiff, Nat.reduceAdd, Nat.reduceMul, Nat.reduceLeDiff, Nat.reduceLT, Int.reduceEq, Int.toNat_natCast, q8, q10]; simp_all [upd_app]) | simp_all [upd_app])) ?_
          (repeat (first | refine agree_upd (by decide) ?_ | refine agree_low (by decide) ?_)) <;> (repeat (first | refine agree_updR (by decide) ?_ | refine agree_lowR (by decide) ?_)) <;> exact fun _ _ _ => rfl
        try simp only [go_sem, ↓reduceIte, Nat.reduceEqDiff, Nat.reduceAdd, Nat.reduceMul, Nat.reduceLeDiff, Nat.reduceLT, Int.reduceEq, Int.toNat_natCast, t0, t2, t3, q8]
        obtain ⟨x45, g11, g7⟩ := bnd g7
        refine aGd_cutN 2 43 45 (.bool x45) (aGd_introN (fun q12 => ?_) (fun q12 => ?_)) (fun J => ?_)
        · try simp only [go_sem, ↓reduceIte, Nat.reduceEqDiff, Nat.reduceAdd, Nat.reduceMul, Nat.reduceLeDiff, Nat.reduceLT, Int.reduceEq, Int.toNat_natCast, t0, t2, t3, q8, q12]
          refine cut_done 43 (by have e := pur g11; subst e; (first | rfl | (simp only [go_sem, ↓reduceIte, Nat.reduceEqDiff, Nat.reduceAdd, Nat.reduceMul, Nat.reduceLeDiff, Nat.reduceLT, Int.reduceEq, Int.toNat_natCast, q8, q12]; done) | (simp only [go_sem, ↓reduceIte, Nat.reduceEqDiff, Nat.reduceAdd, Nat.reduceMul, Nat.reduceLeDiff, Nat.reduceLT, Int.reduceEq, Int.toNat_natCast, q8, q12]; simp_all [upd_app]) | simp_all [upd_app])) ?_
          (repeat (first | refine agree_upd (by decide) ?_ | refine agree_low (by decide) ?_)) <;> (repeat (first | refine agree_updR (by decide) ?_ | refine agree_lowR (by decide) ?_)) <;> exact fun _ _ _ => rfl
        · try simp only [go_sem, ↓reduceIte, Nat.reduceEqDiff, Nat.reduceAdd, Nat.reduceMul, Nat.reduceLeDiff, Nat.reduceLT, Int.reduceEq, Int.toNat_natCast, t0, t2, t3, q8, q12]
          refine cut_done 43 (by have e := pur g11; subst e; (first | rfl | (simp only [go_sem, ↓reduceIte, Nat.reduceEqDiff, Nat.reduceAdd, Nat.reduceMul, Nat.reduceLeDiff, Nat.reduceLT, Int.reduceEq, Int.toNat_natCast, q8, q12]; done) | (simp only [go_sem, ↓reduceIte, Nat.reduceEqDiff, Nat.reduceAdd, Nat.reduceMul, Nat.reduceLeDiff, Nat.reduceLT, Int.reduceEq, Int.toNat_natCast, q8, q12]; simp_all [upd_app]) | simp_all [upd_app])) ?_
          (repeat (first | refine agree_upd (by decide) ?_ | refine agree_low (by decide) ?_)) <;> (repeat (first | refine agree_updR (by decide) ?_ | refine agree_lowR (by decide) ?_)) <;> exact fun _ _ _ => rfl
        try simp only [go_sem, ↓reduceIte, Nat.reduceEqDiff, Nat.reduceAdd, Nat.reduceMul, Nat.reduceLeDiff, Nat.reduceLT, Int.reduceEq, Int.toNat_natCast, t0, t2, t3, q8]
        refine cut_done 36 (by have e := pur g7; subst e; (first | rfl | (simp only [go_sem, ↓reduceIte, Nat.reduceEqDiff, Nat.reduceAdd, Nat.reduceMul, Nat.reduceLeDiff, Nat.reduceLT, Int.reduceEq, Int.toNat_natCast, q8]; done) | (simp only [go_sem, ↓reduceIte, Nat.reduceEqDiff, Nat.reduceAdd, Nat.reduceMul, Nat.reduceLeDiff, Nat.reduceLT, Int.reduceEq, Int.toNat_natCast, q8]; simp_all [upd_app]) | simp_all [upd_app])) ?_
        (repeat (first | refine agree_upd (by decide) ?_ | refine agree_low (by decide) ?_)) <;> (repeat (first | refine agree_updR (by decide) ?_ | refine agree_lowR (by decide) ?_)) <;> exact fun _ _ _ => rfl
      · rw [if_neg (of_decide_eq_false q8)] at g7
        try simp only [go_sem, ↓reduceIte, Nat.reduceEqDiff, Nat.reduceAdd, Nat.reduceMul, Nat.reduceLeDiff, Nat.reduceLT, Int.reduceEq, Int.toNat_natCast, t0, t2, t3, q8]
        refine cut_done 36 (by have e := pur g7; subst e; (first | rfl | (simp only [go_sem, ↓reduceIte, Nat.reduceEqDiff, Nat.reduceAdd, Nat.reduceMul, Nat.reduceLeDiff, Nat.reduceLT, Int.reduceEq, Int.toNat_natCast, q8]; done) | (simp only [go_sem, ↓reduceIte, Nat.reduceEqDiff, Nat.reduceAdd, Nat.reduceMul, Nat.reduceLeDiff, Nat.reduceLT, Int.reduceEq, Int.toNat_natCast, q8]; simp_all [upd_app]) | simp_all [upd_app])) ?_
        (repeat (first | refine agree_upd (by decide) ?_ | refine agree_low (by decide) ?_)) <;> (repeat (first | refine agree_updR (by decide) ?_ | refine agree_lowR (by decide) ?_)) <;> exact fun _ _ _ => rfl
      try simp only [go_sem, ↓reduceIte, Nat.reduceEqDiff, Nat.reduceAdd, Nat.reduceMul, Nat.reduceLeDiff, Nat.reduceLT, Int.reduceEq, Int.toNat_natCast, t0, t2, t3]
      refine aCnd_b x46 rfl (fun h => ?_) (fun h => ?_)
      · rw [if_pos h] at H
        try simp only [go_sem, ↓reduceIte, Nat.reduceEqDiff, Nat.reduceAdd, Nat.reduceMul, Nat.reduceLeDiff, Nat.reduceLT, Int.reduceEq, Int.toNat_natCast, t0, t2, t3]
        exact IH  (IntKind.i64.wrap (z0t_3 + 1)) _ H _ rfl Q τ  hE hR _ _  (by first | (simp only [go_sem, ↓reduceIte, Nat.reduceEqDiff, Nat.reduceAdd, Nat.reduceMul, Nat.reduceLeDiff, Nat.reduceLT, Int.reduceEq, Int.toNat_natCast, t0, t2, t3]; done) | rfl | (simp only [go_sem, ↓reduceIte, Nat.reduceEqDiff, Nat.reduceAdd, Nat.reduceMul, Nat.reduceLeDiff, Nat.reduceLT, Int.reduceEq, Int.toNat_natCast, t0, t2, t3]; rfl)) (by first | (simp only [go_sem, ↓reduceIte, Nat.reduceEqDiff, Nat.reduceAdd, Nat.reduceMul, Nat.reduceLeDiff, Nat.reduceLT, Int.reduceEq, Int.toNat_natCast, t0, t2, t3]; done) | rfl | (simp only [go_sem, ↓reduceIte, Nat.reduceEqDiff, Nat.reduceAdd, Nat.reduceMul, Nat.reduceLeDiff, Nat.reduceLT, Int.reduceEq, Int.toNat_natCast, t0, t2, t3]; rfl)) (by first | (simp only [go_sem, ↓reduceIte, Nat.reduceEqDiff, Nat.reduceAdd, Nat.reduceMul, Nat.reduceLeDiff, Nat.reduceLT, Int.reduceEq, Int.toNat_natCast, t0, t2, t3]; done) | rfl | (simp only [go_sem, ↓reduceIte, Nat.reduceEqDiff, Nat.reduceAdd, Nat.reduceMul, Nat.reduceLeDiff, Nat.reduceLT, Int.reduceEq, Int.toNat_natCast, t0, t2, t3]; rfl)) hF
      · rw [if_neg h] at H
        try simp only [go_sem, ↓reduceIte, Nat.reduceEqDiff, Nat.reduceAdd, Nat.reduceMul, Nat.reduceLeDiff, Nat.reduceLT, Int.reduceEq, Int.toNat_natCast, t0, t2, t3]
        exact hR _ (pur H).symm _ (fx_ret (vs := [.bool false]) (by first | (simp only [go_sem, ↓reduceIte, Nat.reduceEqDiff, Nat.reduceAdd, Nat.reduceMul, Nat.reduceLeDiff, Nat.reduceLT, Int.reduceEq, Int.toNat_natCast, t0, t2, t3]; done) | rfl | (simp only [go_sem, ↓reduceIte, Nat.reduceEqDiff, Nat.reduceAdd, Nat.reduceMul, Nat.reduceLeDiff, Nat.reduceLT, Int.reduceEq, Int.toNat_natCast, t0, t2, t3]; rfl)) (hF.wk0 _))
  · rw [if_neg h] at H
    try simp only [go_sem, ↓reduceIte, Nat.reduceEqDiff, Nat.reduceAdd, Nat.reduceMul, Nat.reduceLeDiff, Nat.reduceLT, Int.reduceEq, Int.toNat_natCast, t0, t2, t3]
    exact hE () (pur H).symm _ _  (by first | (simp only [go_sem, ↓reduceIte, Nat.reduceEqDiff, Nat.reduceAdd, Nat.reduceMul, Nat.reduceLeDiff, Nat.reduceLT, Int.reduceEq, Int.toNat_natCast, t0, t2, t3]; done) | rfl | (simp only [go_sem, ↓reduceIte, Nat.reduceEqDiff, Nat.reduceAdd, Nat.reduceMul, Nat.reduceLeDiff, Nat.reduceLT, Int.reduceEq, Int.toNat_natCast, t0, t2, t3]; rfl)) (by first | (simp only [go_sem, ↓reduceIte, Nat.reduceEqDiff, Nat.reduceAdd, Nat.reduceMul, Nat.reduceLeDiff, Nat.reduceLT, Int.reduceEq, Int.toNat_natCast, t0, t2, t3]; done) | rfl | (simp only [go_sem, ↓reduceIte, Nat.reduceEqDiff, Nat.reduceAdd, Nat.reduceMul, Nat.reduceLeDiff, Nat.reduceLT, Int.reduceEq, Int.toNat_natCast, t0, t2, t3]; rfl)) hF
theorem impl_NameValid_ok : ∀ (a0 : ByteArray) r, impl_NameValid a0 = some r → PCtr Try.prog 25 [.str a0] (.bool r) := by
  intro a0 r H
  intro σ
  unfold impl_NameValid at H
  refine ctr_of mixed Try.func25 rfl (by kernel_rfl) (rs := [.tmp 2]) rfl (by kernel_rfl) ?_
  have hF := Fx.refl σ
  have hX := Tau.none σ
  try simp only [go_sem, ↓reduceIte, Nat.reduceEqDiff, Nat.reduceAdd, Nat.reduceMul, Nat.reduceLeDiff, Nat.reduceLT, Int.reduceEq, Int.toNat_natCast]
  obtain ⟨x10, g1, H⟩ := bnd H
  refine aGd_cutN 2 8 10 (.bool x10) (aGd_introN (fun q2 => ?_) (fun q2 => ?_)) (fun J => ?_)
  · try simp only [go_sem, ↓reduceIte, Nat.reduceEqDiff, Nat.reduceAdd, Nat.reduceMul, Nat.reduceLeDiff, Nat.reduceLT, Int.reduceEq, Int.toNat_natCast, q2]
    refine cut_done 8 (by have e := pur g1; subst e; (first | rfl | (simp only [go_sem, ↓reduceIte, Nat.reduceEqDiff, Nat.reduceAdd, Nat.reduceMul, Nat.reduceLeDiff, Nat.reduceLT, Int.reduceEq, Int.toNat_natCast, q2]; done) | (simp only [go_sem, ↓reduceIte, Nat.reduceEqDiff, Nat.reduceAdd, Nat.reduceMul, Nat.reduceLeDiff, Nat.reduceLT, Int.reduceEq, Int.toNat_natCast, q2]; simp_all [upd_app]) | simp_all [upd_app])) ?_
    (repeat (first | refine agree_upd (by decide) ?_ | refine agree_low (by decide) ?_)) <;> (repeat (first | refine agree_updR (by decide) ?_ | refine agree_lowR (by decide) ?_)) <;> exact fun _ _ _ => rfl
  · try simp only [go_sem, ↓reduceIte, Nat.reduceEqDiff, Nat.reduceAdd, Nat.reduceMul, Nat.reduceLeDiff, Nat.reduceLT, Int.reduceEq, Int.toNat_natCast, q2]
    refine cut_done 8 (by have e := pur g1; subst e; (first | rfl | (simp only [go_sem, ↓reduceIte, Nat.reduceEqDiff, Nat.reduceAdd, Nat.reduceMul, Nat.reduceLeDiff, Nat.reduceLT, Int.reduceEq, Int.toNat_natCast, q2]; done) | (simp only [go_sem, ↓reduceIte, Nat.reduceEqDiff, Nat.reduceAdd, Nat.reduceMul, Nat.reduceLeDiff, Nat.reduceLT, Int.reduceEq, Int.toNat_natCast, q2]; simp_all [upd_app]) | simp_all [upd_app])) ?_
    (repeat (first | refine agree_upd (by decide) ?_ | refine agree_low (by decide) ?_)) <;> (repeat (first | refine agree_updR (by decide) ?_ | refine agree_lowR (by decide) ?_)) <;> exact fun _ _ _ => rfl
  try simp only [go_sem, ↓reduceIte, Nat.reduceEqDiff, Nat.reduceAdd, Nat.reduceMul, Nat.reduceLeDiff, Nat.reduceLT, Int.reduceEq, Int.toNat_natCast]
  refine aCnd_b x10 rfl (fun h => ?_) (fun h => ?_)
  · rw [if_pos h] at H
    try simp only [go_sem, ↓reduceIte, Nat.reduceEqDiff, Nat.reduceAdd, Nat.reduceMul, Nat.reduceLeDiff, Nat.reduceLT, Int.reduceEq, Int.toNat_natCast]
    have e := pur H; subst e
    exact fx_ret (vs := [.bool true]) (by first | (simp only [go_sem, ↓reduceIte, Nat.reduceEqDiff, Nat.reduceAdd, Nat.reduceMul, Nat.reduceLeDiff, Nat.reduceLT, Int.reduceEq, Int.toNat_natCast]; done) | rfl | (simp only [go_sem, ↓reduceIte, Nat.reduceEqDiff, Nat.reduceAdd, Nat.reduceMul, Nat.reduceLeDiff, Nat.reduceLT, Int.reduceEq, Int.toNat_natCast]; rfl)) (hF.wk0 _)
  · rw [if_neg h] at H
    try simp only [go_sem, ↓reduceIte, Nat.reduceEqDiff, Nat.reduceAdd, Nat.reduceMul, Nat.reduceLeDiff, Nat.reduceLT, Int.reduceEq, Int.toNat_natCast]
    obtain ⟨o13, ho13, H⟩ := bnd H
    refine impl_NameValid_l0_ok a0 0 _ ho13 _ rfl _ _  ?_ ?_ _ _  (by first | (simp only [go_sem, ↓reduceIte, Nat.reduceEqDiff, Nat.reduceAdd, Nat.reduceMul, Nat.reduceLeDiff, Nat.reduceLT, Int.reduceEq, Int.toNat_natCast]; done) | rfl | (simp only [go_sem, ↓reduceIte, Nat.reduceEqDiff, Nat.reduceAdd, Nat.reduceMul, Nat.reduceLeDiff, Nat.reduceLT, Int.reduceEq, Int.toNat_natCast]; rfl)) (by first | (simp only [go_sem, ↓reduceIte, Nat.reduceEqDiff, Nat.reduceAdd, Nat.reduceMul, Nat.reduceLeDiff, Nat.reduceLT, Int.reduceEq, Int.toNat_natCast]; done) | rfl | (simp only [go_sem, ↓reduceIte, Nat.reduceEqDiff, Nat.reduceAdd, Nat.reduceMul, Nat.reduceLeDiff, Nat.reduceLT, Int.reduceEq, Int.toNat_natCast]; rfl)) (by first | (simp only [go_sem, ↓reduceIte, Nat.reduceEqDiff, Nat.reduceAdd, Nat.reduceMul, Nat.reduceLeDiff, Nat.reduceLT, Int.reduceEq, Int.toNat_natCast]; done) | rfl | (simp only [go_sem, ↓reduceIte, Nat.reduceEqDiff, Nat.reduceAdd, Nat.reduceMul, Nat.reduceLeDiff, Nat.reduceLT, Int.reduceEq, Int.toNat_natCast]; rfl)) hF
    · intro _ he T15 σ16 t0 t2 hF
      have he := he.symm
      subst he
      dsimp only at H
      try simp only [go_sem, ↓reduceIte, Nat.reduceEqDiff, Nat.reduceAdd, Nat.reduceMul, Nat.reduceLeDiff, Nat.reduceLT, Int.reduceEq, Int.toNat_natCast, t0, t2]
      obtain ⟨x49, hx49, H⟩ := bnd H
      refine aCall_pure (impl_within_ok (a0.size : Int) 1 12 _ hx49) (WkVL.refl _) ?_
      try simp only [go_sem, ↓reduceIte, Nat.reduceEqDiff, Nat.reduceAdd, Nat.reduceMul, Nat.reduceLeDiff, Nat.reduceLT, Int.reduceEq, Int.toNat_natCast, t0, t2]
      have e := pur H; subst e
      exact fx_ret (vs := [.bool x49]) (by first | (simp only [go_sem, ↓reduceIte, Nat.reduceEqDiff, Nat.reduceAdd, Nat.reduceMul, Nat.reduceLeDiff, Nat.reduceLT, Int.reduceEq, Int.toNat_natCast, t0, t2]; done) | rfl | (simp only [go_sem, ↓reduceIte, Nat.reduceEqDiff, Nat.reduceAdd, Nat.reduceMul, Nat.reduceLeDiff, Nat.reduceLT, Int.reduceEq, Int.toNat_natCast, t0, t2]; rfl)) (hF.wk0 _)
    · intro r hr s' hs
      subst hr
      have e := pur H; subst e
      first | exact hs | (try simp only [Fm.cells_eq] at hs ⊢; exact hs)
theorem impl_scopesOk_l0_ok : ∀ (a0 : List Int) (z0t_7 : Int) out, impl_scopesOk_l0 a0 z0t_7 = some out → ∀ c, loopAt Try.f47 0 = some c → ∀ (Q : AX → AS → Prop) (τ : Sto), (∀ (_u : Unit), out = Sum.inr () → ∀ (T : Nat → AV) (σ : Sto), T 0 = .sl false (rws cI a0) → T 2 = .bool false → Fx τ σ [] [] → Q (.ex 0) ⟨T, σ⟩) → (∀ r, out = Sum.inl r → ∀ s', aRet Try.prog [.tmp 2] (fun r' σ' => r' = .bool r ∧ σ' = τ) s' → Q .ret s') → ∀ (T : Nat → AV) (σ : Sto), T 0 = .sl false (rws cI a0) → T 2 = .bool false → T 5 = .sl false (rws cI a0) → T 6 = .int .i64 (a0.length : Int) → T 7 = .int .i64 z0t_7 → Fx τ σ [] [] → aLoop (acode Try.prog c) Q ⟨T, σ⟩ := by
  intro a0 z0t_7
  revert z0t_7
  refine impl_scopesOk_l0.partial_correctness a0 _ ?_
  intro impl_scopesOk_l0 IH z0t_7 out H c hc Q τ  hE hR T σ t0 t2 t5 t6 t7 hF
  obtain rfl := Option.some.inj ((rfl : loopAt Try.f47 0 = some _).symm.trans hc)
  refine aLoop_round ?_
  try simp only [go_sem, ↓reduceIte, Nat.reduceEqDiff, Nat.reduceAdd, Nat.reduceMul, Nat.reduceLeDiff, Nat.reduceLT, Int.reduceEq, Int.toNat_natCast, t0, t2, t5, t6, t7]
  refine aCnd_p (z0t_7 < (a0.length : Int)) rfl (fun h => ?_) (fun h => ?_)
  · rw [if_pos h] at H
    obtain ⟨x10, hx10, H⟩ := bnd H
    try simp only [go_sem, ↓reduceIte, Nat.reduceEqDiff, Nat.reduceAdd, Nat.reduceMul, Nat.reduceLeDiff, Nat.reduceLT, Int.reduceEq, Int.toNat_natCast, t0, t2, t5, t6, t7, aidx_idx (g := cI) (fun _ => rfl) hx10]
    obtain ⟨x13, hx13, H⟩ := bnd H
    refine aCall_pure (impl_within_ok x10 1 99 _ hx13) (WkVL.refl _) ?_
    try simp only [go_sem, ↓reduceIte, Nat.reduceEqDiff, Nat.reduceAdd, Nat.reduceMul, Nat.reduceLeDiff, Nat.reduceLT, Int.reduceEq, Int.toNat_natCast, t0, t2, t5, t6, t7]
    obtain ⟨x27, g1, H⟩ := bnd H
    refine aGd_cutN 11 16 27 (.bool x27) (aGd_introN (fun q2 => ?_) (fun q2 => ?_)) (fun J => ?_)
    · rw [if_neg (b_f q2)] at g1
      try simp only [go_sem, ↓reduceIte, Nat.reduceEqDiff, Nat.reduceAdd, Nat.reduceMul, Nat.reduceLeDiff, Nat.reduceLT, Int.reduceEq, Int.toNat_natCast, t0, t2, t5, t6, t7, q2]
      obtain ⟨x26, g3, g1⟩ := bnd g1
      refine aGd_cutN 7 19 26 (.bool x26) (aGd_intro (fun q4 => ?_) (fun q4 => ?_)) (fun J => ?_)
      · rw [if_pos (of_decide_eq_true q4)] at g3
        obtain ⟨x22, hx22, g3⟩ := bnd g3
        try simp only [go_sem, ↓reduceIte, Nat.reduceEqDiff, Nat.reduceAdd, Nat.reduceMul, Nat.reduceLeDiff, Nat.reduceLT, Int.reduceEq, Int.toNat_natCast, t0, t2, t5, t6, t7, q2, q4, aidx_idx (g := cI) (fun _ => rfl) hx22]
        refine cut_done 19 (by have e := pur g3; subst e; (first | rfl | (simp only [go_sem, ↓reduceIte, Nat.reduceEqDiff, Nat.reduceAdd, Nat.reduceMul, Nat.reduceLeDiff, Nat.reduceLT, Int.reduceEq, Int.toNat_natCast, q2, q4]; done) | (simp only [go_sem, ↓reduceIte, Nat.reduceEqDiff, Nat.reduceAdd, Nat.reduceMul, Nat.reduceLeDiff, Nat.reduceLT, Int.reduceEq, Int.toNat_natCast, q2, q4]; simp_all [upd_app]) | simp_all [upd_app])) ?_
        (repeat (first | refine agree_upd (by decide) ?_ | refine agree_low (by decide) ?_)) <;> (repeat (first | refine agree_updR (by decide) ?_ | refine agree_lowR (by decide) ?_)) <;> exact fun _ _ _ => rfl
      · rw [if_neg (of_decide_eq_false q4)] at g3
        try simp only [go_sem, ↓reduceIte, Nat.reduceEqDiff, Nat.reduceAdd, Nat.reduceMul, Nat.reduceLeDiff, Nat.reduceLT, Int.reduceEq, Int.toNat_natCast, t0, t2, t5, t6, t7, q2, q4]
        refine cut_done 19 (by have e := pur g3; subst e; (first | rfl | (simp only [go_sem, ↓reduceIte, Nat.reduceEqDiff, Nat.reduceAdd, Nat.reduceMul, Nat.reduceLeDiff, Nat.reduceLT, Int.reduceEq, Int.toNat_natCast, q2, q4]; done) | (simp only [go_sem, ↓reduceIte, Nat.reduceEqDiff, Nat.reduceAdd, Nat.reduceMul, Nat.reduceLeDiff, Nat.reduceLT, Int.reduceEq, Int.toNat_natCast, q2, q4]; simp_all [upd_app]) | simp_all [upd_app])) ?_
        (repeat (first | refine agree_upd (by decide) ?_ | refine agree_low (by decide) ?_)) <;> (repeat (first | refine agree_updR (by decide) ?_ | refine agree_lowR (by decide) ?_)) <;> exact fun _ _ _ => rfl
      try simp only [go_sem, ↓reduceIte, Nat.reduceEqDiff, Nat.reduceAdd, Nat.reduceMul, Nat.reduceLeDiff, Nat.reduceLT, Int.reduceEq, Int.toNat_natCast, t0, t2, t5, t6, t7, q2]
      refine cut_done 16 (by have e := pur g1; subst e; (first | rfl | (simp only [go_sem, ↓reduceIte, Nat.reduceEqDiff, Nat.reduceAdd, Nat.reduceMul, Nat.reduceLeDiff, Nat.reduceLT, Int.reduceEq, Int.toNat_natCast, q2]; done) | (simp only [go_sem, ↓reduceIte, Nat.reduceEqDiff, Nat.reduceAdd, Nat.reduceMul, Nat.reduceLeDiff, Nat.reduceLT, Int.reduceEq, Int.toNat_natCast, q2]; simp_all [upd_app]) | simp_all [upd_app])) ?_
      (repeat (first | refine agree_upd (by decide) ?_ | refine agree_low (by decide) ?_)) <;> (repeat (first | refine agree_updR (by decide) ?_ | refine agree_lowR (by decide) ?_)) <;> exact fun _ _ _ => rfl
    · rw [if_pos (q2)] at g1
      try simp only [go_sem, ↓reduceIte, Nat.reduceEqDiff, Nat.reduceAdd, Nat.reduceMul, Nat.reduceLeDiff, Nat.reduceLT, Int.reduceEq, Int.toNat_natCast, t0, t2, t5, t6, t7, q2]
      refine cut_done 16 (by have e := pur g1; subst e; (first | rfl | (simp only [go_sem, ↓reduceIte, Nat.reduceEqDiff, Nat.reduceAdd, Nat.reduceMul, Nat.reduceLeDiff, Nat.reduceLT, Int.reduceEq, Int.toNat_natCast, q2]; done) | (simp only [go_sem, ↓reduceIte, Nat.reduceEqDiff, Nat.reduceAdd, Nat.reduceMul, Nat.reduceLeDiff, Nat.reduceLT, Int.reduceEq, Int.toNat_natCast, q2]; simp_all [upd_app]) | simp_all [upd_app])) ?_
      (repeat (first | refine agree_upd (by decide) ?_ | refine agree_low (by decide) ?_)) <;> (repeat (first | refine agree_updR (by decide) ?_ | refine agree_lowR (by decide) ?_)) <;> exact fun _ _ _ => rfl
    try simp only [go_sem, ↓reduceIte, Nat.reduceEqDiff, Nat.reduceAdd, Nat.reduceMul, Nat.reduceLeDiff, Nat.reduceLT, Int.reduceEq, Int.toNat_natCast, t0, t2, t5, t6, t7]
    refine aCnd_b x27 rfl (fun h => ?_) (fun h => ?_)
    · rw [if_pos h] at H
      try simp only [go_sem, ↓reduceIte, Nat.reduceEqDiff, Nat.reduceAdd, Nat.reduceMul, Nat.reduceLeDiff, Nat.reduceLT, Int.reduceEq, Int.toNat_natCast, t0, t2, t5, t6, t7]
      exact hR _ (pur H).symm _ (fx_ret (vs := [.bool false]) (by first | (simp only [go_sem, ↓reduceIte, Nat.reduceEqDiff, Nat.reduceAdd, Nat.reduceMul, Nat.reduceLeDiff, Nat.reduceLT, Int.reduceEq, Int.toNat_natCast, t0, t2, t5, t6, t7]; done) | rfl | (simp only [go_sem, ↓reduceIte, Nat.reduceEqDiff, Nat.reduceAdd, Nat.reduceMul, Nat.reduceLeDiff, Nat.reduceLT, Int.reduceEq, Int.toNat_natCast, t0, t2, t5, t6, t7]; rfl)) (hF.wk0 _))
    · rw [if_neg h] at H
      try simp only [go_sem, ↓reduceIte, Nat.reduceEqDiff, Nat.reduceAdd, Nat.reduceMul, Nat.reduceLeDiff, Nat.reduceLT, Int.reduceEq, Int.toNat_natCast, t0, t2, t5, t6, t7]
      exact IH  (IntKind.i64.wrap (z0t_7 + 1)) _ H _ rfl Q τ  hE hR _ _  (by first | (simp only [go_sem, ↓reduceIte, Nat.reduceEqDiff, Nat.reduceAdd, Nat.reduceMul, Nat.reduceLeDiff, Nat.reduceLT, Int.reduceEq, Int.toNat_natCast, t0, t2, t5, t6, t7]; done) | rfl | (simp only [go_sem, ↓reduceIte, Nat.reduceEqDiff, Nat.reduceAdd, Nat.reduceMul, Nat.reduceLeDiff, Nat.reduceLT, Int.reduceEq, Int.toNat_natCast, t0, t2, t5, t6, t7]; rfl)) (by first | (simp only [go_sem, ↓reduceIte, Nat.reduceEqDiff, Nat.reduceAdd, Nat.reduceMul, Nat.reduceLeDiff, Nat.reduceLT, Int.reduceEq, Int.toNat_natCast, t0, t2, t5, t6, t7]; done) | rfl | (simp only [go_sem, ↓reduceIte, Nat.reduceEqDiff, Nat.reduceAdd, Nat.reduceMul, Nat.reduceLeDiff, Nat.reduceLT, Int.reduceEq, Int.toNat_natCast, t0, t2, t5, t6, t7]; rfl)) (by first | (simp only [go_sem, ↓reduceIte, Nat.reduceEqDiff, Nat.reduceAdd, Nat.reduceMul, Nat.reduceLeDiff, Nat.reduceLT, Int.reduceEq, Int.toNat_natCast, t0, t2, t5, t6, t7]; done) | rfl | (simp only [go_sem, ↓reduceIte, Nat.reduceEqDiff, Nat.reduceAdd, Nat.reduceMul, Nat.reduceLeDiff, Nat.reduceLT, Int.reduceEq, Int.toNat_natCast, t0, t2, t5, t6, t7]; rfl)) (by first | (simp only [go_sem, ↓reduceIte, Nat.reduceEqDiff, Nat.reduceAdd, Nat.reduceMul, Nat.reduceLeDiff, Nat.reduceLT, Int.reduceEq, Int.toNat_natCast, t0, t2, t5, t6, t7]; done) | rfl | (simp only [go_sem, ↓reduceIte, Nat.reduceEqDiff, Nat.reduceAdd, Nat.reduceMul, Nat.reduceLeDiff, Nat.reduceLT, Int.reduceEq, Int.toNat_natCast, t0, t2, t5, t6, t7]; rfl)) (by first | (simp only [go_sem, ↓reduceIte, Nat.reduceEqDiff, Nat.reduceAdd, Nat.reduceMul, Nat.reduceLeDiff, Nat.reduceLT, Int.reduceEq, Int.toNat_natCast, t0, t2, t5, t6, t7]; done) | rfl | (simp only [go_sem, ↓reduceIte, Nat.reduceEqDiff, Nat.reduceAdd, Nat.reduceMul, Nat.reduceLeDiff, Nat.reduceLT, Int.reduceEq, Int.toNat_natCast, t0, t2, t5, t6, t7]; rfl)) hF
  · rw [if_neg h] at H
    try simp only [go_sem, ↓reduceIte, Nat.reduceEqDiff, Nat.reduceAdd, Nat.reduceMul, Nat.reduceLeDiff, Nat.reduceLT, Int.reduceEq, Int.toNat_natCast, t0, t2, t5, t6, t7]
    exact hE () (pur H).symm _ _  (by first | (simp only [go_sem, ↓reduceIte, Nat.reduceEqDiff, Nat.reduceAdd, Nat.reduceMul, Nat.reduceLeDiff, Nat.reduceLT, Int.reduceEq, Int.toNat_natCast, t0, t2, t5, t6, t7]; done) | rfl | (simp only [go_sem, ↓reduceIte, Nat.reduceEqDiff, Nat.reduceAdd, Nat.reduceMul, Nat.reduceLeDiff, Nat.reduceLT, Int.reduceEq, Int.toNat_natCast, t0, t2, t5, t6, t7]; rfl)) (by first | (simp only [go_sem, ↓reduceIte, Nat.reduceEqDiff, Nat.reduceAdd, Nat.reduceMul, Nat.reduceLeDiff, Nat.reduceLT, Int.reduceEq, Int.toNat_natCast, t0, t2, t5, t6, t7]; done) | rfl | (simp only [go_sem, ↓reduceIte, Nat.reduceEqDiff, Nat.reduceAdd, Nat.reduceMul, Nat.reduceLeDiff, Nat.reduceLT, Int.reduceEq, Int.toNat_natCast, t0, t2, t5, t6, t7]; rfl)) hF
theorem impl_scopesOk_ok : ∀ (a0 : List Int) r, impl_scopesOk a0 = some r → PCtr Try.prog 47 [.sl false (rws cI a0)] (.bool r) := by
  intro a0 r H
  intro σ
  unfold impl_scopesOk at H
  refine ctr_of mixed Try.func47 rfl (by kernel_rfl) (rs := [.tmp 2]) rfl (by kernel_rfl) ?_
  have hF := Fx.refl σ
  have hX := Tau.none σ
  try simp only [go_sem, ↓reduceIte, Nat.reduceEqDiff, Nat.reduceAdd, Nat.reduceMul, Nat.reduceLeDiff, Nat.reduceLT, Int.reduceEq, Int.toNat_natCast]
  obtain ⟨o5, ho5, H⟩ := bnd H
  refine impl_scopesOk_l0_ok a0 0 _ ho5 _ rfl _ _  ?_ ?_ _ _  (by first | (simp only [go_sem, ↓reduceIte, Nat.reduceEqDiff, Nat.reduceAdd, Nat.reduceMul, Nat.reduceLeDiff, Nat.reduceLT, Int.reduceEq, Int.toNat_natCast]; done) | rfl | (simp only [go_sem, ↓reduceIte, Nat.reduceEqDiff, Nat.reduceAdd, Nat.reduceMul, Nat.reduceLeDiff, Nat.reduceLT, Int.reduceEq, Int.toNat_natCast]; rfl)) (by first | (simp only [go_sem, ↓reduceIte, Nat.reduceEqDiff, Nat.reduceAdd, Nat.reduceMul, Nat.reduceLeDiff, Nat.reduceLT, Int.reduceEq, Int.toNat_natCast]; done) | rfl | (simp only [go_sem, ↓reduceIte, Nat.reduceEqDiff, Nat.reduceAdd, Nat.reduceMul, Nat.reduceLeDiff, Nat.reduceLT, Int.reduceEq, Int.toNat_natCast]; rfl)) (by first | (simp only [go_sem, ↓reduceIte, Nat.reduceEqDiff, Nat.reduceAdd, Nat.reduceMul, Nat.reduceLeDiff, Nat.reduceLT, Int.reduceEq, Int.toNat_natCast]; done) | rfl | (simp only [go_sem, ↓reduceIte, Nat.reduceEqDiff, Nat.reduceAdd, Nat.reduceMul, Nat.reduceLeDiff, Nat.reduceLT, Int.reduceEq, Int.toNat_natCast]; rfl)) (by first | (simp only [go_sem, ↓reduceIte, Nat.reduceEqDiff, Nat.reduceAdd, Nat.reduceMul, Nat.reduceLeDiff, Nat.reduceLT, Int.reduceEq, Int.toNat_natCast]; done) | rfl | (simp only [go_sem, ↓reduceIte, Nat.reduceEqDiff, Nat.reduceAdd, Nat.reduceMul, Nat.reduceLeDiff, Nat.reduceLT, Int.reduceEq, Int.toNat_natCast]; rfl)) (by first | (simp only [go_sem, ↓reduceIte, Nat.reduceEqDiff, Nat.reduceAdd, Nat.reduceMul, Nat.reduceLeDiff, Nat.reduceLT, Int.reduceEq, Int.toNat_natCast]; done) | rfl | (simp only [go_sem, ↓reduceIte, Nat.reduceEqDiff, Nat.reduceAdd, Nat.reduceMul, Nat.reduceLeDiff, Nat.reduceLT, Int.reduceEq, Int.toNat_natCast]; rfl)) hF
  · intro _ he T7 σ8 t0 t2 hF
    have he := he.symm
    subst he
    dsimp only at H
    try simp only [go_sem, ↓reduceIte, Nat.reduceEqDiff, Nat.reduceAdd, Nat.reduceMul, Nat.reduceLeDiff, Nat.reduceLT, Int.reduceEq, Int.toNat_natCast, t0, t2]
    have e := pur H; subst e
    exact fx_ret (vs := [.bool (decide ((a0.length : Int) ≤ 24))]) (by first | (simp only [go_sem, ↓reduceIte, Nat.reduceEqDiff, Nat.reduceAdd, Nat.reduceMul, Nat.reduceLeDiff, Nat.reduceLT, Int.reduceEq, Int.toNat_natCast, t0, t2]; done) | rfl | (simp only [go_sem, ↓reduceIte, Nat.reduceEqDiff, Nat.reduceAdd, Nat.reduceMul, Nat.reduceLeDiff, Nat.reduceLT, Int.reduceEq, Int.toNat_natCast, t0, t2]; rfl)) (hF.wk0 _)
  · intro r hr s' hs
    subst hr
    have e := pur H; subst e
    first | exact hs | (try simp only [Fm.cells_eq] at hs ⊢; exact hs)
theorem impl_formOk_ok : ∀ (a0 : Fm) (a1 : Int) (c0 : Int) r, impl_formOk a0 a1 c0 = some r → ∀ (e0 : Nat)  (σ : Sto), Pre σ [(e0, ⟨3, 1, [.int .i64 c0]⟩)] [] → Ctr Try.prog 37 [.agg (Fm.cells a0), .int .i64 a1, .ptr e0 0] σ (fun r' σ' => ∃ (τ' : Sto), r' = .bool r.1 ∧ Tau (strip σ []) [(e0, ⟨3, 1, [.int .i64 r.2]⟩)] τ' ∧ Fx τ' σ' [] []) := by
  refine impl_formOk.partial_correctness  (motive_1 := fun a0 a1 c0 r => ∀ (e0 : Nat)  (σ : Sto), Pre σ [(e0, ⟨3, 1, [.int .i64 c0]⟩)] [] → Ctr Try.prog 37 [.agg (Fm.cells a0), .int .i64 a1, .ptr e0 0] σ (fun r' σ' => ∃ (τ' : Sto), r' = .bool r.1 ∧ Tau (strip σ []) [(e0, ⟨3, 1, [.int .i64 r.2]⟩)] τ' ∧ Fx τ' σ' [] [])) (motive_2 := fun a0 a1 z0t_86 z0x_0_0 out => ∀ c, loopAt Try.f37 0 = some c → ∀ (Q : AX → AS → Prop) (τ0 : Sto) (e0 : Nat) (b1 : Nat), (∀ (e0x_0_0 : Int), out = Sum.inr e0x_0_0 → ∀ (T : Nat → AV) (σ : Sto) (τ : Sto), T 6 = .bool false → Tau τ0 [(e0, ⟨3, 1, [.int .i64 e0x_0_0]⟩)] τ → Fx τ σ [(b1, ⟨26, 5, [.int .i64 a0.kind, .str a0.name, .int .i64 a0.num, .sl false (rws cI a0.sc), .sl false (rws Fm.cells a0.kids)]⟩)] [] → Q (.ex 1) ⟨T, σ⟩) → (∀ r, out = Sum.inl r → ∀ s', aRet Try.prog [.tmp 6] (fun r' σ' => ∃ (τ' : Sto), r' = .bool r.1 ∧ Tau τ0 [(e0, ⟨3, 1, [.int .i64 r.2]⟩)] τ' ∧ Fx τ' σ' [] []) s' → Q .ret s') → ∀ (T : Nat → AV) (σ : Sto) (τ : Sto), T 1 = .int .i64 a1 → T 2 = .ptr e0 0 → T 6 = .bool false → T 84 = .sl false (rws Fm.cells a0.kids) → T 85 = .int .i64 (a0.kids.length : Int) → T 86 = .int .i64 z0t_86 → Tau τ0 [(e0, ⟨3, 1, [.int .i64 z0x_0_0]⟩)] τ → Fx τ σ [(b1, ⟨26, 5, [.int .i64 a0.kind, .str a0.name, .int .i64 a0.num, .sl false (rws cI a0.sc), .sl false (rws Fm.cells a0.kids)]⟩)] [] → aLoop (acode Try.prog c) Q ⟨T, σ⟩) ?_ ?_
  · intro impl_formOk_l0 L0 a0 a1 c0 r H
    intro e0  σ hP
    refine ctr_of mixed Try.func37 rfl (by kernel_rfl) (rs := [.tmp 6]) rfl (by kernel_rfl) ?_
    obtain ⟨hF, hX⟩ := hP.start
    generalize strip σ [] = τ0 at hF hX ⊢
    try simp only [go_sem, ↓reduceIte, Nat.reduceEqDiff, Nat.reduceAdd, Nat.reduceMul, Nat.reduceLeDiff, Nat.reduceLT, Int.reduceEq, Int.toNat_natCast, hF.xat hX 0 rfl]
    refine fx_alloc hF rfl fun b1 σ2 hF => ?_
    try simp only [go_sem, ↓reduceIte, Nat.reduceEqDiff, Nat.reduceAdd, Nat.reduceMul, Nat.reduceLeDiff, Nat.reduceLT, Int.reduceEq, Int.toNat_natCast, hF.at 0 rfl, hF.xat hX 0 rfl]
    refine fx_storeT hF hX 0 (cells' := [.int .i64 (IntKind.i64.wrap (c0 - 1))]) rfl rfl rfl (by simp only [List.length_cons, List.length_nil]; decide) (by first | rfl | simp [splice_eq]) fun τ4 σ3 hF hX => ?_
    try simp only [go_sem, ↓reduceIte, Nat.reduceEqDiff, Nat.reduceAdd, Nat.reduceMul, Nat.reduceLeDiff, Nat.reduceLT, Int.reduceEq, Int.toNat_natCast, hF.at 0 rfl, hF.xat hX 0 rfl]
    obtain ⟨x21, g5, H⟩ := bnd H
    refine aGd_cutN 2 19 21 (.bool x21) (aGd_introN (fun q6 => ?_) (fun q6 => ?_)) (fun J => ?_)
    · try simp only [go_sem, ↓reduceIte, Nat.reduceEqDiff, Nat.reduceAdd, Nat.reduceMul, Nat.reduceLeDiff, Nat.reduceLT, Int.reduceEq, Int.toNat_natCast, q6, hF.at 0 rfl, hF.xat hX 0 rfl]
      refine cut_done 19 (by have e := pur g5; subst e; (first | rfl | (simp only [go_sem, ↓reduceIte, Nat.reduceEqDiff, Nat.reduceAdd, Nat.reduceMul, Nat.reduceLeDiff, Nat.reduceLT, Int.reduceEq, Int.toNat_natCast, q6]; done) | (simp only [go_sem, ↓reduceIte, Nat.reduceEqDiff, Nat.reduceAdd, Nat.reduceMul, Nat.reduceLeDiff, Nat.reduceLT, Int.reduceEq, Int.toNat_natCast, q6]; simp_all [upd_app]) | simp_all [upd_app])) ?_
      (repeat (first | refine agree_upd (by decide) ?_ | refine agree_low (by decide) ?_)) <;> (repeat (first | refine agree_updR (by decide) ?_ | refine agree_lowR (by decide) ?_)) <;> exact fun _ _ _ => rfl
    · try simp only [go_sem, ↓reduceIte, Nat.reduceEqDiff, Nat.reduceAdd, Nat.reduceMul, Nat.reduceLeDiff, Nat.reduceLT, Int.reduceEq, Int.toNat_natCast, q6, hF.at 0 rfl, hF.xat hX 0 rfl]
      refine cut_done 19 (by have e := pur g5; subst e; (first | rfl | (simp only [go_sem, ↓reduceIte, Nat.reduceEqDiff, Nat.reduceAdd, Nat.reduceMul, Nat.reduceLeDiff, Nat.reduceLT, Int.reduceEq, Int.toNat_natCast, q6]; done) | (simp only [go_sem, ↓reduceIte, Nat.reduceEqDiff, Nat.reduceAdd, Nat.reduceMul, Nat.reduceLeDiff, Nat.reduceLT, Int.reduceEq, Int.toNat_natCast, q6]; simp_all [upd_app]) | simp_all [upd_app])) ?_
      (repeat (first | refine agree_upd (by decide) ?_ | refine agree_low (by decide) ?_)) <;> (repeat (first | refine agree_updR (by decide) ?_ | refine agree_lowR (by decide) ?_)) <;> exact fun _ _ _ => rfl
    try simp only [go_sem, ↓reduceIte, Nat.reduceEqDiff, Nat.reduceAdd, Nat.reduceMul, Nat.reduceLeDiff, Nat.reduceLT, Int.reduceEq, Int.toNat_natCast, hF.at 0 rfl, hF.xat hX 0 rfl]
    refine aCnd_b x21 rfl (fun h => ?_) (fun h => ?_)
    · rw [if_pos h] at H
      try simp only [go_sem, ↓reduceIte, Nat.reduceEqDiff, Nat.reduceAdd, Nat.reduceMul, Nat.reduceLeDiff, Nat.reduceLT, Int.reduceEq, Int.toNat_natCast, hF.at 0 rfl, hF.xat hX 0 rfl]
      have e := pur H; subst e
      exact gRet (vs := [.bool false]) (by first | (simp only [go_sem, ↓reduceIte, Nat.reduceEqDiff, Nat.reduceAdd, Nat.reduceMul, Nat.reduceLeDiff, Nat.reduceLT, Int.reduceEq, Int.toNat_natCast, hF.at 0 rfl, hF.xat hX 0 rfl]; done) | rfl | (simp only [go_sem, ↓reduceIte, Nat.reduceEqDiff, Nat.reduceAdd, Nat.reduceMul, Nat.reduceLeDiff, Nat.reduceLT, Int.reduceEq, Int.toNat_natCast, hF.at 0 rfl, hF.xat hX 0 rfl]; rfl)) (hF.wk0 _) ⟨_, rfl, hX, Fx.self _⟩
    · rw [if_neg h] at H
      try simp only [go_sem, ↓reduceIte, Nat.reduceEqDiff, Nat.reduceAdd, Nat.reduceMul, Nat.reduceLeDiff, Nat.reduceLT, Int.reduceEq, Int.toNat_natCast, hF.at 0 rfl, hF.xat hX 0 rfl]
      refine aCnd_p (a0.kind = 1) rfl (fun h => ?_) (fun h => ?_)
      · rw [if_pos h] at H
        try simp only [go_sem, ↓reduceIte, Nat.reduceEqDiff, Nat.reduceAdd, Nat.reduceMul, Nat.reduceLeDiff, Nat.reduceLT, Int.reduceEq, Int.toNat_natCast, hF.at 0 rfl, hF.xat hX 0 rfl]
        obtain ⟨x28, hx28, H⟩ := bnd H
        refine aCall_pure (impl_NameValid_ok a0.name _ hx28) (WkVL.refl _) ?_
        try simp only [go_sem, ↓reduceIte, Nat.reduceEqDiff, Nat.reduceAdd, Nat.reduceMul, Nat.reduceLeDiff, Nat.reduceLT, Int.reduceEq, Int.toNat_natCast, hF.at 0 rfl, hF.xat hX 0 rfl]
        obtain ⟨x33, g7, H⟩ := bnd H
        refine aGd_cutN 3 30 33 (.bool x33) (aGd_intro (fun q8 => ?_) (fun q8 => ?_)) (fun J => ?_)
        · try simp only [go_sem, ↓reduceIte, Nat.reduceEqDiff, Nat.reduceAdd, Nat.reduceMul, Nat.reduceLeDiff, Nat.reduceLT, Int.reduceEq, Int.toNat_natCast, q8, hF.at 0 rfl, hF.xat hX 0 rfl]
          refine cut_done 30 (by have e := pur g7; subst e; (first | rfl | (simp only [go_sem, ↓reduceIte, Nat.reduceEqDiff, Nat.reduceAdd, Nat.reduceMul, Nat.reduceLeDiff, Nat.reduceLT, Int.reduceEq, Int.toNat_natCast, q8]; done) | (simp only [go_sem, ↓reduceIte, Nat.reduceEqDiff, Nat.reduceAdd, Nat.reduceMul, Nat.reduceLeDiff, Nat.reduceLT, Int.reduceEq, Int.toNat_natCast, q8]; simp_all [upd_app]) | simp_all [upd_app])) ?_
          (repeat (first | refine agree_upd (by decide) ?_ | refine agree_low (by decide) ?_)) <;> (repeat (first | refine agree_updR (by decide) ?_ | refine agree_lowR (by decide) ?_)) <;> exact fun _ _ _ => rfl
        · try simp only [go_sem, ↓reduceIte, Nat.reduceEqDiff, Nat.reduceAdd, Nat.reduceMul, Nat.reduceLeDiff, Nat.reduceLT, Int.reduceEq, Int.toNat_natCast, q8, hF.at 0 rfl, hF.xat hX 0 rfl]
          refine cut_done 30 (by have e := pur g7; subst e; (first | rfl | (simp only [go_sem, ↓reduceIte, Nat.reduceEqDiff, Nat.reduceAdd, Nat.reduceMul, Nat.reduceLeDiff, Nat.reduceLT, Int.reduceEq, Int.toNat_natCast, q8]; done) | (simp only [go_sem, ↓reduceIte, Nat.reduceEqDiff, Nat.reduceAdd, Nat.reduceMul, Nat.reduceLeDiff, Nat.reduceLT, Int.reduceEq, Int.toNat_natCast, q8]; simp_all [upd_app]) | simp_all [upd_app])) ?_
          (repeat (first | refine agree_upd (by decide) ?_ | refine agree_low (by decide) ?_)) <;> (repeat (first | refine agree_updR (by decide) ?_ | refine agree_lowR (by decide) ?_)) <;> exact fun _ _ _ => rfl
        try simp only [go_sem, ↓reduceIte, Nat.reduceEqDiff, Nat.reduceAdd, Nat.reduceMul, Nat.reduceLeDiff, Nat.reduceLT, Int.reduceEq, Int.toNat_natCast, hF.at 0 rfl, hF.xat hX 0 rfl]
        obtain ⟨x38, g9, H⟩ := bnd H
        refine aGd_cutN 3 35 38 (.bool x38) (aGd_intro (fun q10 => ?_) (fun q10 => ?_)) (fun J => ?_)
        · rw [if_pos (q10)] at g9
          try simp only [go_sem, ↓reduceIte, Nat.reduceEqDiff, Nat.reduceAdd, Nat.reduceMul, Nat.reduceLeDiff, Nat.reduceLT, Int.reduceEq, Int.toNat_natCast, q10, hF.at 0 rfl, hF.xat hX 0 rfl]
          obtain ⟨x37, hx37, g9⟩ := bnd g9
          refine aCall_pure (impl_scopesOk_ok a0.sc _ hx37) (WkVL.refl _) ?_
          try simp only [go_sem, ↓reduceIte, Nat.reduceEqDiff, Nat.reduceAdd, Nat.reduceMul, Nat.reduceLeDiff, Nat.reduceLT, Int.reduceEq, Int.toNat_natCast, q10, hF.at 0 rfl, hF.xat hX 0 rfl]
          refine cut_done 35 (by have e := pur g9; subst e; (first | rfl | (simp only [go_sem, ↓reduceIte, Nat.reduceEqDiff, Nat.reduceAdd, Nat.reduceMul, Nat.reduceLeDiff, Nat.reduceLT, Int.reduceEq, Int.toNat_natCast, q10]; done) | (simp only [go_sem, ↓reduceIte, Nat.reduceEqDiff, Nat.reduceAdd, Nat.reduceMul, Nat.reduceLeDiff, Nat.reduceLT, Int.reduceEq, Int.toNat_natCast, q10]; simp_all [upd_app]) | simp_all [upd_app])) ?_
          (repeat (first | refine agree_upd (by decide) ?_ | refine agree_low (by decide) ?_)) <;> (repeat (first | refine agree_updR (by decide) ?_ | refine agree_lowR (by decide) ?_)) <;> exact fun _ _ _ => rfl
        · rw [if_neg (b_f q10)] at g9
          try simp only [go_sem, ↓reduceIte, Nat.reduceEqDiff, Nat.reduceAdd, Nat.reduceMul, Nat.reduceLeDiff, Nat.reduceLT, Int.reduceEq, Int.toNat_natCast, q10, hF.at 0 rfl, hF.xat hX 0 rfl]
          refine cut_done 35 (by have e := pur g9; subst e; (first | rfl | (simp only [go_sem, ↓reduceIte, Nat.reduceEqDiff, Nat.reduceAdd, Nat.reduceMul, Nat.reduceLeDiff, Nat.reduceLT, Int.reduceEq, Int.toNat_natCast, q10]; done) | (simp only [go_sem, ↓reduceIte, Nat.reduceEqDiff, Nat.reduceAdd, Nat.reduceMul, Nat.reduceLeDiff, Nat.reduceLT, Int.reduceEq, Int.toNat_natCast, q10]; simp_all [upd_app]) | simp_all [upd_app])) ?_
          (repeat (first | refine agree_upd (by decide) ?_ | refine agree_low (by decide) ?_)) <;> (repeat (first | refine agree_updR (by decide) ?_ | refine agree_lowR (by decide) ?_)) <;> exact fun _ _ _ => rfl
        try simp only [go_sem, ↓reduceIte, Nat.reduceEqDiff, Nat.reduceAdd, Nat.reduceMul, Nat.reduceLeDiff, Nat.reduceLT, Int.reduceEq, Int.toNat_natCast, hF.at 0 rfl, hF.xat hX 0 rfl]
        obtain ⟨x44, g11, H⟩ := bnd H
        refine aGd_cutN 4 40 44 (.bool x44) (aGd_intro (fun q12 => ?_) (fun q12 => ?_)) (fun J => ?_)
        · try simp only [go_sem, ↓reduceIte, Nat.reduceEqDiff, Nat.reduceAdd, Nat.reduceMul, Nat.reduceLeDiff, Nat.reduceLT, Int.reduceEq, Int.toNat_natCast, q12, hF.at 0 rfl, hF.xat hX 0 rfl]
          refine cut_done 40 (by have e := pur g11; subst e; (first | rfl | (simp only [go_sem, ↓reduceIte, Nat.reduceEqDiff, Nat.reduceAdd, Nat.reduceMul, Nat.reduceLeDiff, Nat.reduceLT, Int.reduceEq, Int.toNat_natCast, q12]; done) | (simp only [go_sem, ↓reduceIte, Nat.reduceEqDiff, Nat.reduceAdd, Nat.reduceMul, Nat.reduceLeDiff, Nat.reduceLT, Int.reduceEq, Int.toNat_natCast, q12]; simp_all [upd_app]) | simp_all [upd_app])) ?_
          (repeat (first | refine agree_upd (by decide) ?_ | refine agree_low (by decide) ?_)) <;> (repeat (first | refine agree_updR (by decide) ?_ | refine agree_lowR (by decide) ?_)) <;> exact fun _ _ _ => rfl
        · try simp only [go_sem, ↓reduceIte, Nat.reduceEqDiff, Nat.reduceAdd, Nat.reduceMul, Nat.reduceLeDiff, Nat.reduceLT, Int.reduceEq, Int.toNat_natCast, q12, hF.at 0 rfl, hF.xat hX 0 rfl]
          refine cut_done 40 (by have e := pur g11; subst e; (first | rfl | (simp only [go_sem, ↓reduceIte, Nat.reduceEqDiff, Nat.reduceAdd, Nat.reduceMul, Nat.reduceLeDiff, Nat.reduceLT, Int.reduceEq, Int.toNat_natCast, q12]; done) | (simp only [go_sem, ↓reduceIte, Nat.reduceEqDiff, Nat.reduceAdd, Nat.reduceMul, Nat.reduceLeDiff, Nat.reduceLT, Int.reduceEq, Int.toNat_natCast, q12]; simp_all [upd_app]) | simp_all [upd_app])) ?_
          (repeat (first | refine agree_upd (by decide) ?_ | refine agree_low (by decide) ?_)) <;> (repeat (first | refine agree_updR (by decide) ?_ | refine agree_lowR (by decide) ?_)) <;> exact fun _ _ _ => rfl
        try simp only [go_sem, ↓reduceIte, Nat.reduceEqDiff, Nat.reduceAdd, Nat.reduceMul, Nat.reduceLeDiff, Nat.reduceLT, Int.reduceEq, Int.toNat_natCast, hF.at 0 rfl, hF.xat hX 0 rfl]
        have e := pur H; subst e
        exact gRet (vs := [.bool x44]) (by first | (simp only [go_sem, ↓reduceIte, Nat.reduceEqDiff, Nat.reduceAdd, Nat.reduceMul, Nat.reduceLeDiff, Nat.reduceLT, Int.reduceEq, Int.toNat_natCast, hF.at 0 rfl, hF.xat hX 0 rfl]; done) | rfl | (simp only [go_sem, ↓reduceIte, Nat.reduceEqDiff, Nat.reduceAdd, Nat.reduceMul, Nat.reduceLeDiff, Nat.reduceLT, Int.reduceEq, Int.toNat_natCast, hF.at 0 rfl, hF.xat hX 0 rfl]; rfl)) (hF.wk0 _) ⟨_, rfl, hX, Fx.self _⟩
      · rw [if_neg h] at H
        try simp only [go_sem, ↓reduceIte, Nat.reduceEqDiff, Nat.reduceAdd, Nat.reduceMul, Nat.reduceLeDiff, Nat.reduceLT, Int.reduceEq, Int.toNat_natCast, hF.at 0 rfl, hF.xat hX 0 rfl]
        refine aCnd_p (a0.kind = 2) rfl (fun h => ?_) (fun h => ?_)
        · rw [if_pos h] at H
          try simp only [go_sem, ↓reduceIte, Nat.reduceEqDiff, Nat.reduceAdd, Nat.reduceMul, Nat.reduceLeDiff, Nat.reduceLT, Int.reduceEq, Int.toNat_natCast, hF.at 0 rfl, hF.xat hX 0 rfl]
          obtain ⟨x54, g13, H⟩ := bnd H
          refine aGd_cutN 3 51 54 (.bool x54) (aGd_intro (fun q14 => ?_) (fun q14 => ?_)) (fun J => ?_)
          · rw [if_pos (of_decide_eq_true q14)] at g13
            try simp only [go_sem, ↓reduceIte, Nat.reduceEqDiff, Nat.reduceAdd, Nat.reduceMul, Nat.reduceLeDiff, Nat.reduceLT, Int.reduceEq, Int.toNat_natCast, q14, hF.at 0 rfl, hF.xat hX 0 rfl]
            obtain ⟨x53, hx53, g13⟩ := bnd g13
            refine aCall_pure (impl_within_ok a0.num 0 999 _ hx53) (WkVL.refl _) ?_
            try simp only [go_sem, ↓reduceIte, Nat.reduceEqDiff, Nat.reduceAdd, Nat.reduceMul, Nat.reduceLeDiff, Nat.reduceLT, Int.reduceEq, Int.toNat_natCast, q14, hF.at 0 rfl, hF.xat hX 0 rfl]
            refine cut_done 51 (by have e := pur g13; subst e; (first | rfl | (simp only [go_sem, ↓reduceIte, Nat.reduceEqDiff, Nat.reduceAdd, Nat.reduceMul, Nat.reduceLeDiff, Nat.reduceLT, Int.reduceEq, Int.toNat_natCast, q14]; done) | (simp only [go_sem, ↓reduceIte, Nat.reduceEqDiff, Nat.reduceAdd, Nat.reduceMul, Nat.reduceLeDiff, Nat.reduceLT, Int.reduceEq, Int.toNat_natCast, q14]; simp_all [upd_app]) | simp_all [upd_app])) ?_
            (repeat (first | refine agree_upd (by decide) ?_ | refine agree_low (by decide) ?_)) <;> (repeat (first | refine agree_updR (by decide) ?_ | refine agree_lowR (by decide) ?_)) <;> exact fun _ _ _ => rfl
          · rw [if_neg (of_decide_eq_false q14)] at g13
            try simp only [go_sem, ↓reduceIte, Nat.reduceEqDiff, Nat.reduceAdd, Nat.reduceMul, Nat.reduceLeDiff, Nat.reduceLT, Int.reduceEq, Int.toNat_natCast, q14, hF.at 0 rfl, hF.xat hX 0 rfl]
            refine cut_done 51 (by have e := pur g13; subst e; (first | rfl | (simp only [go_sem, ↓reduceIte, Nat.reduceEqDiff, Nat.reduceAdd, Nat.reduceMul, Nat.reduceLeDiff, Nat.reduceLT, Int.reduceEq, Int.toNat_natCast, q14]; done) | (simp only [go_sem, ↓reduceIte, Nat.reduceEqDiff, Nat.reduceAdd, Nat.reduceMul, Nat.reduceLeDiff, Nat.reduceLT, Int.reduceEq, Int.toNat_natCast, q14]; simp_all [upd_app]) | simp_all [upd_app])) ?_
            (repeat (first | refine agree_upd (by decide) ?_ | refine agree_low (by decide) ?_)) <;> (repeat (first | refine agree_updR (by decide) ?_ | refine agree_lowR (by decide) ?_)) <;> exact fun _ _ _ => rfl
          try simp only [go_sem, ↓reduceIte, Nat.reduceEqDiff, Nat.reduceAdd, Nat.reduceMul, Nat.reduceLeDiff, Nat.reduceLT, Int.reduceEq, Int.toNat_natCast, hF.at 0 rfl, hF.xat hX 0 rfl]
          obtain ⟨x60, g15, H⟩ := bnd H
          refine aGd_cutN 4 56 60 (.bool x60) (aGd_intro (fun q16 => ?_) (fun q16 => ?_)) (fun J => ?_)
          · try simp only [go_sem, ↓reduceIte, Nat.reduceEqDiff, Nat.reduceAdd, Nat.reduceMul, Nat.reduceLeDiff, Nat.reduceLT, Int.reduceEq, Int.toNat_natCast, q16, hF.at 0 rfl, hF.xat hX 0 rfl]
            refine cut_done 56 (by have e := pur g15; subst e; (first | rfl | (simp only [go_sem, ↓reduceIte, Nat.reduceEqDiff, Nat.reduceAdd, Nat.reduceMul, Nat.reduceLeDiff, Nat.reduceLT, Int.reduceEq, Int.toNat_natCast, q16]; done) | (simp only [go_sem, ↓reduceIte, Nat.reduceEqDiff, Nat.reduceAdd, Nat.reduceMul, Nat.reduceLeDiff, Nat.reduceLT, Int.reduceEq, Int.toNat_natCast, q16]; simp_all [upd_app]) | simp_all [upd_app])) ?_
            (repeat (first | refine agree_upd (by decide) ?_ | refine agree_low (by decide) ?_)) <;> (repeat (first | refine agree_updR (by decide) ?_ | refine agree_lowR (by decide) ?_)) <;> exact fun _ _ _ => rfl
          · try simp only [go_sem, ↓reduceIte, Nat.reduceEqDiff, Nat.reduceAdd, Nat.reduceMul, Nat.reduceLeDiff, Nat.reduceLT, Int.reduceEq, Int.toNat_natCast, q16, hF.at 0 rfl, hF.xat hX 0 rfl]
            refine cut_done 56 (by have e := pur g15; subst e; (first | rfl | (simp only [go_sem, ↓reduceIte, Nat.reduceEqDiff, Nat.reduceAdd, Nat.reduceMul, Nat.reduceLeDiff, Nat.reduceLT, Int.reduceEq, Int.toNat_natCast, q16]; done) | (simp only [go_sem, ↓reduceIte, Nat.reduceEqDiff, Nat.reduceAdd, Nat.reduceMul, Nat.reduceLeDiff, Nat.reduceLT, Int.reduceEq, Int.toNat_natCast, q16]; simp_all [upd_app]) | simp_all [upd_app])) ?_
            (repeat (first | refine agree_upd (by decide) ?_ | refine agree_low (by decide) ?_)) <;> (repeat (first | refine agree_updR (by decide) ?_ | refine agree_lowR (by decide) ?_)) <;> exact fun _ _ _ => rfl
          try simp only [go_sem, ↓reduceIte, Nat.reduceEqDiff, Nat.reduceAdd, Nat.reduceMul, Nat.reduceLeDiff, Nat.reduceLT, Int.reduceEq, Int.toNat_natCast, hF.at 0 rfl, hF.xat hX 0 rfl]
          obtain ⟨x66, g17, H⟩ := bnd H
          refine aGd_cutN 4 62 66 (.bool x66) (aGd_intro (fun q18 => ?_) (fun q18 => ?_)) (fun J => ?_)
          · try simp only [go_sem, ↓reduceIte, Nat.reduceEqDiff, Nat.reduceAdd, Nat.reduceMul, Nat.reduceLeDiff, Nat.reduceLT, Int.reduceEq, Int.toNat_natCast, q18, hF.at 0 rfl, hF.xat hX 0 rfl]
            refine cut_done 62 (by have e := pur g17; subst e; (first | rfl | (simp only [go_sem, ↓reduceIte, Nat.reduceEqDiff, Nat.reduceAdd, Nat.reduceMul, Nat.reduceLeDiff, Nat.reduceLT, Int.reduceEq, Int.toNat_natCast, q18]; done) | (simp only [go_sem, ↓reduceIte, Nat.reduceEqDiff, Nat.reduceAdd, Nat.reduceMul, Nat.reduceLeDiff, Nat.reduceLT, Int.reduceEq, Int.toNat_natCast, q18]; simp_all [upd_app]) | simp_all [upd_app])) ?_
            (repeat (first | refine agree_upd (by decide) ?_ | refine agree_low (by decide) ?_)) <;> (repeat (first | refine agree_updR (by decide) ?_ | refine agree_lowR (by decide) ?_)) <;> exact fun _ _ _ => rfl
          · try simp only [go_sem, ↓reduceIte, Nat.reduceEqDiff, Nat.reduceAdd, Nat.reduceMul, Nat.reduceLeDiff, Nat.reduceLT, Int.reduceEq, Int.toNat_natCast, q18, hF.at 0 rfl, hF.xat hX 0 rfl]
            refine cut_done 62 (by have e := pur g17; subst e; (first | rfl | (simp only [go_sem, ↓reduceIte, Nat.reduceEqDiff, Nat.reduceAdd, Nat.reduceMul, Nat.reduceLeDiff, Nat.reduceLT, Int.reduceEq, Int.toNat_natCast, q18]; done) | (simp only [go_sem, ↓reduceIte, Nat.reduceEqDiff, Nat.reduceAdd, Nat.reduceMul, Nat.reduceLeDiff, Nat.reduceLT, Int.reduceEq, Int.toNat_natCast, q18]; simp_all [upd_app]) | simp_all [upd_app])) ?_
            (repeat (first | refine agree_upd (by decide) ?_ | refine agree_low (by decide) ?_)) <;> (repeat (first | refine agree_updR (by decide) ?_ | refine agree_lowR (by decide) ?_)) <;> exact fun _ _ _ => rfl
          try simp only [go_sem, ↓reduceIte, Nat.reduceEqDiff, Nat.reduceAdd, Nat.reduceMul, Nat.reduceLeDiff, Nat.reduceLT, Int.reduceEq, Int.toNat_natCast, hF.at 0 rfl, hF.xat hX 0 rfl]
          have e := pur H; subst e
          exact gRet (vs := [.bool x66]) (by first | (simp only [go_sem, ↓reduceIte, Nat.reduceEqDiff, Nat.reduceAdd, Nat.reduceMul, Nat.reduceLeDiff, Nat.reduceLT, Int.reduceEq, Int.toNat_natCast, hF.at 0 rfl, hF.xat hX 0 rfl]; done) | rfl | (simp only [go_sem, ↓reduceIte, Nat.reduceEqDiff, Nat.reduceAdd, Nat.reduceMul, Nat.reduceLeDiff, Nat.reduceLT, Int.reduceEq, Int.toNat_natCast, hF.at 0 rfl, hF.xat hX 0 rfl]; rfl)) (hF.wk0 _) ⟨_, rfl, hX, Fx.self _⟩
        · rw [if_neg h] at H
          try simp only [go_sem, ↓reduceIte, Nat.reduceEqDiff, Nat.reduceAdd, Nat.reduceMul, Nat.reduceLeDiff, Nat.reduceLT, Int.reduceEq, Int.toNat_natCast, hF.at 0 rfl, hF.xat hX 0 rfl]
          refine aCnd_p (a0.kind = 3) rfl (fun h => ?_) (fun h => ?_)
          · rw [if_pos h] at H
            try simp only [go_sem, ↓reduceIte, Nat.reduceEqDiff, Nat.reduceAdd, Nat.reduceMul, Nat.reduceLeDiff, Nat.reduceLT, Int.reduceEq, Int.toNat_natCast, hF.at 0 rfl, hF.xat hX 0 rfl]
            obtain ⟨x76, g19, H⟩ := bnd H
            refine aGd_cutN 3 73 76 (.bool x76) (aGd_introN (fun q20 => ?_) (fun q20 => ?_)) (fun J => ?_)
            · try simp only [go_sem, ↓reduceIte, Nat.reduceEqDiff, Nat.reduceAdd, Nat.reduceMul, Nat.reduceLeDiff, Nat.reduceLT, Int.reduceEq, Int.toNat_natCast, q20, hF.at 0 rfl, hF.xat hX 0 rfl]
              refine cut_done 73 (by have e := pur g19; subst e; (first | rfl | (simp only [go_sem, ↓reduceIte, Nat.reduceEqDiff, Nat.reduceAdd, Nat.reduceMul, Nat.reduceLeDiff, Nat.reduceLT, Int.reduceEq, Int.toNat_natCast, q20]; done) | (simp only [go_sem, ↓reduceIte, Nat.reduceEqDiff, Nat.reduceAdd, Nat.reduceMul, Nat.reduceLeDiff, Nat.reduceLT, Int.reduceEq, Int.toNat_natCast, q20]; simp_all [upd_app]) | simp_all [upd_app])) ?_
              (repeat (first | refine agree_upd (by decide) ?_ | refine agree_low (by decide) ?_)) <;> (repeat (first | refine agree_updR (by decide) ?_ | refine agree_lowR (by decide) ?_)) <;> exact fun _ _ _ => rfl
            · try simp only [go_sem, ↓reduceIte, Nat.reduceEqDiff, Nat.reduceAdd, Nat.reduceMul, Nat.reduceLeDiff, Nat.reduceLT, Int.reduceEq, Int.toNat_natCast, q20, hF.at 0 rfl, hF.xat hX 0 rfl]
              refine cut_done 73 (by have e := pur g19; subst e; (first | rfl | (simp only [go_sem, ↓reduceIte, Nat.reduceEqDiff, Nat.reduceAdd, Nat.reduceMul, Nat.reduceLeDiff, Nat.reduceLT, Int.reduceEq, Int.toNat_natCast, q20]; done) | (simp only [go_sem, ↓reduceIte, Nat.reduceEqDiff, Nat.reduceAdd, Nat.reduceMul, Nat.reduceLeDiff, Nat.reduceLT, Int.reduceEq, Int.toNat_natCast, q20]; simp_all [upd_app]) | simp_all [upd_app])) ?_
              (repeat (first | refine agree_upd (by decide) ?_ | refine agree_low (by decide) ?_)) <;> (repeat (first | refine agree_updR (by decide) ?_ | refine agree_lowR (by decide) ?_)) <;> exact fun _ _ _ => rfl
            try simp only [go_sem, ↓reduceIte, Nat.reduceEqDiff, Nat.reduceAdd, Nat.reduceMul, Nat.reduceLeDiff, Nat.reduceLT, Int.reduceEq, Int.toNat_natCast, hF.at 0 rfl, hF.xat hX 0 rfl]
            obtain ⟨x82, g21, H⟩ := bnd H
            refine aGd_cutN 4 78 82 (.bool x82) (aGd_introN (fun q22 => ?_) (fun q22 => ?_)) (fun J => ?_)
            · try simp only [go_sem, ↓reduceIte, Nat.reduceEqDiff, Nat.reduceAdd, Nat.reduceMul, Nat.reduceLeDiff, Nat.reduceLT, Int.reduceEq, Int.toNat_natCast, q22, hF.at 0 rfl, hF.xat hX 0 rfl]
              refine cut_done 78 (by have e := pur g21; subst e; (first | rfl | (simp only [go_sem, ↓reduceIte, Nat.reduceEqDiff, Nat.reduceAdd, Nat.reduceMul, Nat.reduceLeDiff, Nat.reduceLT, Int.reduceEq, Int.toNat_natCast, q22]; done) | (simp only [go_sem, ↓reduceIte, Nat.reduceEqDiff, Nat.reduceAdd, Nat.reduceMul, Nat.reduceLeDiff, Nat.reduceLT, Int.reduceEq, Int.toNat_natCast, q22]; simp_all [upd_app]) | simp_all [upd_app])) ?_
              (repeat (first | refine agree_upd (by decide) ?_ | refine agree_low (by decide) ?_)) <;> (repeat (first | refine agree_updR (by decide) ?_ | refine agree_lowR (by decide) ?_)) <;> exact fun _ _ _ => rfl
            · try simp only [go_sem, ↓reduceIte, Nat.reduceEqDiff, Nat.reduceAdd, Nat.reduceMul, Nat.reduceLeDiff, Nat.reduceLT, Int.reduceEq, Int.toNat_natCast, q22, hF.at 0 rfl, hF.xat hX 0 rfl]
              refine cut_done 78 (by have e := pur g21; subst e; (first | rfl | (simp only [go_sem, ↓reduceIte, Nat.reduceEqDiff, Nat.reduceAdd, Nat.reduceMul, Nat.reduceLeDiff, Nat.reduceLT, Int.reduceEq, Int.toNat_natCast, q22]; done) | (simp only [go_sem, ↓reduceIte, Nat.reduceEqDiff, Nat.reduceAdd, Nat.reduceMul, Nat.reduceLeDiff, Nat.reduceLT, Int.reduceEq, Int.toNat_natCast, q22]; simp_all [upd_app]) | simp_all [upd_app])) ?_
              (repeat (first | refine agree_upd (by decide) ?_ | refine agree_low (by decide) ?_)) <;> (repeat (first | refine agree_updR (by decide) ?_ | refine agree_lowR (by decide) ?_)) <;> exact fun _ _ _ => rfl
            try simp only [go_sem, ↓reduceIte, Nat.reduceEqDiff, Nat.reduceAdd, Nat.reduceMul, Nat.reduceLeDiff, Nat.reduceLT, Int.reduceEq, Int.toNat_natCast, hF.at 0 rfl, hF.xat hX 0 rfl]
            refine aCnd_b x82 rfl (fun h => ?_) (fun h => ?_)
            · rw [if_pos h] at H
              try simp only [go_sem, ↓reduceIte, Nat.reduceEqDiff, Nat.reduceAdd, Nat.reduceMul, Nat.reduceLeDiff, Nat.reduceLT, Int.reduceEq, Int.toNat_natCast, hF.at 0 rfl, hF.xat hX 0 rfl]
              have e := pur H; subst e
              exact gRet (vs := [.bool false]) (by first | (simp only [go_sem, ↓reduceIte, Nat.reduceEqDiff, Nat.reduceAdd, Nat.reduceMul, Nat.reduceLeDiff, Nat.reduceLT, Int.reduceEq, Int.toNat_natCast, hF.at 0 rfl, hF.xat hX 0 rfl]; done) | rfl | (simp only [go_sem, ↓reduceIte, Nat.reduceEqDiff, Nat.reduceAdd, Nat.reduceMul, Nat.reduceLeDiff, Nat.reduceLT, Int.reduceEq, Int.toNat_natCast, hF.at 0 rfl, hF.xat hX 0 rfl]; rfl)) (hF.wk0 _) ⟨_, rfl, hX, Fx.self _⟩
            · rw [if_neg h] at H
              try simp only [go_sem, ↓reduceIte, Nat.reduceEqDiff, Nat.reduceAdd, Nat.reduceMul, Nat.reduceLeDiff, Nat.reduceLT, Int.reduceEq, Int.toNat_natCast, hF.at 0 rfl, hF.xat hX 0 rfl]
              obtain ⟨o29, ho29, H⟩ := bnd H
              refine L0 a0 a1 0 (IntKind.i64.wrap (c0 - 1)) _ ho29 _ rfl _ τ0 e0 b1 ?_ ?_ _ _ _  (by first | (simp only [go_sem, ↓reduceIte, Nat.reduceEqDiff, Nat.reduceAdd, Nat.reduceMul, Nat.reduceLeDiff, Nat.reduceLT, Int.reduceEq, Int.toNat_natCast, hF.at 0 rfl, hF.xat hX 0 rfl]; done) | rfl | (simp only [go_sem, ↓reduceIte, Nat.reduceEqDiff, Nat.reduceAdd, Nat.reduceMul, Nat.reduceLeDiff, Nat.reduceLT, Int.reduceEq, Int.toNat_natCast, hF.at 0 rfl, hF.xat hX 0 rfl]; rfl)) (by first | (simp only [go_sem, ↓reduceIte, Nat.reduceEqDiff, Nat.reduceAdd, Nat.reduceMul, Nat.reduceLeDiff, Nat.reduceLT, Int.reduceEq, Int.toNat_natCast, hF.at 0 rfl, hF.xat hX 0 rfl]; done) | rfl | (simp only [go_sem, ↓reduceIte, Nat.reduceEqDiff, Nat.reduceAdd, Nat.reduceMul, Nat.reduceLeDiff, Nat.reduceLT, Int.reduceEq, Int.toNat_natCast, hF.at 0 rfl, hF.xat hX 0 rfl]; rfl)) (by first | (simp only [go_sem, ↓reduceIte, Nat.reduceEqDiff, Nat.reduceAdd, Nat.reduceMul, Nat.reduceLeDiff, Nat.reduceLT, Int.reduceEq, Int.toNat_natCast, hF.at 0 rfl, hF.xat hX 0 rfl]; done) | rfl | (simp only [go_sem, ↓reduceIte, Nat.reduceEqDiff, Nat.reduceAdd, Nat.reduceMul, Nat.reduceLeDiff, Nat.reduceLT, Int.reduceEq, Int.toNat_natCast, hF.at 0 rfl, hF.xat hX 0 rfl]; rfl)) (by first | (simp only [go_sem, ↓reduceIte, Nat.reduceEqDiff, Nat.reduceAdd, Nat.reduceMul, Nat.reduceLeDiff, Nat.reduceLT, Int.reduceEq, Int.toNat_natCast, hF.at 0 rfl, hF.xat hX 0 rfl]; done) | rfl | (simp only [go_sem, ↓reduceIte, Nat.reduceEqDiff, Nat.reduceAdd, Nat.reduceMul, Nat.reduceLeDiff, Nat.reduceLT, Int.reduceEq, Int.toNat_natCast, hF.at 0 rfl, hF.xat hX 0 rfl]; rfl)) (by first | (simp only [go_sem, ↓reduceIte, Nat.reduceEqDiff, Nat.reduceAdd, Nat.reduceMul, Nat.reduceLeDiff, Nat.reduceLT, Int.reduceEq, Int.toNat_natCast, hF.at 0 rfl, hF.xat hX 0 rfl]; done) | rfl | (simp only [go_sem, ↓reduceIte, Nat.reduceEqDiff, Nat.reduceAdd, Nat.reduceMul, Nat.reduceLeDiff, Nat.reduceLT, Int.reduceEq, Int.toNat_natCast, hF.at 0 rfl, hF.xat hX 0 rfl]; rfl)) (by first | (simp only [go_sem, ↓reduceIte, Nat.reduceEqDiff, Nat.reduceAdd, Nat.reduceMul, Nat.reduceLeDiff, Nat.reduceLT, Int.reduceEq, Int.toNat_natCast, hF.at 0 rfl, hF.xat hX 0 rfl]; done) | rfl | (simp only [go_sem, ↓reduceIte, Nat.reduceEqDiff, Nat.reduceAdd, Nat.reduceMul, Nat.reduceLeDiff, Nat.reduceLT, Int.reduceEq, Int.toNat_natCast, hF.at 0 rfl, hF.xat hX 0 rfl]; rfl)) hX hF
              · intro e30x_0_0 he T31 σ32 τ33 t6 hX hF
                have he := he.symm
                subst he
                dsimp only at H
                try simp only [go_sem, ↓reduceIte, Nat.reduceEqDiff, Nat.reduceAdd, Nat.reduceMul, Nat.reduceLeDiff, Nat.reduceLT, Int.reduceEq, Int.toNat_natCast, t6, hF.at 0 rfl, hF.xat hX 0 rfl]
                have e := pur H; subst e
                exact gRet (vs := [.bool true]) (by first | (simp only [go_sem, ↓reduceIte, Nat.reduceEqDiff, Nat.reduceAdd, Nat.reduceMul, Nat.reduceLeDiff, Nat.reduceLT, Int.reduceEq, Int.toNat_natCast, t6, hF.at 0 rfl, hF.xat hX 0 rfl]; done) | rfl | (simp only [go_sem, ↓reduceIte, Nat.reduceEqDiff, Nat.reduceAdd, Nat.reduceMul, Nat.reduceLeDiff, Nat.reduceLT, Int.reduceEq, Int.toNat_natCast, t6, hF.at 0 rfl, hF.xat hX 0 rfl]; rfl)) (hF.wk0 _) ⟨_, rfl, hX, Fx.self _⟩
              · intro r hr s' hs
                subst hr
                have e := pur H; subst e
                first | exact hs | (try simp only [Fm.cells_eq] at hs ⊢; exact hs)
          · rw [if_neg h] at H
            try simp only [go_sem, ↓reduceIte, Nat.reduceEqDiff, Nat.reduceAdd, Nat.reduceMul, Nat.reduceLeDiff, Nat.reduceLT, Int.reduceEq, Int.toNat_natCast, hF.at 0 rfl, hF.xat hX 0 rfl]
            have e := pur H; subst e
            exact gRet (vs := [.bool false]) (by first | (simp only [go_sem, ↓reduceIte, Nat.reduceEqDiff, Nat.reduceAdd, Nat.reduceMul, Nat.reduceLeDiff, Nat.reduceLT, Int.reduceEq, Int.toNat_natCast, hF.at 0 rfl, hF.xat hX 0 rfl]; done) | rfl | (simp only [go_sem, ↓reduceIte, Nat.reduceEqDiff, Nat.reduceAdd, Nat.reduceMul, Nat.reduceLeDiff, Nat.reduceLT, Int.reduceEq, Int.toNat_natCast, hF.at 0 rfl, hF.xat hX 0 rfl]; rfl)) (hF.wk0 _) ⟨_, rfl, hX, Fx.self _⟩
  · intro impl_formOk impl_formOk_l0 C0 L0 a0 a1 z0t_86 z0x_0_0 out H c hc Q τ0 e0 b1 hE hR T σ τ t1 t2 t6 t84 t85 t86 hX hF
    obtain rfl := Option.some.inj ((rfl : loopAt Try.f37 0 = some _).symm.trans hc)
    refine aLoop_round ?_
    try simp only [go_sem, ↓reduceIte, Nat.reduceEqDiff, Nat.reduceAdd, Nat.reduceMul, Nat.reduceLeDiff, Nat.reduceLT, Int.reduceEq, Int.toNat_natCast, t1, t2, t6, t84, t85, t86, hF.at 0 rfl, hF.xat hX 0 rfl]
    refine aCnd_p (z0t_86 < (a0.kids.length : Int)) rfl (fun h => ?_) (fun h => ?_)
    · rw [if_pos h] at H
      obtain ⟨x88, hx88, H⟩ := bnd H
      try simp only [go_sem, ↓reduceIte, Nat.reduceEqDiff, Nat.reduceAdd, Nat.reduceMul, Nat.reduceLeDiff, Nat.reduceLT, Int.reduceEq, Int.toNat_natCast, t1, t2, t6, t84, t85, t86, hF.at 0 rfl, hF.xat hX 0 rfl, aidx_idx (g := Fm.cells) Fm.cells_len hx88]
      refine fx_alloc hF rfl fun b23 σ24 hF => ?_
      try simp only [go_sem, ↓reduceIte, Nat.reduceEqDiff, Nat.reduceAdd, Nat.reduceMul, Nat.reduceLeDiff, Nat.reduceLT, Int.reduceEq, Int.toNat_natCast, t1, t2, t6, t84, t85, t86, hF.at 0 rfl, hF.at 1 rfl, hF.xat hX 0 rfl]
      refine fx_store hF 0 (cells' := [.int .i64 x88.kind, .str x88.name, .int .i64 x88.num, .sl false (rws cI x88.sc), .sl false (rws Fm.cells x88.kids)]) rfl rfl rfl (by simp only [List.length_cons, List.length_nil]; decide) (by first | rfl | simp [splice_eq]) fun σ25 hF => ?_
      try simp only [go_sem, ↓reduceIte, Nat.reduceEqDiff, Nat.reduceAdd, Nat.reduceMul, Nat.reduceLeDiff, Nat.reduceLT, Int.reduceEq, Int.toNat_natCast, t1, t2, t6, t84, t85, t86, hF.at 0 rfl, hF.at 1 rfl, hF.xat hX 0 rfl]
      obtain ⟨x94, hx94, H⟩ := bnd H
      refine aCall_ctr (C0 x88 (IntKind.i64.wrap (a1 + 1)) z0x_0_0 _ hx94 e0  _ (Fx.pre (esL := []) (bsr := [(b23, ⟨26, 5, [.int .i64 x88.kind, .str x88.name, .int .i64 x88.num, .sl false (rws cI x88.sc), .sl false (rws Fm.cells x88.kids)]⟩), (b1, ⟨26, 5, [.int .i64 a0.kind, .str a0.name, .int .i64 a0.num, .sl false (rws cI a0.sc), .sl false (rws Fm.cells a0.kids)]⟩)]) (esX := [(e0, ⟨3, 1, [.int .i64 z0x_0_0]⟩)]) (xsr := []) (ms0 := []) (msr := []) hF hX)) (by (try simp only [Fm.cells_eq]); exact WkVL.refl _) ?_
      rintro _ σ26 ⟨τ27, rfl, hT, hG⟩
      obtain ⟨τ28, hX, hF⟩ := Fx.after (bn := []) (esL := []) (bsr := [(b23, ⟨26, 5, [.int .i64 x88.kind, .str x88.name, .int .i64 x88.num, .sl false (rws cI x88.sc), .sl false (rws Fm.cells x88.kids)]⟩), (b1, ⟨26, 5, [.int .i64 a0.kind, .str a0.name, .int .i64 a0.num, .sl false (rws cI a0.sc), .sl false (rws Fm.cells a0.kids)]⟩)]) (esX := [(e0, ⟨3, 1, [.int .i64 z0x_0_0]⟩)]) (xsr := []) (ms0 := []) (msr := []) (esL' := []) (esX' := [(e0, ⟨3, 1, [.int .i64 x94.2]⟩)]) hF hX hT hG rfl rfl
      have hX : Tau τ0 [(e0, ⟨3, 1, [.int .i64 x94.2]⟩)] τ28 := hX
      have hF : Fx τ28 σ26 [(b23, ⟨26, 5, [.int .i64 x88.kind, .str x88.name, .int .i64 x88.num, .sl false (rws cI x88.sc), .sl false (rws Fm.cells x88.kids)]⟩), (b1, ⟨26, 5, [.int .i64 a0.kind, .str a0.name, .int .i64 a0.num, .sl false (rws cI a0.sc), .sl false (rws Fm.cells a0.kids)]⟩)] [] := hF
      try simp only [go_sem, ↓reduceIte, Nat.reduceEqDiff, Nat.reduceAdd, Nat.reduceMul, Nat.reduceLeDiff, Nat.reduceLT, Int.reduceEq, Int.toNat_natCast, t1, t2, t6, t84, t85, t86, hF.at 0 rfl, hF.at 1 rfl, hF.xat hX 0 rfl]
      refine aCnd_b (!x94.1) rfl (fun h => ?_) (fun h => ?_)
      · rw [if_pos h] at H
        try simp only [go_sem, ↓reduceIte, Nat.reduceEqDiff, Nat.reduceAdd, Nat.reduceMul, Nat.reduceLeDiff, Nat.reduceLT, Int.reduceEq, Int.toNat_natCast, t1, t2, t6, t84, t85, t86, hF.at 0 rfl, hF.at 1 rfl, hF.xat hX 0 rfl]
        exact hR _ (pur H).symm _ (gRet (vs := [.bool false]) (by first | (simp only [go_sem, ↓reduceIte, Nat.reduceEqDiff, Nat.reduceAdd, Nat.reduceMul, Nat.reduceLeDiff, Nat.reduceLT, Int.reduceEq, Int.toNat_natCast, t1, t2, t6, t84, t85, t86, hF.at 0 rfl, hF.at 1 rfl, hF.xat hX 0 rfl]; done) | rfl | (simp only [go_sem, ↓reduceIte, Nat.reduceEqDiff, Nat.reduceAdd, Nat.reduceMul, Nat.reduceLeDiff, Nat.reduceLT, Int.reduceEq, Int.toNat_natCast, t1, t2, t6, t84, t85, t86, hF.at 0 rfl, hF.at 1 rfl, hF.xat hX 0 rfl]; rfl)) (hF.wk0 _) ⟨_, rfl, hX, Fx.self _⟩)
      · rw [if_neg h] at H
        try simp only [go_sem, ↓reduceIte, Nat.reduceEqDiff, Nat.reduceAdd, Nat.reduceMul, Nat.reduceLeDiff, Nat.reduceLT, Int.reduceEq, Int.toNat_natCast, t1, t2, t6, t84, t85, t86, hF.at 0 rfl, hF.at 1 rfl, hF.xat hX 0 rfl]
        exact L0 a0 a1 (IntKind.i64.wrap (z0t_86 + 1)) x94.2 _ H _ rfl Q τ0 e0 b1 hE hR _ _ _  (by first | (simp only [go_sem, ↓reduceIte, Nat.reduceEqDiff, Nat.reduceAdd, Nat.reduceMul, Nat.reduceLeDiff, Nat.reduceLT, Int.reduceEq, Int.toNat_natCast, t1, t2, t6, t84, t85, t86, hF.at 0 rfl, hF.at 1 rfl, hF.xat hX 0 rfl]; done) | rfl | (simp only [go_sem, ↓reduceIte, Nat.reduceEqDiff, Nat.reduceAdd, Nat.reduceMul, Nat.reduceLeDiff, Nat.reduceLT, Int.reduceEq, Int.toNat_natCast, t1, t2, t6, t84, t85, t86, hF.at 0 rfl, hF.at 1 rfl, hF.xat hX 0 rfl]; rfl)) (by first | (simp only [go_sem, ↓reduceIte, Nat.reduceEqDiff, Nat.reduceAdd, Nat.reduceMul, Nat.reduceLeDiff, Nat.reduceLT, Int.reduceEq, Int.toNat_natCast, t1, t2, t6, t84, t85, t86, hF.at 0 rfl, hF.at 1 rfl, hF.xat hX 0 rfl]; done) | rfl | (simp only [go_sem, ↓reduceIte, Nat.reduceEqDiff, Nat.reduceAdd, Nat.reduceMul, Nat.reduceLeDiff, Nat.reduceLT, Int.reduceEq, Int.toNat_natCast, t1, t2, t6, t84, t85, t86, hF.at 0 rfl, hF.at 1 rfl, hF.xat hX 0 rfl]; rfl)) (by first | (simp only [go_sem, ↓reduceIte, Nat.reduceEqDiff, Nat.reduceAdd, Nat.reduceMul, Nat.reduceLeDiff, Nat.reduceLT, Int.reduceEq, Int.toNat_natCast, t1, t2, t6, t84, t85, t86, hF.at 0 rfl, hF.at 1 rfl, hF.xat hX 0 rfl]; done) | rfl | (simp only [go_sem, ↓reduceIte, Nat.reduceEqDiff, Nat.reduceAdd, Nat.reduceMul, Nat.reduceLeDiff, Nat.reduceLT, Int.reduceEq, Int.toNat_natCast, t1, t2, t6, t84, t85, t86, hF.at 0 rfl, hF.at 1 rfl, hF.xat hX 0 rfl]; rfl)) (by first | (simp only [go_sem, ↓reduceIte, Nat.reduceEqDiff, Nat.reduceAdd, Nat.reduceMul, Nat.reduceLeDiff, Nat.reduceLT, Int.reduceEq, Int.toNat_natCast, t1, t2, t6, t84, t85, t86, hF.at 0 rfl, hF.at 1 rfl, hF.xat hX 0 rfl]; done) | rfl | (simp only [go_sem, ↓reduceIte, Nat.reduceEqDiff, Nat.reduceAdd, Nat.reduceMul, Nat.reduceLeDiff, Nat.reduceLT, Int.reduceEq, Int.toNat_natCast, t1, t2, t6, t84, t85, t86, hF.at 0 rfl, hF.at 1 rfl, hF.xat hX 0 rfl]; rfl)) (by first | (simp only [go_sem, ↓reduceIte, Nat.reduceEqDiff, Nat.reduceAdd, Nat.reduceMul, Nat.reduceLeDiff, Nat.reduceLT, Int.reduceEq, Int.toNat_natCast, t1, t2, t6, t84, t85, t86, hF.at 0 rfl, hF.at 1 rfl, hF.xat hX 0 rfl]; done) | rfl | (simp only [go_sem, ↓reduceIte, Nat.reduceEqDiff, Nat.reduceAdd, Nat.reduceMul, Nat.reduceLeDiff, Nat.reduceLT, Int.reduceEq, Int.toNat_natCast, t1, t2, t6, t84, t85, t86, hF.at 0 rfl, hF.at 1 rfl, hF.xat hX 0 rfl]; rfl)) (by first | (simp only [go_sem, ↓reduceIte, Nat.reduceEqDiff, Nat.reduceAdd, Nat.reduceMul, Nat.reduceLeDiff, Nat.reduceLT, Int.reduceEq, Int.toNat_natCast, t1, t2, t6, t84, t85, t86, hF.at 0 rfl, hF.at 1 rfl, hF.xat hX 0 rfl]; done) | rfl | (simp only [go_sem, ↓reduceIte, Nat.reduceEqDiff, Nat.reduceAdd, Nat.reduceMul, Nat.reduceLeDiff, Nat.reduceLT, Int.reduceEq, Int.toNat_natCast, t1, t2, t6, t84, t85, t86, hF.at 0 rfl, hF.at 1 rfl, hF.xat hX 0 rfl]; rfl)) hX (hF.drop 1 0)
    · rw [if_neg h] at H
      try simp only [go_sem, ↓reduceIte, Nat.reduceEqDiff, Nat.reduceAdd, Nat.reduceMul, Nat.reduceLeDiff, Nat.reduceLT, Int.reduceEq, Int.toNat_natCast, t1, t2, t6, t84, t85, t86, hF.at 0 rfl, hF.xat hX 0 rfl]
      exact hE _ (pur H).symm _ _ _  (by first | (simp only [go_sem, ↓reduceIte, Nat.reduceEqDiff, Nat.reduceAdd, Nat.reduceMul, Nat.reduceLeDiff, Nat.reduceLT, Int.reduceEq, Int.toNat_natCast, t1, t2, t6, t84, t85, t86, hF.at 0 rfl, hF.xat hX 0 rfl]; done) | rfl | (simp only [go_sem, ↓reduceIte, Nat.reduceEqDiff, Nat.reduceAdd, Nat.reduceMul, Nat.reduceLeDiff, Nat.reduceLT, Int.reduceEq, Int.toNat_natCast, t1, t2, t6, t84, t85, t86, hF.at 0 rfl, hF.xat hX 0 rfl]; rfl)) hX hF
theorem impl_FormValid_ok : ∀ (a0 : Fm) r, impl_FormValid a0 = some r → PCtr Try.prog 24 [.agg (Fm.cells a0)] (.bool r) := by
  intro a0 r H
  intro σ
  unfold impl_FormValid at H
  refine ctr_of mixed Try.func24 rfl (by kernel_rfl) (rs := [.tmp 2]) rfl (by kernel_rfl) ?_
  have hF := Fx.refl σ
  have hX := Tau.none σ
  try simp only [go_sem, ↓reduceIte, Nat.reduceEqDiff, Nat.reduceAdd, Nat.reduceMul, Nat.reduceLeDiff, Nat.reduceLT, Int.reduceEq, Int.toNat_natCast]
  refine fx_alloc hF rfl fun b1 σ2 hF => ?_
  try simp only [go_sem, ↓reduceIte, Nat.reduceEqDiff, Nat.reduceAdd, Nat.reduceMul, Nat.reduceLeDiff, Nat.reduceLT, Int.reduceEq, Int.toNat_natCast, hF.at 0 rfl]
  refine fx_alloc hF rfl fun b3 σ4 hF => ?_
  try simp only [go_sem, ↓reduceIte, Nat.reduceEqDiff, Nat.reduceAdd, Nat.reduceMul, Nat.reduceLeDiff, Nat.reduceLT, Int.reduceEq, Int.toNat_natCast, hF.at 0 rfl, hF.at 1 rfl]
  refine fx_store hF 0 (cells' := [.int .i64 400]) rfl rfl rfl (by simp only [List.length_cons, List.length_nil]; decide) (by first | rfl | simp [splice_eq]) fun σ5 hF => ?_
  try simp only [go_sem, ↓reduceIte, Nat.reduceEqDiff, Nat.reduceAdd, Nat.reduceMul, Nat.reduceLeDiff, Nat.reduceLT, Int.reduceEq, Int.toNat_natCast, hF.at 0 rfl, hF.at 1 rfl]
  obtain ⟨x5, hx5, H⟩ := bnd H
  refine aCall_ctr (impl_formOk_ok a0 1 400 _ hx5 b3  _ (Fx.pre (esL := [(b3, ⟨3, 1, [.int .i64 400]⟩)]) (bsr := [(b1, ⟨26, 5, [.int .i64 a0.kind, .str a0.name, .int .i64 a0.num, .sl false (rws cI a0.sc), .sl false (rws Fm.cells a0.kids)]⟩)]) (esX := []) (xsr := []) (ms0 := []) (msr := []) hF hX)) (by (try simp only [Fm.cells_eq]); exact WkVL.refl _) ?_
  rintro _ σ6 ⟨τ7, rfl, hT, hG⟩
  obtain ⟨τ8, hX, hF⟩ := Fx.after (bn := []) (esL := [(b3, ⟨3, 1, [.int .i64 400]⟩)]) (bsr := [(b1, ⟨26, 5, [.int .i64 a0.kind, .str a0.name, .int .i64 a0.num, .sl false (rws cI a0.sc), .sl false (rws Fm.cells a0.kids)]⟩)]) (esX := []) (xsr := []) (ms0 := []) (msr := []) (esL' := [(b3, ⟨3, 1, [.int .i64 x5.2]⟩)]) (esX' := []) hF hX hT hG rfl rfl
  have hq := hX.eq.symm
  subst hq
  have hF : Fx σ σ6 [(b3, ⟨3, 1, [.int .i64 x5.2]⟩), (b1, ⟨26, 5, [.int .i64 a0.kind, .str a0.name, .int .i64 a0.num, .sl false (rws cI a0.sc), .sl false (rws Fm.cells a0.kids)]⟩)] [] := hF
  try simp only [go_sem, ↓reduceIte, Nat.reduceEqDiff, Nat.reduceAdd, Nat.reduceMul, Nat.reduceLeDiff, Nat.reduceLT, Int.reduceEq, Int.toNat_natCast, hF.at 0 rfl, hF.at 1 rfl]
  have e := pur H; subst e
  exact fx_ret (vs := [.bool x5.1]) (by first | (simp only [go_sem, ↓reduceIte, Nat.reduceEqDiff, Nat.reduceAdd, Nat.reduceMul, Nat.reduceLeDiff, Nat.reduceLT, Int.reduceEq, Int.toNat_natCast, hF.at 0 rfl, hF.at 1 rfl]; done) | rfl | (simp only [go_sem, ↓reduceIte, Nat.reduceEqDiff, Nat.reduceAdd, Nat.reduceMul, Nat.reduceLeDiff, Nat.reduceLT, Int.reduceEq, Int.toNat_natCast, hF.at 0 rfl, hF.at 1 rfl]; rfl)) (hF.wk0 _)
theorem slices_Clone_int_int_ok : ∀ (a0 : List Int) r, slices_Clone_int_int a0 = some r → PCtr Try.prog 40 [.sl false (rws cI a0)] (.sl false (rws cI r)) := by
  intro a0 r H σ
  unfold slices_Clone_int_int at H
  refine ctr_of mixed Try.func40 rfl (by kernel_rfl) (rs := [.tmp 2]) rfl (by kernel_rfl) ?_
  have hF := Fx.refl σ
  have hX := Tau.none σ
  have hF := hF.lit 3 1 (rws cI []) rfl
  cases a0 with
  | nil =>
    obtain ⟨rfl, _⟩ := lcat_eq H
    try simp only [go_sem, ↓reduceIte, Nat.reduceEqDiff, Nat.reduceAdd, Nat.reduceMul, Nat.reduceLeDiff, Nat.reduceLT, Int.reduceEq, Int.toNat_natCast]
    refine aCnd_ub ?_ ?_
    · try simp only [go_sem, ↓reduceIte, Nat.reduceEqDiff, Nat.reduceAdd, Nat.reduceMul, Nat.reduceLeDiff, Nat.reduceLT, Int.reduceEq, Int.toNat_natCast]
      exact fx_ret (vs := [.nilsl]) (by first | (simp only [go_sem, ↓reduceIte, Nat.reduceEqDiff, Nat.reduceAdd, Nat.reduceMul, Nat.reduceLeDiff, Nat.reduceLT, Int.reduceEq, Int.toNat_natCast]; done) | rfl | (simp only [go_sem, ↓reduceIte, Nat.reduceEqDiff, Nat.reduceAdd, Nat.reduceMul, Nat.reduceLeDiff, Nat.reduceLT, Int.reduceEq, Int.toNat_natCast]; rfl)) (Wk.val2 .nilsl hF.sub)
    · try simp only [go_sem, ↓reduceIte, Nat.reduceEqDiff, Nat.reduceAdd, Nat.reduceMul, Nat.reduceLeDiff, Nat.reduceLT, Int.reduceEq, Int.toNat_natCast]
      refine fx_app hF 0 (g := cI) (xs := []) (ys := []) rfl (by decide) (by decide) (RdL.of (c := false) (fun _ => rfl) rfl) H fun v1 σ1 hF => ?_
      try simp only [go_sem, ↓reduceIte, Nat.reduceEqDiff, Nat.reduceAdd, Nat.reduceMul, Nat.reduceLeDiff, Nat.reduceLT, Int.reduceEq, Int.toNat_natCast, hF.cells 0 rfl, hF.len 0 rfl]
      exact fx_ret (vs := [v1]) (by first | (simp only [go_sem, ↓reduceIte, Nat.reduceEqDiff, Nat.reduceAdd, Nat.reduceMul, Nat.reduceLeDiff, Nat.reduceLT, Int.reduceEq, Int.toNat_natCast, hF.cells 0 rfl, hF.len 0 rfl]; done) | rfl | (simp only [go_sem, ↓reduceIte, Nat.reduceEqDiff, Nat.reduceAdd, Nat.reduceMul, Nat.reduceLeDiff, Nat.reduceLT, Int.reduceEq, Int.toNat_natCast, hF.cells 0 rfl, hF.len 0 rfl]; rfl)) (hF.wk 0 rfl)
  | cons x xs =>
    try simp only [go_sem, ↓reduceIte, Nat.reduceEqDiff, Nat.reduceAdd, Nat.reduceMul, Nat.reduceLeDiff, Nat.reduceLT, Int.reduceEq, Int.toNat_natCast]
    refine fx_app hF 0 (g := cI) (xs := []) (ys := x :: xs) rfl (by decide) (by decide) (RdL.of (c := false) (fun _ => rfl) (by first | rfl | simp only [rws_cons, rws_nil, cI, cU, cS, cL])) H fun v1 σ1 hF => ?_
    try simp only [go_sem, ↓reduceIte, Nat.reduceEqDiff, Nat.reduceAdd, Nat.reduceMul, Nat.reduceLeDiff, Nat.reduceLT, Int.reduceEq, Int.toNat_natCast, hF.cells 0 rfl, hF.len 0 rfl]
    exact fx_ret (vs := [v1]) (by first | (simp only [go_sem, ↓reduceIte, Nat.reduceEqDiff, Nat.reduceAdd, Nat.reduceMul, Nat.reduceLeDiff, Nat.reduceLT, Int.reduceEq, Int.toNat_natCast, hF.cells 0 rfl, hF.len 0 rfl]; done) | rfl | (simp only [go_sem, ↓reduceIte, Nat.reduceEqDiff, Nat.reduceAdd, Nat.reduceMul, Nat.reduceLeDiff, Nat.reduceLT, Int.reduceEq, Int.toNat_natCast, hF.cells 0 rfl, hF.len 0 rfl]; rfl)) (hF.wk 0 rfl)
theorem impl_named_ok : ∀ (a0 : Fm) (a1 : ByteArray) r, impl_named a0 a1 = some r → PCtr Try.prog 21 [.agg (Fm.cells a0), .str a1] (.bool r) := by
  intro a0 a1 r H
  intro σ
  unfold impl_named at H
  refine ctr_of mixed Try.func21 rfl (by kernel_rfl) (rs := [.tmp 4]) rfl (by kernel_rfl) ?_
  have hF := Fx.refl σ
  have hX := Tau.none σ
  try simp only [go_sem, ↓reduceIte, Nat.reduceEqDiff, Nat.reduceAdd, Nat.reduceMul, Nat.reduceLeDiff, Nat.reduceLT, Int.reduceEq, Int.toNat_natCast]
  refine fx_alloc hF rfl fun b1 σ2 hF => ?_
  try simp only [go_sem, ↓reduceIte, Nat.reduceEqDiff, Nat.reduceAdd, Nat.reduceMul, Nat.reduceLeDiff, Nat.reduceLT, Int.reduceEq, Int.toNat_natCast, hF.at 0 rfl]
  obtain ⟨x13, g3, H⟩ := bnd H
  refine aGd_cutN 4 9 13 (.bool x13) (aGd_intro (fun q4 => ?_) (fun q4 => ?_)) (fun J => ?_)
  · try simp only [go_sem, ↓reduceIte, Nat.reduceEqDiff, Nat.reduceAdd, Nat.reduceMul, Nat.reduceLeDiff, Nat.reduceLT, Int.reduceEq, Int.toNat_natCast, q4, hF.at 0 rfl]
    refine cut_done 9 (by have e := pur g3; subst e; (first | rfl | (simp only [go_sem, ↓reduceIte, Nat.reduceEqDiff, Nat.reduceAdd, Nat.reduceMul, Nat.reduceLeDiff, Nat.reduceLT, Int.reduceEq, Int.toNat_natCast, q4]; done) | (simp only [go_sem, ↓reduceIte, Nat.reduceEqDiff, Nat.reduceAdd, Nat.reduceMul, Nat.reduceLeDiff, Nat.reduceLT, Int.reduceEq, Int.toNat_natCast, q4]; simp_all [upd_app]) | simp_all [upd_app])) ?_
    (repeat (first | refine agree_upd (by decide) ?_ | refine agree_low (by decide) ?_)) <;> (repeat (first | refine agree_updR (by decide) ?_ | refine agree_lowR (by decide) ?_)) <;> exact fun _ _ _ => rfl
  · try simp only [go_sem, ↓reduceIte, Nat.reduceEqDiff, Nat.reduceAdd, Nat.reduceMul, Nat.reduceLeDiff, Nat.reduceLT, Int.reduceEq, Int.toNat_natCast, q4, hF.at 0 rfl]
    refine cut_done 9 (by have e := pur g3; subst e; (first | rfl | (simp only [go_sem, ↓reduceIte, Nat.reduceEqDiff, Nat.reduceAdd, Nat.reduceMul, Nat.reduceLeDiff, Nat.reduceLT, Int.reduceEq, Int.toNat_natCast, q4]; done) | (simp only [go_sem, ↓reduceIte, Nat.reduceEqDiff, Nat.reduceAdd, Nat.reduceMul, Nat.reduceLeDiff, Nat.reduceLT, Int.reduceEq, Int.toNat_natCast, q4]; simp_all [upd_app]) | simp_all [upd_app])) ?_
    (repeat (first | refine agree_upd (by decide) ?_ | refine agree_low (by decide) ?_)) <;> (repeat (first | refine agree_updR (by decide) ?_ | refine agree_lowR (by decide) ?_)) <;> exact fun _ _ _ => rfl
  try simp only [go_sem, ↓reduceIte, Nat.reduceEqDiff, Nat.reduceAdd, Nat.reduceMul, Nat.reduceLeDiff, Nat.reduceLT, Int.reduceEq, Int.toNat_natCast, hF.at 0 rfl]
  have e := pur H; subst e
  exact fx_ret (vs := [.bool x13]) (by first | (simp only [go_sem, ↓reduceIte, Nat.reduceEqDiff, Nat.reduceAdd, Nat.reduceMul, Nat.reduceLeDiff, Nat.reduceLT, Int.reduceEq, Int.toNat_natCast, hF.at 0 rfl]; done) | rfl | (simp only [go_sem, ↓reduceIte, Nat.reduceEqDiff, Nat.reduceAdd, Nat.reduceMul, Nat.reduceLeDiff, Nat.reduceLT, Int.reduceEq, Int.toNat_natCast, hF.at 0 rfl]; rfl)) (hF.wk0 _)
theorem impl_renamed_ok : ∀ (a0 : Fm) (a1 : ByteArray) (a2 : ByteArray) r, impl_renamed a0 a1 a2 = some r → PCtr Try.prog 26 [.agg (Fm.cells a0), .str a1, .str a2] (.agg (Fm.cells r)) := by
  intro a0 a1 a2
  revert a0
  refine impl_renamed.partial_correctness a1 a2 (motive_1 := fun a0 r => PCtr Try.prog 26 [.agg (Fm.cells a0), .str a1, .str a2] (.agg (Fm.cells r))) (motive_2 := fun a0 x18 y8c_2_1 z0o_0 z0t_28 out => ∀ c, loopAt Try.f26 0 = some c → ∀ (Q : AX → AS → Prop) (τ : Sto) (b1 : Nat) (b3 : Nat) (b5 : Nat), (∀ (e0o_0 : List Fm), out = e0o_0 → ∀ (T : Nat → AV) (σ : Sto) (e0v0 : AV), T 6 = .ptr b3 0 → T 7 = .ptr b5 0 → Fx τ σ [(b5, ⟨26, 5, [.int .i64 a0.kind, .str y8c_2_1, .int .i64 a0.num, .sl false (rws cI x18), e0v0]⟩), (b3, ⟨26, 5, [.int .i64 0, .str (ByteArray.mk #[]), .int .i64 0, .nilsl, .nilsl]⟩), (b1, ⟨26, 5, [.int .i64 a0.kind, .str a0.name, .int .i64 a0.num, .sl false (rws cI a0.sc), .sl false (rws Fm.cells a0.kids)]⟩)] [⟨e0v0, 26, 5, rws Fm.cells e0o_0⟩] → Q (.ex 0) ⟨T, σ⟩) → True → ∀ (T : Nat → AV) (σ : Sto) (z0v0 : AV), T 1 = .str a1 → T 2 = .str a2 → T 6 = .ptr b3 0 → T 7 = .ptr b5 0 → T 26 = .sl false (rws Fm.cells a0.kids) → T 27 = .int .i64 (a0.kids.length : Int) → T 28 = .int .i64 z0t_28 → Fx τ σ [(b5, ⟨26, 5, [.int .i64 a0.kind, .str y8c_2_1, .int .i64 a0.num, .sl false (rws cI x18), z0v0]⟩), (b3, ⟨26, 5, [.int .i64 0, .str (ByteArray.mk #[]), .int .i64 0, .nilsl, .nilsl]⟩), (b1, ⟨26, 5, [.int .i64 a0.kind, .str a0.name, .int .i64 a0.num, .sl false (rws cI a0.sc), .sl false (rws Fm.cells a0.kids)]⟩)] [⟨z0v0, 26, 5, rws Fm.cells z0o_0⟩] → aLoop (acode Try.prog c) Q ⟨T, σ⟩) ?_ ?_
  · intro impl_renamed_l0 L0 a0 r H
    intro σ
    refine ctr_of mixed Try.func26 rfl (by kernel_rfl) (rs := [.cell 6 26]) rfl (by kernel_rfl) ?_
    have hF := Fx.refl σ
    have hX := Tau.none σ
    try simp only [go_sem, ↓reduceIte, Nat.reduceEqDiff, Nat.reduceAdd, Nat.reduceMul, Nat.reduceLeDiff, Nat.reduceLT, Int.reduceEq, Int.toNat_natCast]
    refine fx_alloc hF rfl fun b1 σ2 hF => ?_
    try simp only [go_sem, ↓reduceIte, Nat.reduceEqDiff, Nat.reduceAdd, Nat.reduceMul, Nat.reduceLeDiff, Nat.reduceLT, Int.reduceEq, Int.toNat_natCast, hF.at 0 rfl]
    refine fx_alloc hF rfl fun b3 σ4 hF => ?_
    try simp only [go_sem, ↓reduceIte, Nat.reduceEqDiff, Nat.reduceAdd, Nat.reduceMul, Nat.reduceLeDiff, Nat.reduceLT, Int.reduceEq, Int.toNat_natCast, hF.at 0 rfl, hF.at 1 rfl]
    refine draw_text E0 [.v, .v, .v, .v, .v, .v, .v, .v, .v, .v, .x, .z] (by kernel_rfl) ?_
    try simp only [go_sem, ↓reduceIte, Nat.reduceEqDiff, Nat.reduceAdd, Nat.reduceMul, Nat.reduceLeDiff, Nat.reduceLT, Int.reduceEq, Int.toNat_natCast, hF.at 0 rfl, hF.at 1 rfl]
    obtain ⟨x18, hx18, H⟩ := bnd H
    refine vCall_pure (slices_Clone_int_int_ok a0.sc _ hx18) (WkVL.refl _) ?_
    try simp only [go_sem, ↓reduceIte, Nat.reduceEqDiff, Nat.reduceAdd, Nat.reduceMul, Nat.reduceLeDiff, Nat.reduceLT, Int.reduceEq, Int.toNat_natCast, hF.at 0 rfl, hF.at 1 rfl]
    refine fx_allocK hF rfl fun b5 σ6 hF => ?_
    try simp only [go_sem, ↓reduceIte, Nat.reduceEqDiff, Nat.reduceAdd, Nat.reduceMul, Nat.reduceLeDiff, Nat.reduceLT, Int.reduceEq, Int.toNat_natCast, hF.at 0 rfl, hF.at 1 rfl, hF.at 2 rfl]
    refine fx_store hF 0 (cells' := [.int .i64 a0.kind, .str a0.name, .int .i64 a0.num, .sl false (rws cI x18), .nilsl]) rfl rfl rfl (by simp only [List.length_cons, List.length_nil]; decide) (by first | rfl | simp [splice_eq]) fun σ7 hF => ?_
    try simp only [go_sem, ↓reduceIte, Nat.reduceEqDiff, Nat.reduceAdd, Nat.reduceMul, Nat.reduceLeDiff, Nat.reduceLT, Int.reduceEq, Int.toNat_natCast, hF.at 0 rfl, hF.at 1 rfl, hF.at 2 rfl]
    obtain ⟨x22, hx22, H⟩ := bnd H
    refine aCall_pure (impl_named_ok a0 a1 _ hx22) (by (try simp only [Fm.cells_eq]); exact WkVL.refl _) ?_
    try simp only [go_sem, ↓reduceIte, Nat.reduceEqDiff, Nat.reduceAdd, Nat.reduceMul, Nat.reduceLeDiff, Nat.reduceLT, Int.reduceEq, Int.toNat_natCast, hF.at 0 rfl, hF.at 1 rfl, hF.at 2 rfl]
    obtain ⟨y8c_2_1, j9, H⟩ := bnd H
    refine aCnd_join (fun s' => ∃ (T : Nat → AV) (σ1 : Sto), s' = ⟨T, σ1⟩ ∧ T 1 = .str a1 ∧ T 2 = .str a2 ∧ T 3 = .ptr b1 0 ∧ T 6 = .ptr b3 0 ∧ T 7 = .ptr b5 0 ∧ Fx σ σ1 [(b5, ⟨26, 5, [.int .i64 a0.kind, .str y8c_2_1, .int .i64 a0.num, .sl false (rws cI x18), .nilsl]⟩), (b3, ⟨26, 5, [.int .i64 0, .str (ByteArray.mk #[]), .int .i64 0, .nilsl, .nilsl]⟩), (b1, ⟨26, 5, [.int .i64 a0.kind, .str a0.name, .int .i64 a0.num, .sl false (rws cI a0.sc), .sl false (rws Fm.cells a0.kids)]⟩)] []) (aCnd_b x22 rfl (fun h => ?_) (fun h => ?_)) ?_
    · rw [if_pos h] at j9
      try simp only [go_sem, ↓reduceIte, Nat.reduceEqDiff, Nat.reduceAdd, Nat.reduceMul, Nat.reduceLeDiff, Nat.reduceLT, Int.reduceEq, Int.toNat_natCast, hF.at 0 rfl, hF.at 1 rfl, hF.at 2 rfl]
      refine fx_store hF 0 (cells' := [.int .i64 a0.kind, .str a2, .int .i64 a0.num, .sl false (rws cI x18), .nilsl]) rfl rfl rfl (by simp only [List.length_cons, List.length_nil]; decide) (by first | rfl | simp [splice_eq]) fun σ10 hF => ?_
      try simp only [go_sem, ↓reduceIte, Nat.reduceEqDiff, Nat.reduceAdd, Nat.reduceMul, Nat.reduceLeDiff, Nat.reduceLT, Int.reduceEq, Int.toNat_natCast, hF.at 0 rfl, hF.at 1 rfl, hF.at 2 rfl]
      have e := pur j9
      subst e
      exact ⟨_, _, rfl, (by first | (simp only [go_sem, ↓reduceIte, Nat.reduceEqDiff, Nat.reduceAdd, Nat.reduceMul, Nat.reduceLeDiff, Nat.reduceLT, Int.reduceEq, Int.toNat_natCast, hF.at 0 rfl, hF.at 1 rfl, hF.at 2 rfl]; done) | rfl | (simp only [go_sem, ↓reduceIte, Nat.reduceEqDiff, Nat.reduceAdd, Nat.reduceMul, Nat.reduceLeDiff, Nat.reduceLT, Int.reduceEq, Int.toNat_natCast, hF.at 0 rfl, hF.at 1 rfl, hF.at 2 rfl]; rfl)), (by first | (simp only [go_sem, ↓reduceIte, Nat.reduceEqDiff, Nat.reduceAdd, Nat.reduceMul, Nat.reduceLeDiff, Nat.reduceLT, Int.reduceEq, Int.toNat_natCast, hF.at 0 rfl, hF.at 1 rfl, hF.at 2 rfl]; done) | rfl | (simp only [go_sem, ↓reduceIte, Nat.reduceEqDiff, Nat.reduceAdd, Nat.reduceMul, Nat.reduceLeDiff, Nat.reduceLT, Int.reduceEq, Int.toNat_natCast, hF.at 0 rfl, hF.at 1 rfl, hF.at 2 rfl]; rfl)), (by first | (simp only [go_sem, ↓reduceIte, Nat.reduceEqDiff, Nat.reduceAdd, Nat.reduceMul, Nat.reduceLeDiff, Nat.reduceLT, Int.reduceEq, Int.toNat_natCast, hF.at 0 rfl, hF.at 1 rfl, hF.at 2 rfl]; done) | rfl | (simp only [go_sem, ↓reduceIte, Nat.reduceEqDiff, Nat.reduceAdd, Nat.reduceMul, Nat.reduceLeDiff, Nat.reduceLT, Int.reduceEq, Int.toNat_natCast, hF.at 0 rfl, hF.at 1 rfl, hF.at 2 rfl]; rfl)), (by first | (simp only [go_sem, ↓reduceIte, Nat.reduceEqDiff, Nat.reduceAdd, Nat.reduceMul, Nat.reduceLeDiff, Nat.reduceLT, Int.reduceEq, Int.toNat_natCast, hF.at 0 rfl, hF.at 1 rfl, hF.at 2 rfl]; done) | rfl | (simp only [go_sem, ↓reduceIte, Nat.reduceEqDiff, Nat.reduceAdd, Nat.reduceMul, Nat.reduceLeDiff, Nat.reduceLT, Int.reduceEq, Int.toNat_natCast, hF.at 0 rfl, hF.at 1 rfl, hF.at 2 rfl]; rfl)), (by first | (simp only [go_sem, ↓reduceIte, Nat.reduceEqDiff, Nat.reduceAdd, Nat.reduceMul, Nat.reduceLeDiff, Nat.reduceLT, Int.reduceEq, Int.toNat_natCast, hF.at 0 rfl, hF.at 1 rfl, hF.at 2 rfl]; done) | rfl | (simp only [go_sem, ↓reduceIte, Nat.reduceEqDiff, Nat.reduceAdd, Nat.reduceMul, Nat.reduceLeDiff, Nat.reduceLT, Int.reduceEq, Int.toNat_natCast, hF.at 0 rfl, hF.at 1 rfl, hF.at 2 rfl]; rfl)), hF⟩
    · rw [if_neg h] at j9
      try simp only [go_sem, ↓reduceIte, Nat.reduceEqDiff, Nat.reduceAdd, Nat.reduceMul, Nat.reduceLeDiff, Nat.reduceLT, Int.reduceEq, Int.toNat_natCast, hF.at 0 rfl, hF.at 1 rfl, hF.at 2 rfl]
      have e := pur j9
      subst e
      exact ⟨_, _, rfl, (by first | (simp only [go_sem, ↓reduceIte, Nat.reduceEqDiff, Nat.reduceAdd, Nat.reduceMul, Nat.reduceLeDiff, Nat.reduceLT, Int.reduceEq, Int.toNat_natCast, hF.at 0 rfl, hF.at 1 rfl, hF.at 2 rfl]; done) | rfl | (simp only [go_sem, ↓reduceIte, Nat.reduceEqDiff, Nat.reduceAdd, Nat.reduceMul, Nat.reduceLeDiff, Nat.reduceLT, Int.reduceEq, Int.toNat_natCast, hF.at 0 rfl, hF.at 1 rfl, hF.at 2 rfl]; rfl)), (by first | (simp only [go_sem, ↓reduceIte, Nat.reduceEqDiff, Nat.reduceAdd, Nat.reduceMul, Nat.reduceLeDiff, Nat.reduceLT, Int.reduceEq, Int.toNat_natCast, hF.at 0 rfl, hF.at 1 rfl, hF.at 2 rfl]; done) | rfl | (simp only [go_sem, ↓reduceIte, Nat.reduceEqDiff, Nat.reduceAdd, Nat.reduceMul, Nat.reduceLeDiff, Nat.reduceLT, Int.reduceEq, Int.toNat_natCast, hF.at 0 rfl, hF.at 1 rfl, hF.at 2 rfl]; rfl)), (by first | (simp only [go_sem, ↓reduceIte, Nat.reduceEqDiff, Nat.reduceAdd, Nat.reduceMul, Nat.reduceLeDiff, Nat.reduceLT, Int.reduceEq, Int.toNat_natCast, hF.at 0 rfl, hF.at 1 rfl, hF.at 2 rfl]; done) | rfl | (simp only [go_sem, ↓reduceIte, Nat.reduceEqDiff, Nat.reduceAdd, Nat.reduceMul, Nat.reduceLeDiff, Nat.reduceLT, Int.reduceEq, Int.toNat_natCast, hF.at 0 rfl, hF.at 1 rfl, hF.at 2 rfl]; rfl)), (by first | (simp only [go_sem, ↓reduceIte, Nat.reduceEqDiff, Nat.reduceAdd, Nat.reduceMul, Nat.reduceLeDiff, Nat.reduceLT, Int.reduceEq, Int.toNat_natCast, hF.at 0 rfl, hF.at 1 rfl, hF.at 2 rfl]; done) | rfl | (simp only [go_sem, ↓reduceIte, Nat.reduceEqDiff, Nat.reduceAdd, Nat.reduceMul, Nat.reduceLeDiff, Nat.reduceLT, Int.reduceEq, Int.toNat_natCast, hF.at 0 rfl, hF.at 1 rfl, hF.at 2 rfl]; rfl)), (by first | (simp only [go_sem, ↓reduceIte, Nat.reduceEqDiff, Nat.reduceAdd, Nat.reduceMul, Nat.reduceLeDiff, Nat.reduceLT, Int.reduceEq, Int.toNat_natCast, hF.at 0 rfl, hF.at 1 rfl, hF.at 2 rfl]; done) | rfl | (simp only [go_sem, ↓reduceIte, Nat.reduceEqDiff, Nat.reduceAdd, Nat.reduceMul, Nat.reduceLeDiff, Nat.reduceLT, Int.reduceEq, Int.toNat_natCast, hF.at 0 rfl, hF.at 1 rfl, hF.at 2 rfl]; rfl)), hF⟩
    · rintro s' ⟨T11, σ12, rfl, t1, t2, t3, t6, t7, hF⟩
      have hF := hF.nil 26 5
      try simp only [go_sem, ↓reduceIte, Nat.reduceEqDiff, Nat.reduceAdd, Nat.reduceMul, Nat.reduceLeDiff, Nat.reduceLT, Int.reduceEq, Int.toNat_natCast, t1, t2, t3, t6, t7, hF.at 0 rfl, hF.at 1 rfl, hF.at 2 rfl, hF.cells 0 rfl, hF.len 0 rfl]
      obtain ⟨o20, ho20, H⟩ := bnd H
      refine L0 a0 x18 y8c_2_1 [] 0 _ ho20 _ rfl _ _ b1 b3 b5 ?_ ?_ _ _ .nilsl (by first | (simp only [go_sem, ↓reduceIte, Nat.reduceEqDiff, Nat.reduceAdd, Nat.reduceMul, Nat.reduceLeDiff, Nat.reduceLT, Int.reduceEq, Int.toNat_natCast, t1, t2, t3, t6, t7, hF.at 0 rfl, hF.at 1 rfl, hF.at 2 rfl, hF.cells 0 rfl, hF.len 0 rfl]; done) | rfl | (simp only [go_sem, ↓reduceIte, Nat.reduceEqDiff, Nat.reduceAdd, Nat.reduceMul, Nat.reduceLeDiff, Nat.reduceLT, Int.reduceEq, Int.toNat_natCast, t1, t2, t3, t6, t7, hF.at 0 rfl, hF.at 1 rfl, hF.at 2 rfl, hF.cells 0 rfl, hF.len 0 rfl]; rfl)) (by first | (simp only [go_sem, ↓reduceIte, Nat.reduceEqDiff, Nat.reduceAdd, Nat.reduceMul, Nat.reduceLeDiff, Nat.reduceLT, Int.reduceEq, Int.toNat_natCast, t1, t2, t3, t6, t7, hF.at 0 rfl, hF.at 1 rfl, hF.at 2 rfl, hF.cells 0 rfl, hF.len 0 rfl]; done) | rfl | (simp only [go_sem, ↓reduceIte, Nat.reduceEqDiff, Nat.reduceAdd, Nat.reduceMul, Nat.reduceLeDiff, Nat.reduceLT, Int.reduceEq, Int.toNat_natCast, t1, t2, t3, t6, t7, hF.at 0 rfl, hF.at 1 rfl, hF.at 2 rfl, hF.cells 0 rfl, hF.len 0 rfl]; rfl)) (by first | (simp only [go_sem, ↓reduceIte, Nat.reduceEqDiff, Nat.reduceAdd, Nat.reduceMul, Nat.reduceLeDiff, Nat.reduceLT, Int.reduceEq, Int.toNat_natCast, t1, t2, t3, t6, t7, hF.at 0 rfl, hF.at 1 rfl, hF.at 2 rfl, hF.cells 0 rfl, hF.len 0 rfl]; done) | rfl | (simp only [go_sem, ↓reduceIte, Nat.reduceEqDiff, Nat.reduceAdd, Nat.reduceMul, Nat.reduceLeDiff, Nat.reduceLT, Int.reduceEq, Int.toNat_natCast, t1, t2, t3, t6, t7, hF.at 0 rfl, hF.at 1 rfl, hF.at 2 rfl, hF.cells 0 rfl, hF.len 0 rfl]; rfl)) (by first | (simp only [go_sem, ↓reduceIte, Nat.reduceEqDiff, Nat.reduceAdd, Nat.reduceMul, Nat.reduceLeDiff, Nat.reduceLT, Int.reduceEq, Int.toNat_natCast, t1, t2, t3, t6, t7, hF.at 0 rfl, hF.at 1 rfl, hF.at 2 rfl, hF.cells 0 rfl, hF.len 0 rfl]; done) | rfl | (simp only [go_sem, ↓reduceIte, Nat.reduceEqDiff, Nat.reduceAdd, Nat.reduceMul, Nat.reduceLeDiff, Nat.reduceLT, Int.reduceEq, Int.toNat_natCast, t1, t2, t3, t6, t7, hF.at 0 rfl, hF.at 1 rfl, hF.at 2 rfl, hF.cells 0 rfl, hF.len 0 rfl]; rfl)) (by first | (simp only [go_sem, ↓reduceIte, Nat.reduceEqDiff, Nat.reduceAdd, Nat.reduceMul, Nat.reduceLeDiff, Nat.reduceLT, Int.reduceEq, Int.toNat_natCast, t1, t2, t3, t6, t7, hF.at 0 rfl, hF.at 1 rfl, hF.at 2 rfl, hF.cells 0 rfl, hF.len 0 rfl]; done) | rfl | (simp only [go_sem, ↓reduceIte, Nat.reduceEqDiff, Nat.reduceAdd, Nat.reduceMul, Nat.reduceLeDiff, Nat.reduceLT, Int.reduceEq, Int.toNat_natCast, t1, t2, t3, t6, t7, hF.at 0 rfl, hF.at 1 rfl, hF.at 2 rfl, hF.cells 0 rfl, hF.len 0 rfl]; rfl)) (by first | (simp only [go_sem, ↓reduceIte, Nat.reduceEqDiff, Nat.reduceAdd, Nat.reduceMul, Nat.reduceLeDiff, Nat.reduceLT, Int.reduceEq, Int.toNat_natCast, t1, t2, t3, t6, t7, hF.at 0 rfl, hF.at 1 rfl, hF.at 2 rfl, hF.cells 0 rfl, hF.len 0 rfl]; done) | rfl | (simp only [go_sem, ↓reduceIte, Nat.reduceEqDiff, Nat.reduceAdd, Nat.reduceMul, Nat.reduceLeDiff, Nat.reduceLT, Int.reduceEq, Int.toNat_natCast, t1, t2, t3, t6, t7, hF.at 0 rfl, hF.at 1 rfl, hF.at 2 rfl, hF.cells 0 rfl, hF.len 0 rfl]; rfl)) (by first | (simp only [go_sem, ↓reduceIte, Nat.reduceEqDiff, Nat.reduceAdd, Nat.reduceMul, Nat.reduceLeDiff, Nat.reduceLT, Int.reduceEq, Int.toNat_natCast, t1, t2, t3, t6, t7, hF.at 0 rfl, hF.at 1 rfl, hF.at 2 rfl, hF.cells 0 rfl, hF.len 0 rfl]; done) | rfl | (simp only [go_sem, ↓reduceIte, Nat.reduceEqDiff, Nat.reduceAdd, Nat.reduceMul, Nat.reduceLeDiff, Nat.reduceLT, Int.reduceEq, Int.toNat_natCast, t1, t2, t3, t6, t7, hF.at 0 rfl, hF.at 1 rfl, hF.at 2 rfl, hF.cells 0 rfl, hF.len 0 rfl]; rfl)) hF
      · intro e21o_0 he T22 σ23 e21v0 t6 t7 hF
        have he := he.symm
        subst he
        try simp only [go_sem, ↓reduceIte, Nat.reduceEqDiff, Nat.reduceAdd, Nat.reduceMul, Nat.reduceLeDiff, Nat.reduceLT, Int.reduceEq, Int.toNat_natCast, t6, t7, hF.at 0 rfl, hF.at 1 rfl, hF.at 2 rfl, hF.cells 0 rfl, hF.len 0 rfl]
        refine fx_store hF 1 (cells' := [.int .i64 a0.kind, .str y8c_2_1, .int .i64 a0.num, .sl false (rws cI x18), e21v0]) rfl rfl rfl (by simp only [List.length_cons, List.length_nil]; decide) (by first | rfl | simp [splice_eq]) fun σ25 hF => ?_
        try simp only [go_sem, ↓reduceIte, Nat.reduceEqDiff, Nat.reduceAdd, Nat.reduceMul, Nat.reduceLeDiff, Nat.reduceLT, Int.reduceEq, Int.toNat_natCast, t6, t7, hF.at 0 rfl, hF.at 1 rfl, hF.at 2 rfl, hF.cells 0 rfl, hF.len 0 rfl]
        have e := pur H; subst e
        exact fx_ret (vs := [.agg [.int .i64 a0.kind, .str y8c_2_1, .int .i64 a0.num, .sl false (rws cI x18), e21v0]]) (by first | (simp only [go_sem, ↓reduceIte, Nat.reduceEqDiff, Nat.reduceAdd, Nat.reduceMul, Nat.reduceLeDiff, Nat.reduceLT, Int.reduceEq, Int.toNat_natCast, t6, t7, hF.at 0 rfl, hF.at 1 rfl, hF.at 2 rfl, hF.cells 0 rfl, hF.len 0 rfl]; done) | rfl | (simp only [go_sem, ↓reduceIte, Nat.reduceEqDiff, Nat.reduceAdd, Nat.reduceMul, Nat.reduceLeDiff, Nat.reduceLT, Int.reduceEq, Int.toNat_natCast, t6, t7, hF.at 0 rfl, hF.at 1 rfl, hF.at 2 rfl, hF.cells 0 rfl, hF.len 0 rfl]; rfl)) (by (try simp only [Fm.cells_eq]); exact Wk.agg hF.sub (.cons (hF.wk0 _) id (.cons (hF.wk0 _) id (.cons (hF.wk0 _) id (.cons (hF.wk0 _) id (.cons (hF.wk 0 rfl) (fun _ => rfl) .nil))))))
      · trivial
  · intro impl_renamed impl_renamed_l0 C0 L0 a0 x18 y8c_2_1 z0o_0 z0t_28 out H c hc Q τ b1 b3 b5 hE hR T σ z0v0 t1 t2 t6 t7 t26 t27 t28 hF
    obtain rfl := Option.some.inj ((rfl : loopAt Try.f26 0 = some _).symm.trans hc)
    refine aLoop_round ?_
    try simp only [go_sem, ↓reduceIte, Nat.reduceEqDiff, Nat.reduceAdd, Nat.reduceMul, Nat.reduceLeDiff, Nat.reduceLT, Int.reduceEq, Int.toNat_natCast, t1, t2, t6, t7, t26, t27, t28, hF.at 0 rfl, hF.at 1 rfl, hF.at 2 rfl, hF.cells 0 rfl, hF.len 0 rfl]
    refine aCnd_p (z0t_28 < (a0.kids.length : Int)) rfl (fun h => ?_) (fun h => ?_)
    · rw [if_pos h] at H
      obtain ⟨x30, hx30, H⟩ := bnd H
      try simp only [go_sem, ↓reduceIte, Nat.reduceEqDiff, Nat.reduceAdd, Nat.reduceMul, Nat.reduceLeDiff, Nat.reduceLT, Int.reduceEq, Int.toNat_natCast, t1, t2, t6, t7, t26, t27, t28, hF.at 0 rfl, hF.at 1 rfl, hF.at 2 rfl, hF.cells 0 rfl, hF.len 0 rfl, aidx_idx (g := Fm.cells) Fm.cells_len hx30]
      refine fx_alloc hF rfl fun b14 σ15 hF => ?_
      try simp only [go_sem, ↓reduceIte, Nat.reduceEqDiff, Nat.reduceAdd, Nat.reduceMul, Nat.reduceLeDiff, Nat.reduceLT, Int.reduceEq, Int.toNat_natCast, t1, t2, t6, t7, t26, t27, t28, hF.at 0 rfl, hF.at 1 rfl, hF.at 2 rfl, hF.at 3 rfl, hF.cells 0 rfl, hF.len 0 rfl]
      refine fx_store hF 0 (cells' := [.int .i64 x30.kind, .str x30.name, .int .i64 x30.num, .sl false (rws cI x30.sc), .sl false (rws Fm.cells x30.kids)]) rfl rfl rfl (by simp only [List.length_cons, List.length_nil]; decide) (by first | rfl | simp [splice_eq]) fun σ16 hF => ?_
      try simp only [go_sem, ↓reduceIte, Nat.reduceEqDiff, Nat.reduceAdd, Nat.reduceMul, Nat.reduceLeDiff, Nat.reduceLT, Int.reduceEq, Int.toNat_natCast, t1, t2, t6, t7, t26, t27, t28, hF.at 0 rfl, hF.at 1 rfl, hF.at 2 rfl, hF.at 3 rfl, hF.cells 0 rfl, hF.len 0 rfl]
      refine draw_text E0 [.v, .v, .v, .v, .v, .v, .v, .x, .v, .z] (by kernel_rfl) ?_
      try simp only [go_sem, ↓reduceIte, Nat.reduceEqDiff, Nat.reduceAdd, Nat.reduceMul, Nat.reduceLeDiff, Nat.reduceLT, Int.reduceEq, Int.toNat_natCast, t1, t2, t6, t7, t26, t27, t28, hF.at 0 rfl, hF.at 1 rfl, hF.at 2 rfl, hF.at 3 rfl, hF.cells 0 rfl, hF.len 0 rfl]
      obtain ⟨x37, hx37, H⟩ := bnd H
      refine vCall_pure (C0 x30 _ hx37) (by (try simp only [Fm.cells_eq]); exact WkVL.refl _) ?_
      try simp only [go_sem, ↓reduceIte, Nat.reduceEqDiff, Nat.reduceAdd, Nat.reduceMul, Nat.reduceLeDiff, Nat.reduceLT, Int.reduceEq, Int.toNat_natCast, t1, t2, t6, t7, t26, t27, t28, hF.at 0 rfl, hF.at 1 rfl, hF.at 2 rfl, hF.at 3 rfl, hF.cells 0 rfl, hF.len 0 rfl]
      obtain ⟨x39, hx39, H⟩ := bnd H
      refine fx_appK hF 0 (g := Fm.cells) (xs := z0o_0) (ys := [x37]) rfl (by decide) (by decide) (RdL.of (c := true) Fm.cells_len (by first | rfl | simp only [rws_cons, rws_nil, cI, cU, cS, cL, Fm.cells_eq])) hx39 fun v17 σ18 hF => ?_
      try simp only [go_sem, ↓reduceIte, Nat.reduceEqDiff, Nat.reduceAdd, Nat.reduceMul, Nat.reduceLeDiff, Nat.reduceLT, Int.reduceEq, Int.toNat_natCast, t1, t2, t6, t7, t26, t27, t28, hF.at 0 rfl, hF.at 1 rfl, hF.at 2 rfl, hF.at 3 rfl, hF.cells 0 rfl, hF.len 0 rfl]
      refine fx_store hF 1 (cells' := [.int .i64 a0.kind, .str y8c_2_1, .int .i64 a0.num, .sl false (rws cI x18), v17]) rfl (hF.cells 0 rfl) rfl (by simp only [List.length_cons, List.length_nil]; decide) (by first | rfl | simp [splice_eq]) fun σ19 hF => ?_
      try simp only [go_sem, ↓reduceIte, Nat.reduceEqDiff, Nat.reduceAdd, Nat.reduceMul, Nat.reduceLeDiff, Nat.reduceLT, Int.reduceEq, Int.toNat_natCast, t1, t2, t6, t7, t26, t27, t28, hF.at 0 rfl, hF.at 1 rfl, hF.at 2 rfl, hF.at 3 rfl, hF.cells 0 rfl, hF.len 0 rfl]
      exact L0 a0 x18 y8c_2_1 x39 (IntKind.i64.wrap (z0t_28 + 1)) _ H _ rfl Q τ b1 b3 b5 hE hR _ _ v17 (by first | (simp only [go_sem, ↓reduceIte, Nat.reduceEqDiff, Nat.reduceAdd, Nat.reduceMul, Nat.reduceLeDiff, Nat.reduceLT, Int.reduceEq, Int.toNat_natCast, t1, t2, t6, t7, t26, t27, t28, hF.at 0 rfl, hF.at 1 rfl, hF.at 2 rfl, hF.at 3 rfl, hF.cells 0 rfl, hF.len 0 rfl]; done) | rfl | (simp only [go_sem, ↓reduceIte, Nat.reduceEqDiff, Nat.reduceAdd, Nat.reduceMul, Nat.reduceLeDiff, Nat.reduceLT, Int.reduceEq, Int.toNat_natCast, t1, t2, t6, t7, t26, t27, t28, hF.at 0 rfl, hF.at 1 rfl, hF.at 2 rfl, hF.at 3 rfl, hF.cells 0 rfl, hF.len 0 rfl]; rfl)) (by first | (simp only [go_sem, ↓reduceIte, Nat.reduceEqDiff, Nat.reduceAdd, Nat.reduceMul, Nat.reduceLeDiff, Nat.reduceLT, Int.reduceEq, Int.toNat_natCast, t1, t2, t6, t7, t26, t27, t28, hF.at 0 rfl, hF.at 1 rfl, hF.at 2 rfl, hF.at 3 rfl, hF.cells 0 rfl, hF.len 0 rfl]; done) | rfl | (simp only [go_sem, ↓reduceIte, Nat.reduceEqDiff, Nat.reduceAdd, Nat.reduceMul, Nat.reduceLeDiff, Nat.reduceLT, Int.reduceEq, Int.toNat_natCast, t1, t2, t6, t7, t26, t27, t28, hF.at 0 rfl, hF.at 1 rfl, hF.at 2 rfl, hF.at 3 rfl, hF.cells 0 rfl, hF.len 0 rfl]; rfl)) (by first | (simp only [go_sem, ↓reduceIte, Nat.reduceEqDiff, Nat.reduceAdd, Nat.reduceMul, Nat.reduceLeDiff, Nat.reduceLT, Int.reduceEq, Int.toNat_natCast, t1, t2, t6, t7, t26, t27, t28, hF.at 0 rfl, hF.at 1 rfl, hF.at 2 rfl, hF.at 3 rfl, hF.cells 0 rfl, hF.len 0 rfl]; done) | rfl | (simp only [go_sem, ↓reduceIte, Nat.reduceEqDiff, Nat.reduceAdd, Nat.reduceMul, Nat.reduceLeDiff, Nat.reduceLT, Int.reduceEq, Int.toNat_natCast, t1, t2, t6, t7, t26, t27, t28, hF.at 0 rfl, hF.at 1 rfl, hF.at 2 rfl, hF.at 3 rfl, hF.cells 0 rfl, hF.len 0 rfl]; rfl)) (by first | (simp only [go_sem, ↓reduceIte, Nat.reduceEqDiff, Nat.reduceAdd, Nat.reduceMul, Nat.reduceLeDiff, Nat.reduceLT, Int.reduceEq, Int.toNat_natCast, t1, t2, t6, t7, t26, t27, t28, hF.at 0 rfl, hF.at 1 rfl, hF.at 2 rfl, hF.at 3 rfl, hF.cells 0 rfl, hF.len 0 rfl]; done) | rfl | (simp only [go_sem, ↓reduceIte, Nat.reduceEqDiff, Nat.reduceAdd, Nat.reduceMul, Nat.reduceLeDiff, Nat.reduceLT, Int.reduceEq, Int.toNat_natCast, t1, t2, t6, t7, t26, t27, t28, hF.at 0 rfl, hF.at 1 rfl, hF.at 2 rfl, hF.at 3 rfl, hF.cells 0 rfl, hF.len 0 rfl]; rfl)) (by first | (simp only [go_sem, ↓reduceIte, Nat.reduceEqDiff, Nat.reduceAdd, Nat.reduceMul, Nat.reduceLeDiff, Nat.reduceLT, Int.reduceEq, Int.toNat_natCast, t1, t2, t6, t7, t26, t27, t28, hF.at 0 rfl, hF.at 1 rfl, hF.at 2 rfl, hF.at 3 rfl, hF.cells 0 rfl, hF.len 0 rfl]; done) | rfl | (simp only [go_sem, ↓reduceIte, Nat.reduceEqDiff, Nat.reduceAdd, Nat.reduceMul, Nat.reduceLeDiff, Nat.reduceLT, Int.reduceEq, Int.toNat_natCast, t1, t2, t6, t7, t26, t27, t28, hF.at 0 rfl, hF.at 1 rfl, hF.at 2 rfl, hF.at 3 rfl, hF.cells 0 rfl, hF.len 0 rfl]; rfl)) (by first | (simp only [go_sem, ↓reduceIte, Nat.reduceEqDiff, Nat.reduceAdd, Nat.reduceMul, Nat.reduceLeDiff, Nat.reduceLT, Int.reduceEq, Int.toNat_natCast, t1, t2, t6, t7, t26, t27, t28, hF.at 0 rfl, hF.at 1 rfl, hF.at 2 rfl, hF.at 3 rfl, hF.cells 0 rfl, hF.len 0 rfl]; done) | rfl | (simp only [go_sem, ↓reduceIte, Nat.reduceEqDiff, Nat.reduceAdd, Nat.reduceMul, Nat.reduceLeDiff, Nat.reduceLT, Int.reduceEq, Int.toNat_natCast, t1, t2, t6, t7, t26, t27, t28, hF.at 0 rfl, hF.at 1 rfl, hF.at 2 rfl, hF.at 3 rfl, hF.cells 0 rfl, hF.len 0 rfl]; rfl)) (by first | (simp only [go_sem, ↓reduceIte, Nat.reduceEqDiff, Nat.reduceAdd, Nat.reduceMul, Nat.reduceLeDiff, Nat.reduceLT, Int.reduceEq, Int.toNat_natCast, t1, t2, t6, t7, t26, t27, t28, hF.at 0 rfl, hF.at 1 rfl, hF.at 2 rfl, hF.at 3 rfl, hF.cells 0 rfl, hF.len 0 rfl]; done) | rfl | (simp only [go_sem, ↓reduceIte, Nat.reduceEqDiff, Nat.reduceAdd, Nat.reduceMul, Nat.reduceLeDiff, Nat.reduceLT, Int.reduceEq, Int.toNat_natCast, t1, t2, t6, t7, t26, t27, t28, hF.at 0 rfl, hF.at 1 rfl, hF.at 2 rfl, hF.at 3 rfl, hF.cells 0 rfl, hF.len 0 rfl]; rfl)) (hF.drop 1 0)
    · rw [if_neg h] at H
      try simp only [go_sem, ↓reduceIte, Nat.reduceEqDiff, Nat.reduceAdd, Nat.reduceMul, Nat.reduceLeDiff, Nat.reduceLT, Int.reduceEq, Int.toNat_natCast, t1, t2, t6, t7, t26, t27, t28, hF.at 0 rfl, hF.at 1 rfl, hF.at 2 rfl, hF.cells 0 rfl, hF.len 0 rfl]
      exact hE _ (pur H).symm _ _ z0v0 (by first | (simp only [go_sem, ↓reduceIte, Nat.reduceEqDiff, Nat.reduceAdd, Nat.reduceMul, Nat.reduceLeDiff, Nat.reduceLT, Int.reduceEq, Int.toNat_natCast, t1, t2, t6, t7, t26, t27, t28, hF.at 0 rfl, hF.at 1 rfl, hF.at 2 rfl, hF.cells 0 rfl, hF.len 0 rfl]; done) | rfl | (simp only [go_sem, ↓reduceIte, Nat.reduceEqDiff, Nat.reduceAdd, Nat.reduceMul, Nat.reduceLeDiff, Nat.reduceLT, Int.reduceEq, Int.toNat_natCast, t1, t2, t6, t7, t26, t27, t28, hF.at 0 rfl, hF.at 1 rfl, hF.at 2 rfl, hF.cells 0 rfl, hF.len 0 rfl]; rfl)) (by first | (simp only [go_sem, ↓reduceIte, Nat.reduceEqDiff, Nat.reduceAdd, Nat.reduceMul, Nat.reduceLeDiff, Nat.reduceLT, Int.reduceEq, Int.toNat_natCast, t1, t2, t6, t7, t26, t27, t28, hF.at 0 rfl, hF.at 1 rfl, hF.at 2 rfl, hF.cells 0 rfl, hF.len 0 rfl]; done) | rfl | (simp only [go_sem, ↓reduceIte, Nat.reduceEqDiff, Nat.reduceAdd, Nat.reduceMul, Nat.reduceLeDiff, Nat.reduceLT, Int.reduceEq, Int.toNat_natCast, t1, t2, t6, t7, t26, t27, t28, hF.at 0 rfl, hF.at 1 rfl, hF.at 2 rfl, hF.cells 0 rfl, hF.len 0 rfl]; rfl)) hF
theorem impl_RenameName_ok : ∀ (a0 : Fm) (a1 : ByteArray) (a2 : ByteArray) r, impl_RenameName a0 a1 a2 = some r → PCtr Try.prog 13 [.agg (Fm.cells a0), .str a1, .str a2] (.tup [.agg (Fm.cells r.1), .bool r.2]) := by
  intro a0 a1 a2 r H
  intro σ
  unfold impl_RenameName at H
  refine ctr_of mixed Try.func13 rfl (by kernel_rfl) (rs := [.cell 6 26, .tmp 7]) rfl (by kernel_rfl) ?_
  have hF := Fx.refl σ
  have hX := Tau.none σ
  try simp only [go_sem, ↓reduceIte, Nat.reduceEqDiff, Nat.reduceAdd, Nat.reduceMul, Nat.reduceLeDiff, Nat.reduceLT, Int.reduceEq, Int.toNat_natCast]
  refine fx_alloc hF rfl fun b1 σ2 hF => ?_
  try simp only [go_sem, ↓reduceIte, Nat.reduceEqDiff, Nat.reduceAdd, Nat.reduceMul, Nat.reduceLeDiff, Nat.reduceLT, Int.reduceEq, Int.toNat_natCast, hF.at 0 rfl]
  refine fx_alloc hF rfl fun b3 σ4 hF => ?_
  try simp only [go_sem, ↓reduceIte, Nat.reduceEqDiff, Nat.reduceAdd, Nat.reduceMul, Nat.reduceLeDiff, Nat.reduceLT, Int.reduceEq, Int.toNat_natCast, hF.at 0 rfl, hF.at 1 rfl]
  obtain ⟨x9, hx9, H⟩ := bnd H
  refine aCall_pure (impl_FormValid_ok a0 _ hx9) (by (try simp only [Fm.cells_eq]); exact WkVL.refl _) ?_
  try simp only [go_sem, ↓reduceIte, Nat.reduceEqDiff, Nat.reduceAdd, Nat.reduceMul, Nat.reduceLeDiff, Nat.reduceLT, Int.reduceEq, Int.toNat_natCast, hF.at 0 rfl, hF.at 1 rfl]
  obtain ⟨x15, g5, H⟩ := bnd H
  refine aGd_cutN 3 12 15 (.bool x15) (aGd_introN (fun q6 => ?_) (fun q6 => ?_)) (fun J => ?_)
  · rw [if_neg (b_f q6)] at g5
    try simp only [go_sem, ↓reduceIte, Nat.reduceEqDiff, Nat.reduceAdd, Nat.reduceMul, Nat.reduceLeDiff, Nat.reduceLT, Int.reduceEq, Int.toNat_natCast, q6, hF.at 0 rfl, hF.at 1 rfl]
    obtain ⟨x13, hx13, g5⟩ := bnd g5
    refine aCall_pure (impl_NameValid_ok a1 _ hx13) (WkVL.refl _) ?_
    try simp only [go_sem, ↓reduceIte, Nat.reduceEqDiff, Nat.reduceAdd, Nat.reduceMul, Nat.reduceLeDiff, Nat.reduceLT, Int.reduceEq, Int.toNat_natCast, q6, hF.at 0 rfl, hF.at 1 rfl]
    refine cut_done 12 (by have e := pur g5; subst e; (first | rfl | (simp only [go_sem, ↓reduceIte, Nat.reduceEqDiff, Nat.reduceAdd, Nat.reduceMul, Nat.reduceLeDiff, Nat.reduceLT, Int.reduceEq, Int.toNat_natCast, q6]; done) | (simp only [go_sem, ↓reduceIte, Nat.reduceEqDiff, Nat.reduceAdd, Nat.reduceMul, Nat.reduceLeDiff, Nat.reduceLT, Int.reduceEq, Int.toNat_natCast, q6]; simp_all [upd_app]) | simp_all [upd_app])) ?_
    (repeat (first | refine agree_upd (by decide) ?_ | refine agree_low (by decide) ?_)) <;> (repeat (first | refine agree_updR (by decide) ?_ | refine agree_lowR (by decide) ?_)) <;> exact fun _ _ _ => rfl
  · rw [if_pos (q6)] at g5
    try simp only [go_sem, ↓reduceIte, Nat.reduceEqDiff, Nat.reduceAdd, Nat.reduceMul, Nat.reduceLeDiff, Nat.reduceLT, Int.reduceEq, Int.toNat_natCast, q6, hF.at 0 rfl, hF.at 1 rfl]
    refine cut_done 12 (by have e := pur g5; subst e; (first | rfl | (simp only [go_sem, ↓reduceIte, Nat.reduceEqDiff, Nat.reduceAdd, Nat.reduceMul, Nat.reduceLeDiff, Nat.reduceLT, Int.reduceEq, Int.toNat_natCast, q6]; done) | (simp only [go_sem, ↓reduceIte, Nat.reduceEqDiff, Nat.reduceAdd, Nat.reduceMul, Nat.reduceLeDiff, Nat.reduceLT, Int.reduceEq, Int.toNat_natCast, q6]; simp_all [upd_app]) | simp_all [upd_app])) ?_
    (repeat (first | refine agree_upd (by decide) ?_ | refine agree_low (by decide) ?_)) <;> (repeat (first | refine agree_updR (by decide) ?_ | refine agree_lowR (by decide) ?_)) <;> exact fun _ _ _ => rfl
  try simp only [go_sem, ↓reduceIte, Nat.reduceEqDiff, Nat.reduceAdd, Nat.reduceMul, Nat.reduceLeDiff, Nat.reduceLT, Int.reduceEq, Int.toNat_natCast, hF.at 0 rfl, hF.at 1 rfl]
  obtain ⟨x20, g7, H⟩ := bnd H
  refine aGd_cutN 3 17 20 (.bool x20) (aGd_introN (fun q8 => ?_) (fun q8 => ?_)) (fun J => ?_)
  · rw [if_neg (b_f q8)] at g7
    try simp only [go_sem, ↓reduceIte, Nat.reduceEqDiff, Nat.reduceAdd, Nat.reduceMul, Nat.reduceLeDiff, Nat.reduceLT, Int.reduceEq, Int.toNat_natCast, q8, hF.at 0 rfl, hF.at 1 rfl]
    obtain ⟨x18, hx18, g7⟩ := bnd g7
    refine aCall_pure (impl_NameValid_ok a2 _ hx18) (WkVL.refl _) ?_
    try simp only [go_sem, ↓reduceIte, Nat.reduceEqDiff, Nat.reduceAdd, Nat.reduceMul, Nat.reduceLeDiff, Nat.reduceLT, Int.reduceEq, Int.toNat_natCast, q8, hF.at 0 rfl, hF.at 1 rfl]
    refine cut_done 17 (by have e := pur g7; subst e; (first | rfl | (simp only [go_sem, ↓reduceIte, Nat.reduceEqDiff, Nat.reduceAdd, Nat.reduceMul, Nat.reduceLeDiff, Nat.reduceLT, Int.reduceEq, Int.toNat_natCast, q8]; done) | (simp only [go_sem, ↓reduceIte, Nat.reduceEqDiff, Nat.reduceAdd, Nat.reduceMul, Nat.reduceLeDiff, Nat.reduceLT, Int.reduceEq, Int.toNat_natCast, q8]; simp_all [upd_app]) | simp_all [upd_app])) ?_
    (repeat (first | refine agree_upd (by decide) ?_ | refine agree_low (by decide) ?_)) <;> (repeat (first | refine agree_updR (by decide) ?_ | refine agree_lowR (by decide) ?_)) <;> exact fun _ _ _ => rfl
  · rw [if_pos (q8)] at g7
    try simp only [go_sem, ↓reduceIte, Nat.reduceEqDiff, Nat.reduceAdd, Nat.reduceMul, Nat.reduceLeDiff, Nat.reduceLT, Int.reduceEq, Int.toNat_natCast, q8, hF.at 0 rfl, hF.at 1 rfl]
    refine cut_done 17 (by have e := pur g7; subst e; (first | rfl | (simp only [go_sem, ↓reduceIte, Nat.reduceEqDiff, Nat.reduceAdd, Nat.reduceMul, Nat.reduceLeDiff, Nat.reduceLT, Int.reduceEq, Int.toNat_natCast, q8]; done) | (simp only [go_sem, ↓reduceIte, Nat.reduceEqDiff, Nat.reduceAdd, Nat.reduceMul, Nat.reduceLeDiff, Nat.reduceLT, Int.reduceEq, Int.toNat_natCast, q8]; simp_all [upd_app]) | simp_all [upd_app])) ?_
    (repeat (first | refine agree_upd (by decide) ?_ | refine agree_low (by decide) ?_)) <;> (repeat (first | refine agree_updR (by decide) ?_ | refine agree_lowR (by decide) ?_)) <;> exact fun _ _ _ => rfl
  try simp only [go_sem, ↓reduceIte, Nat.reduceEqDiff, Nat.reduceAdd, Nat.reduceMul, Nat.reduceLeDiff, Nat.reduceLT, Int.reduceEq, Int.toNat_natCast, hF.at 0 rfl, hF.at 1 rfl]
  refine aCnd_b x20 rfl (fun h => ?_) (fun h => ?_)
  · rw [if_pos h] at H
    try simp only [go_sem, ↓reduceIte, Nat.reduceEqDiff, Nat.reduceAdd, Nat.reduceMul, Nat.reduceLeDiff, Nat.reduceLT, Int.reduceEq, Int.toNat_natCast, hF.at 0 rfl, hF.at 1 rfl]
    refine fx_store hF 0 (cells' := [.int .i64 0, .str (ByteArray.mk #[]), .int .i64 0, .nilsl, .nilsl]) rfl rfl rfl (by simp only [List.length_cons, List.length_nil]; decide) (by first | rfl | simp [splice_eq]) fun σ9 hF => ?_
    try simp only [go_sem, ↓reduceIte, Nat.reduceEqDiff, Nat.reduceAdd, Nat.reduceMul, Nat.reduceLeDiff, Nat.reduceLT, Int.reduceEq, Int.toNat_natCast, hF.at 0 rfl, hF.at 1 rfl]
    have e := pur H; subst e
    exact fx_ret (vs := [.agg [.int .i64 0, .str (ByteArray.mk #[]), .int .i64 0, .nilsl, .nilsl], .bool false]) (by first | (simp only [go_sem, ↓reduceIte, Nat.reduceEqDiff, Nat.reduceAdd, Nat.reduceMul, Nat.reduceLeDiff, Nat.reduceLT, Int.reduceEq, Int.toNat_natCast, hF.at 0 rfl, hF.at 1 rfl]; done) | rfl | (simp only [go_sem, ↓reduceIte, Nat.reduceEqDiff, Nat.reduceAdd, Nat.reduceMul, Nat.reduceLeDiff, Nat.reduceLT, Int.reduceEq, Int.toNat_natCast, hF.at 0 rfl, hF.at 1 rfl]; rfl)) (Wk.tup hF.sub (.cons (by (try simp only [Fm.cells_eq]); exact Wk.agg hF.sub (.cons (hF.wk0 _) id (.cons (hF.wk0 _) id (.cons (hF.wk0 _) id (.cons (Wk.val2 .nilsl hF.sub) (fun _ => rfl) (.cons (Wk.val2 .nilsl hF.sub) (fun _ => rfl) .nil)))))) (fun h => by first | exact h | rfl) (.cons (hF.wk0 _) (fun h => by first | exact h | rfl) .nil)))
  · rw [if_neg h] at H
    try simp only [go_sem, ↓reduceIte, Nat.reduceEqDiff, Nat.reduceAdd, Nat.reduceMul, Nat.reduceLeDiff, Nat.reduceLT, Int.reduceEq, Int.toNat_natCast, hF.at 0 rfl, hF.at 1 rfl]
    obtain ⟨x25, hx25, H⟩ := bnd H
    refine aCall_pure (impl_renamed_ok a0 a1 a2 _ hx25) (by (try simp only [Fm.cells_eq]); exact WkVL.refl _) ?_
    try simp only [go_sem, ↓reduceIte, Nat.reduceEqDiff, Nat.reduceAdd, Nat.reduceMul, Nat.reduceLeDiff, Nat.reduceLT, Int.reduceEq, Int.toNat_natCast, hF.at 0 rfl, hF.at 1 rfl]
    refine fx_store hF 0 (cells' := [.int .i64 x25.kind, .str x25.name, .int .i64 x25.num, .sl false (rws cI x25.sc), .sl false (rws Fm.cells x25.kids)]) rfl rfl rfl (by simp only [List.length_cons, List.length_nil]; decide) (by first | rfl | simp [splice_eq]) fun σ10 hF => ?_
    try simp only [go_sem, ↓reduceIte, Nat.reduceEqDiff, Nat.reduceAdd, Nat.reduceMul, Nat.reduceLeDiff, Nat.reduceLT, Int.reduceEq, Int.toNat_natCast, hF.at 0 rfl, hF.at 1 rfl]
    have e := pur H; subst e
    exact fx_ret (vs := [.agg [.int .i64 x25.kind, .str x25.name, .int .i64 x25.num, .sl false (rws cI x25.sc), .sl false (rws Fm.cells x25.kids)], .bool true]) (by first | (simp only [go_sem, ↓reduceIte, Nat.reduceEqDiff, Nat.reduceAdd, Nat.reduceMul, Nat.reduceLeDiff, Nat.reduceLT, Int.reduceEq, Int.toNat_natCast, hF.at 0 rfl, hF.at 1 rfl]; done) | rfl | (simp only [go_sem, ↓reduceIte, Nat.reduceEqDiff, Nat.reduceAdd, Nat.reduceMul, Nat.reduceLeDiff, Nat.reduceLT, Int.reduceEq, Int.toNat_natCast, hF.at 0 rfl, hF.at 1 rfl]; rfl)) (Wk.tup hF.sub (.cons (by (try simp only [Fm.cells_eq]); exact Wk.agg hF.sub (.cons (hF.wk0 _) id (.cons (hF.wk0 _) id (.cons (hF.wk0 _) id (.cons (hF.wk0 _) id (.cons (hF.wk0 _) id .nil)))))) (fun h => by first | exact h | rfl) (.cons (hF.wk0 _) (fun h => by first | exact h | rfl) .nil)))
theorem spec_l9Rename_ok : ∀ (a0 : Fm) (a1 : ByteArray) (a2 : ByteArray) (a3 : Bool) (a4 : Bool) r, spec_l9Rename a0 a1 a2 a3 a4 = some r → PCtr Try.prog 29 [.agg (Fm.cells a0), .str a1, .str a2, .bool a3, .bool a4] (.agg (Fm.cells r)) := by
  intro a0 a1 a2 a3 a4
  revert a0 a4
  refine spec_l9Rename.partial_correctness a1 a2 a3 (motive_1 := fun a0 a4 r => PCtr Try.prog 29 [.agg (Fm.cells a0), .str a1, .str a2, .bool a3, .bool a4] (.agg (Fm.cells r))) (motive_2 := fun a0 x22 y14c_2_1 y24t_4 z0o_0 z0t_12 out => ∀ c, loopAt Try.f29 0 = some c → ∀ (Q : AX → AS → Prop) (τ : Sto) (b1 : Nat) (b3 : Nat) (b5 : Nat), (∀ (e0o_0 : List Fm), out = e0o_0 → ∀ (T : Nat → AV) (σ : Sto) (e0v0 : AV), T 10 = .ptr b3 0 → T 11 = .ptr b5 0 → Fx τ σ [(b5, ⟨26, 5, [.int .i64 a0.kind, .str y14c_2_1, .int .i64 a0.num, .sl false (rws cI x22), e0v0]⟩), (b3, ⟨26, 5, [.int .i64 0, .str (ByteArray.mk #[]), .int .i64 0, .nilsl, .nilsl]⟩), (b1, ⟨26, 5, [.int .i64 a0.kind, .str a0.name, .int .i64 a0.num, .sl false (rws cI a0.sc), .sl false (rws Fm.cells a0.kids)]⟩)] [⟨e0v0, 26, 5, rws Fm.cells e0o_0⟩] → Q (.ex 0) ⟨T, σ⟩) → True → ∀ (T : Nat → AV) (σ : Sto) (z0v0 : AV), T 1 = .str a1 → T 2 = .str a2 → T 3 = .bool a3 → T 4 = .bool y24t_4 → T 5 = .ptr b1 0 → T 10 = .ptr b3 0 → T 11 = .ptr b5 0 → T 12 = .int .i64 z0t_12 → Fx τ σ [(b5, ⟨26, 5, [.int .i64 a0.kind, .str y14c_2_1, .int .i64 a0.num, .sl false (rws cI x22), z0v0]⟩), (b3, ⟨26, 5, [.int .i64 0, .str (ByteArray.mk #[]), .int .i64 0, .nilsl, .nilsl]⟩), (b1, ⟨26, 5, [.int .i64 a0.kind, .str a0.name, .int .i64 a0.num, .sl false (rws cI a0.sc), .sl false (rws Fm.cells a0.kids)]⟩)] [⟨z0v0, 26, 5, rws Fm.cells z0o_0⟩] → aLoop (acode Try.prog c) Q ⟨T, σ⟩) ?_ ?_
  · intro spec_l9Rename_l0 L0 a0 a4 r H
    intro σ
    refine ctr_of mixed Try.func29 rfl (by kernel_rfl) (rs := [.cell 10 26]) rfl (by kernel_rfl) ?_
    have hF := Fx.refl σ
    have hX := Tau.none σ
    try simp only [go_sem, ↓reduceIte, Nat.reduceEqDiff, Nat.reduceAdd, Nat.reduceMul, Nat.reduceLeDiff, Nat.reduceLT, Int.reduceEq, Int.toNat_natCast]
    refine fx_alloc hF rfl fun b1 σ2 hF => ?_
    try simp only [go_sem, ↓reduceIte, Nat.reduceEqDiff, Nat.reduceAdd, Nat.reduceMul, Nat.reduceLeDiff, Nat.reduceLT, Int.reduceEq, Int.toNat_natCast, hF.at 0 rfl]
    refine fx_alloc hF rfl fun b3 σ4 hF => ?_
    try simp only [go_sem, ↓reduceIte, Nat.reduceEqDiff, Nat.reduceAdd, Nat.reduceMul, Nat.reduceLeDiff, Nat.reduceLT, Int.reduceEq, Int.toNat_natCast, hF.at 0 rfl, hF.at 1 rfl]
    refine draw_text E0 [.v, .v, .v, .v, .v, .v, .v, .v, .v, .v, .v, .x, .z] (by kernel_rfl) ?_
    try simp only [go_sem, ↓reduceIte, Nat.reduceEqDiff, Nat.reduceAdd, Nat.reduceMul, Nat.reduceLeDiff, Nat.reduceLT, Int.reduceEq, Int.toNat_natCast, hF.at 0 rfl, hF.at 1 rfl]
    obtain ⟨x22, hx22, H⟩ := bnd H
    refine vApp_g (g := cI) (xs := []) (ys := a0.sc) (fun _ => rfl) (by decide) (by decide) (.inr (by first | rfl | simp only [rws_cons, rws_nil, cI, cU, cS, cL])) (.inr ⟨_, by first | rfl | simp only [rws_cons, rws_nil, cI, cU, cS, cL]⟩) hx22 ?_
    try simp only [go_sem, ↓reduceIte, Nat.reduceEqDiff, Nat.reduceAdd, Nat.reduceMul, Nat.reduceLeDiff, Nat.reduceLT, Int.reduceEq, Int.toNat_natCast, hF.at 0 rfl, hF.at 1 rfl]
    refine fx_allocK hF rfl fun b5 σ6 hF => ?_
    try simp only [go_sem, ↓reduceIte, Nat.reduceEqDiff, Nat.reduceAdd, Nat.reduceMul, Nat.reduceLeDiff, Nat.reduceLT, Int.reduceEq, Int.toNat_natCast, hF.at 0 rfl, hF.at 1 rfl, hF.at 2 rfl]
    refine fx_store hF 0 (cells' := [.int .i64 a0.kind, .str a0.name, .int .i64 a0.num, .sl false (rws cI x22), .nilsl]) rfl rfl rfl (by simp only [List.length_cons, List.length_nil]; decide) (by first | rfl | simp [splice_eq]) fun σ7 hF => ?_
    try simp only [go_sem, ↓reduceIte, Nat.reduceEqDiff, Nat.reduceAdd, Nat.reduceMul, Nat.reduceLeDiff, Nat.reduceLT, Int.reduceEq, Int.toNat_natCast, hF.at 0 rfl, hF.at 1 rfl, hF.at 2 rfl]
    obtain ⟨x32, g8, H⟩ := bnd H
    refine aGd_cutN 4 28 32 (.bool x32) (aGd_intro (fun q9 => ?_) (fun q9 => ?_)) (fun J => ?_)
    · try simp only [go_sem, ↓reduceIte, Nat.reduceEqDiff, Nat.reduceAdd, Nat.reduceMul, Nat.reduceLeDiff, Nat.reduceLT, Int.reduceEq, Int.toNat_natCast, q9, hF.at 0 rfl, hF.at 1 rfl, hF.at 2 rfl]
      refine cut_done 28 (by have e := pur g8; subst e; (first | rfl | (simp only [go_sem, ↓reduceIte, Nat.reduceEqDiff, Nat.reduceAdd, Nat.reduceMul, Nat.reduceLeDiff, Nat.reduceLT, Int.reduceEq, Int.toNat_natCast, q9]; done) | (simp only [go_sem, ↓reduceIte, Nat.reduceEqDiff, Nat.reduceAdd, Nat.reduceMul, Nat.reduceLeDiff, Nat.reduceLT, Int.reduceEq, Int.toNat_natCast, q9]; simp_all [upd_app]) | simp_all [upd_app])) ?_
      (repeat (first | refine agree_upd (by decide) ?_ | refine agree_low (by decide) ?_)) <;> (repeat (first | refine agree_updR (by decide) ?_ | refine agree_lowR (by decide) ?_)) <;> exact fun _ _ _ => rfl
    · try simp only [go_sem, ↓reduceIte, Nat.reduceEqDiff, Nat.reduceAdd, Nat.reduceMul, Nat.reduceLeDiff, Nat.reduceLT, Int.reduceEq, Int.toNat_natCast, q9, hF.at 0 rfl, hF.at 1 rfl, hF.at 2 rfl]
      refine cut_done 28 (by have e := pur g8; subst e; (first | rfl | (simp only [go_sem, ↓reduceIte, Nat.reduceEqDiff, Nat.reduceAdd, Nat.reduceMul, Nat.reduceLeDiff, Nat.reduceLT, Int.reduceEq, Int.toNat_natCast, q9]; done) | (simp only [go_sem, ↓reduceIte, Nat.reduceEqDiff, Nat.reduceAdd, Nat.reduceMul, Nat.reduceLeDiff, Nat.reduceLT, Int.reduceEq, Int.toNat_natCast, q9]; simp_all [upd_app]) | simp_all [upd_app])) ?_
      (repeat (first | refine agree_upd (by decide) ?_ | refine agree_low (by decide) ?_)) <;> (repeat (first | refine agree_updR (by decide) ?_ | refine agree_lowR (by decide) ?_)) <;> exact fun _ _ _ => rfl
    try simp only [go_sem, ↓reduceIte, Nat.reduceEqDiff, Nat.reduceAdd, Nat.reduceMul, Nat.reduceLeDiff, Nat.reduceLT, Int.reduceEq, Int.toNat_natCast, hF.at 0 rfl, hF.at 1 rfl, hF.at 2 rfl]
    obtain ⟨x39, g10, H⟩ := bnd H
    refine aGd_cutN 5 34 39 (.bool x39) (aGd_intro (fun q11 => ?_) (fun q11 => ?_)) (fun J => ?_)
    · rw [if_pos (q11)] at g10
      try simp only [go_sem, ↓reduceIte, Nat.reduceEqDiff, Nat.reduceAdd, Nat.reduceMul, Nat.reduceLeDiff, Nat.reduceLT, Int.reduceEq, Int.toNat_natCast, q11, hF.at 0 rfl, hF.at 1 rfl, hF.at 2 rfl]
      obtain ⟨x38, g12, g10⟩ := bnd g10
      refine aGd_cutN 2 36 38 (.bool x38) (aGd_introN (fun q13 => ?_) (fun q13 => ?_)) (fun J => ?_)
      · try simp only [go_sem, ↓reduceIte, Nat.reduceEqDiff, Nat.reduceAdd, Nat.reduceMul, Nat.reduceLeDiff, Nat.reduceLT, Int.reduceEq, Int.toNat_natCast, q11, q13, hF.at 0 rfl, hF.at 1 rfl, hF.at 2 rfl]
        refine cut_done 36 (by have e := pur g12; subst e; (first | rfl | (simp only [go_sem, ↓reduceIte, Nat.reduceEqDiff, Nat.reduceAdd, Nat.reduceMul, Nat.reduceLeDiff, Nat.reduceLT, Int.reduceEq, Int.toNat_natCast, q11, q13]; done) | (simp only [go_sem, ↓reduceIte, Nat.reduceEqDiff, Nat.reduceAdd, Nat.reduceMul, Nat.reduceLeDiff, Nat.reduceLT, Int.reduceEq, Int.toNat_natCast, q11, q13]; simp_all [upd_app]) | simp_all [upd_app])) ?_
        (repeat (first | refine agree_upd (by decide) ?_ | refine agree_low (by decide) ?_)) <;> (repeat (first | refine agree_updR (by decide) ?_ | refine agree_lowR (by decide) ?_)) <;> exact fun _ _ _ => rfl
      · try simp only [go_sem, ↓reduceIte, Nat.reduceEqDiff, Nat.reduceAdd, Nat.reduceMul, Nat.reduceLeDiff, Nat.reduceLT, Int.reduceEq, Int.toNat_natCast, q11, q13, hF.at 0 rfl, hF.at 1 rfl, hF.at 2 rfl]
        refine cut_done 36 (by have e := pur g12; subst e; (first | rfl | (simp only [go_sem, ↓reduceIte, Nat.reduceEqDiff, Nat.reduceAdd, Nat.reduceMul, Nat.reduceLeDiff, Nat.reduceLT, Int.reduceEq, Int.toNat_natCast, q11, q13]; done) | (simp only [go_sem, ↓reduceIte, Nat.reduceEqDiff, Nat.reduceAdd, Nat.reduceMul, Nat.reduceLeDiff, Nat.reduceLT, Int.reduceEq, Int.toNat_natCast, q11, q13]; simp_all [upd_app]) | simp_all [upd_app])) ?_
        (repeat (first | refine agree_upd (by decide) ?_ | refine agree_low (by decide) ?_)) <;> (repeat (first | refine agree_updR (by decide) ?_ | refine agree_lowR (by decide) ?_)) <;> exact fun _ _ _ => rfl
      try simp only [go_sem, ↓reduceIte, Nat.reduceEqDiff, Nat.reduceAdd, Nat.reduceMul, Nat.reduceLeDiff, Nat.reduceLT, Int.reduceEq, Int.toNat_natCast, q11, hF.at 0 rfl, hF.at 1 rfl, hF.at 2 rfl]
      refine cut_done 34 (by have e := pur g10; subst e; (first | rfl | (simp only [go_sem, ↓reduceIte, Nat.reduceEqDiff, Nat.reduceAdd, Nat.reduceMul, Nat.reduceLeDiff, Nat.reduceLT, Int.reduceEq, Int.toNat_natCast, q11]; done) | (simp only [go_sem, ↓reduceIte, Nat.reduceEqDiff, Nat.reduceAdd, Nat.reduceMul, Nat.reduceLeDiff, Nat.reduceLT, Int.reduceEq, Int.toNat_natCast, q11]; simp_all [upd_app]) | simp_all [upd_app])) ?_
      (repeat (first | refine agree_upd (by decide) ?_ | refine agree_low (by decide) ?_)) <;> (repeat (first | refine agree_updR (by decide) ?_ | refine agree_lowR (by decide) ?_)) <;> exact fun _ _ _ => rfl
    · rw [if_neg (b_f q11)] at g10
      try simp only [go_sem, ↓reduceIte, Nat.reduceEqDiff, Nat.reduceAdd, Nat.reduceMul, Nat.reduceLeDiff, Nat.reduceLT, Int.reduceEq, Int.toNat_natCast, q11, hF.at 0 rfl, hF.at 1 rfl, hF.at 2 rfl]
      refine cut_done 34 (by have e := pur g10; subst e; (first | rfl | (simp only [go_sem, ↓reduceIte, Nat.reduceEqDiff, Nat.reduceAdd, Nat.reduceMul, Nat.reduceLeDiff, Nat.reduceLT, Int.reduceEq, Int.toNat_natCast, q11]; done) | (simp only [go_sem, ↓reduceIte, Nat.reduceEqDiff, Nat.reduceAdd, Nat.reduceMul, Nat.reduceLeDiff, Nat.reduceLT, Int.reduceEq, Int.toNat_natCast, q11]; simp_all [upd_app]) | simp_all [upd_app])) ?_
      (repeat (first | refine agree_upd (by decide) ?_ | refine agree_low (by decide) ?_)) <;> (repeat (first | refine agree_updR (by decide) ?_ | refine agree_lowR (by decide) ?_)) <;> exact fun _ _ _ => rfl
    try simp only [go_sem, ↓reduceIte, Nat.reduceEqDiff, Nat.reduceAdd, Nat.reduceMul, Nat.reduceLeDiff, Nat.reduceLT, Int.reduceEq, Int.toNat_natCast, hF.at 0 rfl, hF.at 1 rfl, hF.at 2 rfl]
    obtain ⟨y14c_2_1, j15, H⟩ := bnd H
    refine aCnd_join (fun s' => ∃ (T : Nat → AV) (σ1 : Sto), s' = ⟨T, σ1⟩ ∧ T 1 = .str a1 ∧ T 2 = .str a2 ∧ T 3 = .bool a3 ∧ T 4 = .bool a4 ∧ T 5 = .ptr b1 0 ∧ T 10 = .ptr b3 0 ∧ T 11 = .ptr b5 0 ∧ Fx σ σ1 [(b5, ⟨26, 5, [.int .i64 a0.kind, .str y14c_2_1, .int .i64 a0.num, .sl false (rws cI x22), .nilsl]⟩), (b3, ⟨26, 5, [.int .i64 0, .str (ByteArray.mk #[]), .int .i64 0, .nilsl, .nilsl]⟩), (b1, ⟨26, 5, [.int .i64 a0.kind, .str a0.name, .int .i64 a0.num, .sl false (rws cI a0.sc), .sl false (rws Fm.cells a0.kids)]⟩)] []) (aCnd_b x39 rfl (fun h => ?_) (fun h => ?_)) ?_
    · rw [if_pos h] at j15
      try simp only [go_sem, ↓reduceIte, Nat.reduceEqDiff, Nat.reduceAdd, Nat.reduceMul, Nat.reduceLeDiff, Nat.reduceLT, Int.reduceEq, Int.toNat_natCast, hF.at 0 rfl, hF.at 1 rfl, hF.at 2 rfl]
      refine fx_store hF 0 (cells' := [.int .i64 a0.kind, .str a2, .int .i64 a0.num, .sl false (rws cI x22), .nilsl]) rfl rfl rfl (by simp only [List.length_cons, List.length_nil]; decide) (by first | rfl | simp [splice_eq]) fun σ16 hF => ?_
      try simp only [go_sem, ↓reduceIte, Nat.reduceEqDiff, Nat.reduceAdd, Nat.reduceMul, Nat.reduceLeDiff, Nat.reduceLT, Int.reduceEq, Int.toNat_natCast, hF.at 0 rfl, hF.at 1 rfl, hF.at 2 rfl]
      have e := pur j15
      subst e
      exact ⟨_, _, rfl, (by first | (simp only [go_sem, ↓reduceIte, Nat.reduceEqDiff, Nat.reduceAdd, Nat.reduceMul, Nat.reduceLeDiff, Nat.reduceLT, Int.reduceEq, Int.toNat_natCast, hF.at 0 rfl, hF.at 1 rfl, hF.at 2 rfl]; done) | rfl | (simp only [go_sem, ↓reduceIte, Nat.reduceEqDiff, Nat.reduceAdd, Nat.reduceMul, Nat.reduceLeDiff, Nat.reduceLT, Int.reduceEq, Int.toNat_natCast, hF.at 0 rfl, hF.at 1 rfl, hF.at 2 rfl]; rfl)), (by first | (simp only [go_sem, ↓reduceIte, Nat.reduceEqDiff, Nat.reduceAdd, Nat.reduceMul, Nat.reduceLeDiff, Nat.reduceLT, Int.reduceEq, Int.toNat_natCast, hF.at 0 rfl, hF.at 1 rfl, hF.at 2 rfl]; done) | rfl | (simp only [go_sem, ↓reduceIte, Nat.reduceEqDiff, Nat.reduceAdd, Nat.reduceMul, Nat.reduceLeDiff, Nat.reduceLT, Int.reduceEq, Int.toNat_natCast, hF.at 0 rfl, hF.at 1 rfl, hF.at 2 rfl]; rfl)), (by first | (simp only [go_sem, ↓reduceIte, Nat.reduceEqDiff, Nat.reduceAdd, Nat.reduceMul, Nat.reduceLeDiff, Nat.reduceLT, Int.reduceEq, Int.toNat_natCast, hF.at 0 rfl, hF.at 1 rfl, hF.at 2 rfl]; done) | rfl | (simp only [go_sem, ↓reduceIte, Nat.reduceEqDiff, Nat.reduceAdd, Nat.reduceMul, Nat.reduceLeDiff, Nat.reduceLT, Int.reduceEq, Int.toNat_natCast, hF.at 0 rfl, hF.at 1 rfl, hF.at 2 rfl]; rfl)), (by first | (simp only [go_sem, ↓reduceIte, Nat.reduceEqDiff, Nat.reduceAdd, Nat.reduceMul, Nat.reduceLeDiff, Nat.reduceLT, Int.reduceEq, Int.toNat_natCast, hF.at 0 rfl, hF.at 1 rfl, hF.at 2 rfl]; done) | rfl | (simp only [go_sem, ↓reduceIte, Nat.reduceEqDiff, Nat.reduceAdd, Nat.reduceMul, Nat.reduceLeDiff, Nat.reduceLT, Int.reduceEq, Int.toNat_natCast, hF.at 0 rfl, hF.at 1 rfl, hF.at 2 rfl]; rfl)), (by first | (simp only [go_sem, ↓reduceIte, Nat.reduceEqDiff, Nat.reduceAdd, Nat.reduceMul, Nat.reduceLeDiff, Nat.reduceLT, Int.reduceEq, Int.toNat_natCast, hF.at 0 rfl, hF.at 1 rfl, hF.at 2 rfl]; done) | rfl | (simp only [go_sem, ↓reduceIte, Nat.reduceEqDiff, Nat.reduceAdd, Nat.reduceMul, Nat.reduceLeDiff, Nat.reduceLT, Int.reduceEq, Int.toNat_natCast, hF.at 0 rfl, hF.at 1 rfl, hF.at 2 rfl]; rfl)), (by first | (simp only [go_sem, ↓reduceIte, Nat.reduceEqDiff, Nat.reduceAdd, Nat.reduceMul, Nat.reduceLeDiff, Nat.reduceLT, Int.reduceEq, Int.toNat_natCast, hF.at 0 rfl, hF.at 1 rfl, hF.at 2 rfl]; done) | rfl | (simp only [go_sem, ↓reduceIte, Nat.reduceEqDiff, Nat.reduceAdd, Nat.reduceMul, Nat.reduceLeDiff, Nat.reduceLT, Int.reduceEq, Int.toNat_natCast, hF.at 0 rfl, hF.at 1 rfl, hF.at 2 rfl]; rfl)), (by first | (simp only [go_sem, ↓reduceIte, Nat.reduceEqDiff, Nat.reduceAdd, Nat.reduceMul, Nat.reduceLeDiff, Nat.reduceLT, Int.reduceEq, Int.toNat_natCast, hF.at 0 rfl, hF.at 1 rfl, hF.at 2 rfl]; done) | rfl | (simp only [go_sem, ↓reduceIte, Nat.reduceEqDiff, Nat.reduceAdd, Nat.reduceMul, Nat.reduceLeDiff, Nat.reduceLT, Int.reduceEq, Int.toNat_natCast, hF.at 0 rfl, hF.at 1 rfl, hF.at 2 rfl]; rfl)), hF⟩
    · rw [if_neg h] at j15
      try simp only [go_sem, ↓reduceIte, Nat.reduceEqDiff, Nat.reduceAdd, Nat.reduceMul, Nat.reduceLeDiff, Nat.reduceLT, Int.reduceEq, Int.toNat_natCast, hF.at 0 rfl, hF.at 1 rfl, hF.at 2 rfl]
      have e := pur j15
      subst e
      exact ⟨_, _, rfl, (by first | (simp only [go_sem, ↓reduceIte, Nat.reduceEqDiff, Nat.reduceAdd, Nat.reduceMul, Nat.reduceLeDiff, Nat.reduceLT, Int.reduceEq, Int.toNat_natCast, hF.at 0 rfl, hF.at 1 rfl, hF.at 2 rfl]; done) | rfl | (simp only [go_sem, ↓reduceIte, Nat.reduceEqDiff, Nat.reduceAdd, Nat.reduceMul, Nat.reduceLeDiff, Nat.reduceLT, Int.reduceEq, Int.toNat_natCast, hF.at 0 rfl, hF.at 1 rfl, hF.at 2 rfl]; rfl)), (by first | (simp only [go_sem, ↓reduceIte, Nat.reduceEqDiff, Nat.reduceAdd, Nat.reduceMul, Nat.reduceLeDiff, Nat.reduceLT, Int.reduceEq, Int.toNat_natCast, hF.at 0 rfl, hF.at 1 rfl, hF.at 2 rfl]; done) | rfl | (simp only [go_sem, ↓reduceIte, Nat.reduceEqDiff, Nat.reduceAdd, Nat.reduceMul, Nat.reduceLeDiff, Nat.reduceLT, Int.reduceEq, Int.toNat_natCast, hF.at 0 rfl, hF.at 1 rfl, hF.at 2 rfl]; rfl)), (by first | (simp only [go_sem, ↓reduceIte, Nat.reduceEqDiff, Nat.reduceAdd, Nat.reduceMul, Nat.reduceLeDiff, Nat.reduceLT, Int.reduceEq, Int.toNat_natCast, hF.at 0 rfl, hF.at 1 rfl, hF.at 2 rfl]; done) | rfl | (simp only [go_sem, ↓reduceIte, Nat.reduceEqDiff, Nat.reduceAdd, Nat.reduceMul, Nat.reduceLeDiff, Nat.reduceLT, Int.reduceEq, Int.toNat_natCast, hF.at 0 rfl, hF.at 1 rfl, hF.at 2 rfl]; rfl)), (by first | (simp only [go_sem, ↓reduceIte, Nat.reduceEqDiff, Nat.reduceAdd, Nat.reduceMul, Nat.reduceLeDiff, Nat.reduceLT, Int.reduceEq, Int.toNat_natCast, hF.at 0 rfl, hF.at 1 rfl, hF.at 2 rfl]; done) | rfl | (simp only [go_sem, ↓reduceIte, Nat.reduceEqDiff, Nat.reduceAdd, Nat.reduceMul, Nat.reduceLeDiff, Nat.reduceLT, Int.reduceEq, Int.toNat_natCast, hF.at 0 rfl, hF.at 1 rfl, hF.at 2 rfl]; rfl)), (by first | (simp only [go_sem, ↓reduceIte, Nat.reduceEqDiff, Nat.reduceAdd, Nat.reduceMul, Nat.reduceLeDiff, Nat.reduceLT, Int.reduceEq, Int.toNat_natCast, hF.at 0 rfl, hF.at 1 rfl, hF.at 2 rfl]; done) | rfl | (simp only [go_sem, ↓reduceIte, Nat.reduceEqDiff, Nat.reduceAdd, Nat.reduceMul, Nat.reduceLeDiff, Nat.reduceLT, Int.reduceEq, Int.toNat_natCast, hF.at 0 rfl, hF.at 1 rfl, hF.at 2 rfl]; rfl)), (by first | (simp only [go_sem, ↓reduceIte, Nat.reduceEqDiff, Nat.reduceAdd, Nat.reduceMul, Nat.reduceLeDiff, Nat.reduceLT, Int.reduceEq, Int.toNat_natCast, hF.at 0 rfl, hF.at 1 rfl, hF.at 2 rfl]; done) | rfl | (simp only [go_sem, ↓reduceIte, Nat.reduceEqDiff, Nat.reduceAdd, Nat.reduceMul, Nat.reduceLeDiff, Nat.reduceLT, Int.reduceEq, Int.toNat_natCast, hF.at 0 rfl, hF.at 1 rfl, hF.at 2 rfl]; rfl)), (by first | (simp only [go_sem, ↓reduceIte, Nat.reduceEqDiff, Nat.reduceAdd, Nat.reduceMul, Nat.reduceLeDiff, Nat.reduceLT, Int.reduceEq, Int.toNat_natCast, hF.at 0 rfl, hF.at 1 rfl, hF.at 2 rfl]; done) | rfl | (simp only [go_sem, ↓reduceIte, Nat.reduceEqDiff, Nat.reduceAdd, Nat.reduceMul, Nat.reduceLeDiff, Nat.reduceLT, Int.reduceEq, Int.toNat_natCast, hF.at 0 rfl, hF.at 1 rfl, hF.at 2 rfl]; rfl)), hF⟩
    · rintro s' ⟨T17, σ18, rfl, t1, t2, t3, t4, t5, t10, t11, hF⟩
      try simp only [go_sem, ↓reduceIte, Nat.reduceEqDiff, Nat.reduceAdd, Nat.reduceMul, Nat.reduceLeDiff, Nat.reduceLT, Int.reduceEq, Int.toNat_natCast, t1, t2, t3, t4, t5, t10, t11, hF.at 0 rfl, hF.at 1 rfl, hF.at 2 rfl]
      obtain ⟨x53, g20, H⟩ := bnd H
      refine aGd_cutN 6 47 53 (.bool x53) (aGd_intro (fun q21 => ?_) (fun q21 => ?_)) (fun J => ?_)
      · rw [if_pos (of_decide_eq_true q21)] at g20
        obtain ⟨x49, hx49, g20⟩ := bnd g20
        try simp only [go_sem, ↓reduceIte, Nat.reduceEqDiff, Nat.reduceAdd, Nat.reduceMul, Nat.reduceLeDiff, Nat.reduceLT, Int.reduceEq, Int.toNat_natCast, t1, t2, t3, t4, t5, t10, t11, q21, hF.at 0 rfl, hF.at 1 rfl, hF.at 2 rfl, aidx_idx (g := Fm.cells) Fm.cells_len hx49]
        refine cut_done 47 (by have e := pur g20; subst e; (first | rfl | (simp only [go_sem, ↓reduceIte, Nat.reduceEqDiff, Nat.reduceAdd, Nat.reduceMul, Nat.reduceLeDiff, Nat.reduceLT, Int.reduceEq, Int.toNat_natCast, q21]; done) | (simp only [go_sem, ↓reduceIte, Nat.reduceEqDiff, Nat.reduceAdd, Nat.reduceMul, Nat.reduceLeDiff, Nat.reduceLT, Int.reduceEq, Int.toNat_natCast, q21]; simp_all [upd_app]) | simp_all [upd_app])) ?_
        (repeat (first | refine agree_upd (by decide) ?_ | refine agree_low (by decide) ?_)) <;> (repeat (first | refine agree_updR (by decide) ?_ | refine agree_lowR (by decide) ?_)) <;> exact fun _ _ _ => rfl
      · rw [if_neg (of_decide_eq_false q21)] at g20
        try simp only [go_sem, ↓reduceIte, Nat.reduceEqDiff, Nat.reduceAdd, Nat.reduceMul, Nat.reduceLeDiff, Nat.reduceLT, Int.reduceEq, Int.toNat_natCast, t1, t2, t3, t4, t5, t10, t11, q21, hF.at 0 rfl, hF.at 1 rfl, hF.at 2 rfl]
        refine cut_done 47 (by have e := pur g20; subst e; (first | rfl | (simp only [go_sem, ↓reduceIte, Nat.reduceEqDiff, Nat.reduceAdd, Nat.reduceMul, Nat.reduceLeDiff, Nat.reduceLT, Int.reduceEq, Int.toNat_natCast, q21]; done) | (simp only [go_sem, ↓reduceIte, Nat.reduceEqDiff, Nat.reduceAdd, Nat.reduceMul, Nat.reduceLeDiff, Nat.reduceLT, Int.reduceEq, Int.toNat_natCast, q21]; simp_all [upd_app]) | simp_all [upd_app])) ?_
        (repeat (first | refine agree_upd (by decide) ?_ | refine agree_low (by decide) ?_)) <;> (repeat (first | refine agree_updR (by decide) ?_ | refine agree_lowR (by decide) ?_)) <;> exact fun _ _ _ => rfl
      try simp only [go_sem, ↓reduceIte, Nat.reduceEqDiff, Nat.reduceAdd, Nat.reduceMul, Nat.reduceLeDiff, Nat.reduceLT, Int.reduceEq, Int.toNat_natCast, t1, t2, t3, t4, t5, t10, t11, hF.at 0 rfl, hF.at 1 rfl, hF.at 2 rfl]
      obtain ⟨x61, g22, H⟩ := bnd H
      refine aGd_cutN 6 55 61 (.bool x61) (aGd_intro (fun q23 => ?_) (fun q23 => ?_)) (fun J => ?_)
      · rw [if_pos (q23)] at g22
        obtain ⟨x57, hx57, g22⟩ := bnd g22
        try simp only [go_sem, ↓reduceIte, Nat.reduceEqDiff, Nat.reduceAdd, Nat.reduceMul, Nat.reduceLeDiff, Nat.reduceLT, Int.reduceEq, Int.toNat_natCast, t1, t2, t3, t4, t5, t10, t11, q23, hF.at 0 rfl, hF.at 1 rfl, hF.at 2 rfl, aidx_idx (g := Fm.cells) Fm.cells_len hx57]
        refine cut_done 55 (by have e := pur g22; subst e; (first | rfl | (simp only [go_sem, ↓reduceIte, Nat.reduceEqDiff, Nat.reduceAdd, Nat.reduceMul, Nat.reduceLeDiff, Nat.reduceLT, Int.reduceEq, Int.toNat_natCast, q23]; done) | (simp only [go_sem, ↓reduceIte, Nat.reduceEqDiff, Nat.reduceAdd, Nat.reduceMul, Nat.reduceLeDiff, Nat.reduceLT, Int.reduceEq, Int.toNat_natCast, q23]; simp_all [upd_app]) | simp_all [upd_app])) ?_
        (repeat (first | refine agree_upd (by decide) ?_ | refine agree_low (by decide) ?_)) <;> (repeat (first | refine agree_updR (by decide) ?_ | refine agree_lowR (by decide) ?_)) <;> exact fun _ _ _ => rfl
      · rw [if_neg (b_f q23)] at g22
        try simp only [go_sem, ↓reduceIte, Nat.reduceEqDiff, Nat.reduceAdd, Nat.reduceMul, Nat.reduceLeDiff, Nat.reduceLT, Int.reduceEq, Int.toNat_natCast, t1, t2, t3, t4, t5, t10, t11, q23, hF.at 0 rfl, hF.at 1 rfl, hF.at 2 rfl]
        refine cut_done 55 (by have e := pur g22; subst e; (first | rfl | (simp only [go_sem, ↓reduceIte, Nat.reduceEqDiff, Nat.reduceAdd, Nat.reduceMul, Nat.reduceLeDiff, Nat.reduceLT, Int.reduceEq, Int.toNat_natCast, q23]; done) | (simp only [go_sem, ↓reduceIte, Nat.reduceEqDiff, Nat.reduceAdd, Nat.reduceMul, Nat.reduceLeDiff, Nat.reduceLT, Int.reduceEq, Int.toNat_natCast, q23]; simp_all [upd_app]) | simp_all [upd_app])) ?_
        (repeat (first | refine agree_upd (by decide) ?_ | refine agree_low (by decide) ?_)) <;> (repeat (first | refine agree_updR (by decide) ?_ | refine agree_lowR (by decide) ?_)) <;> exact fun _ _ _ => rfl
      try simp only [go_sem, ↓reduceIte, Nat.reduceEqDiff, Nat.reduceAdd, Nat.reduceMul, Nat.reduceLeDiff, Nat.reduceLT, Int.reduceEq, Int.toNat_natCast, t1, t2, t3, t4, t5, t10, t11, hF.at 0 rfl, hF.at 1 rfl, hF.at 2 rfl]
      obtain ⟨y24t_4, j25, H⟩ := bnd H
      refine aCnd_join (fun s' => ∃ (T : Nat → AV) (σ1 : Sto), s' = ⟨T, σ1⟩ ∧ T 1 = .str a1 ∧ T 2 = .str a2 ∧ T 3 = .bool a3 ∧ T 4 = .bool y24t_4 ∧ T 5 = .ptr b1 0 ∧ T 10 = .ptr b3 0 ∧ T 11 = .ptr b5 0 ∧ Fx σ σ1 [(b5, ⟨26, 5, [.int .i64 a0.kind, .str y14c_2_1, .int .i64 a0.num, .sl false (rws cI x22), .nilsl]⟩), (b3, ⟨26, 5, [.int .i64 0, .str (ByteArray.mk #[]), .int .i64 0, .nilsl, .nilsl]⟩), (b1, ⟨26, 5, [.int .i64 a0.kind, .str a0.name, .int .i64 a0.num, .sl false (rws cI a0.sc), .sl false (rws Fm.cells a0.kids)]⟩)] []) (aCnd_b x61 rfl (fun h => ?_) (fun h => ?_)) ?_
      · rw [if_pos h] at j25
        try simp only [go_sem, ↓reduceIte, Nat.reduceEqDiff, Nat.reduceAdd, Nat.reduceMul, Nat.reduceLeDiff, Nat.reduceLT, Int.reduceEq, Int.toNat_natCast, t1, t2, t3, t4, t5, t10, t11, hF.at 0 rfl, hF.at 1 rfl, hF.at 2 rfl]
        have e := pur j25
        subst e
        exact ⟨_, _, rfl, (by first | (simp only [go_sem, ↓reduceIte, Nat.reduceEqDiff, Nat.reduceAdd, Nat.reduceMul, Nat.reduceLeDiff, Nat.reduceLT, Int.reduceEq, Int.toNat_natCast, t1, t2, t3, t4, t5, t10, t11, hF.at 0 rfl, hF.at 1 rfl, hF.at 2 rfl]; done) | rfl | (simp only [go_sem, ↓reduceIte, Nat.reduceEqDiff, Nat.reduceAdd, Nat.reduceMul, Nat.reduceLeDiff, Nat.reduceLT, Int.reduceEq, Int.toNat_natCast, t1, t2, t3, t4, t5, t10, t11, hF.at 0 rfl, hF.at 1 rfl, hF.at 2 rfl]; rfl)), (by first | (simp only [go_sem, ↓reduceIte, Nat.reduceEqDiff, Nat.reduceAdd, Nat.reduceMul, Nat.reduceLeDiff, Nat.reduceLT, Int.reduceEq, Int.toNat_natCast, t1, t2, t3, t4, t5, t10, t11, hF.at 0 rfl, hF.at 1 rfl, hF.at 2 rfl]; done) | rfl | (simp only [go_sem, ↓reduceIte, Nat.reduceEqDiff, Nat.reduceAdd, Nat.reduceMul, Nat.reduceLeDiff, Nat.reduceLT, Int.reduceEq, Int.toNat_natCast, t1, t2, t3, t4, t5, t10, t11, hF.at 0 rfl, hF.at 1 rfl, hF.at 2 rfl]; rfl)), (by first | (simp only [go_sem, ↓reduceIte, Nat.reduceEqDiff, Nat.reduceAdd, Nat.reduceMul, Nat.reduceLeDiff, Nat.reduceLT, Int.reduceEq, Int.toNat_natCast, t1, t2, t3, t4, t5, t10, t11, hF.at 0 rfl, hF.at 1 rfl, hF.at 2 rfl]; done) | rfl | (simp only [go_sem, ↓reduceIte, Nat.reduceEqDiff, Nat.reduceAdd, Nat.reduceMul, Nat.reduceLeDiff, Nat.reduceLT, Int.reduceEq, Int.toNat_natCast, t1, t2, t3, t4, t5, t10, t11, hF.at 0 rfl, hF.at 1 rfl, hF.at 2 rfl]; rfl)), (by first | (simp only [go_sem, ↓reduceIte, Nat.reduceEqDiff, Nat.reduceAdd, Nat.reduceMul, Nat.reduceLeDiff, Nat.reduceLT, Int.reduceEq, Int.toNat_natCast, t1, t2, t3, t4, t5, t10, t11, hF.at 0 rfl, hF.at 1 rfl, hF.at 2 rfl]; done) | rfl | (simp only [go_sem, ↓reduceIte, Nat.reduceEqDiff, Nat.reduceAdd, Nat.reduceMul, Nat.reduceLeDiff, Nat.reduceLT, Int.reduceEq, Int.toNat_natCast, t1, t2, t3, t4, t5, t10, t11, hF.at 0 rfl, hF.at 1 rfl, hF.at 2 rfl]; rfl)), (by first | (simp only [go_sem, ↓reduceIte, Nat.reduceEqDiff, Nat.reduceAdd, Nat.reduceMul, Nat.reduceLeDiff, Nat.reduceLT, Int.reduceEq, Int.toNat_natCast, t1, t2, t3, t4, t5, t10, t11, hF.at 0 rfl, hF.at 1 rfl, hF.at 2 rfl]; done) | rfl | (simp only [go_sem, ↓reduceIte, Nat.reduceEqDiff, Nat.reduceAdd, Nat.reduceMul, Nat.reduceLeDiff, Nat.reduceLT, Int.reduceEq, Int.toNat_natCast, t1, t2, t3, t4, t5, t10, t11, hF.at 0 rfl, hF.at 1 rfl, hF.at 2 rfl]; rfl)), (by first | (simp only [go_sem, ↓reduceIte, Nat.reduceEqDiff, Nat.reduceAdd, Nat.reduceMul, Nat.reduceLeDiff, Nat.reduceLT, Int.reduceEq, Int.toNat_natCast, t1, t2, t3, t4, t5, t10, t11, hF.at 0 rfl, hF.at 1 rfl, hF.at 2 rfl]; done) | rfl | (simp only [go_sem, ↓reduceIte, Nat.reduceEqDiff, Nat.reduceAdd, Nat.reduceMul, Nat.reduceLeDiff, Nat.reduceLT, Int.reduceEq, Int.toNat_natCast, t1, t2, t3, t4, t5, t10, t11, hF.at 0 rfl, hF.at 1 rfl, hF.at 2 rfl]; rfl)), (by first | (simp only [go_sem, ↓reduceIte, Nat.reduceEqDiff, Nat.reduceAdd, Nat.reduceMul, Nat.reduceLeDiff, Nat.reduceLT, Int.reduceEq, Int.toNat_natCast, t1, t2, t3, t4, t5, t10, t11, hF.at 0 rfl, hF.at 1 rfl, hF.at 2 rfl]; done) | rfl | (simp only [go_sem, ↓reduceIte, Nat.reduceEqDiff, Nat.reduceAdd, Nat.reduceMul, Nat.reduceLeDiff, Nat.reduceLT, Int.reduceEq, Int.toNat_natCast, t1, t2, t3, t4, t5, t10, t11, hF.at 0 rfl, hF.at 1 rfl, hF.at 2 rfl]; rfl)), hF⟩
      · rw [if_neg h] at j25
        try simp only [go_sem, ↓reduceIte, Nat.reduceEqDiff, Nat.reduceAdd, Nat.reduceMul, Nat.reduceLeDiff, Nat.reduceLT, Int.reduceEq, Int.toNat_natCast, t1, t2, t3, t4, t5, t10, t11, hF.at 0 rfl, hF.at 1 rfl, hF.at 2 rfl]
        have e := pur j25
        subst e
        exact ⟨_, _, rfl, (by first | (simp only [go_sem, ↓reduceIte, Nat.reduceEqDiff, Nat.reduceAdd, Nat.reduceMul, Nat.reduceLeDiff, Nat.reduceLT, Int.reduceEq, Int.toNat_natCast, t1, t2, t3, t4, t5, t10, t11, hF.at 0 rfl, hF.at 1 rfl, hF.at 2 rfl]; done) | rfl | (simp only [go_sem, ↓reduceIte, Nat.reduceEqDiff, Nat.reduceAdd, Nat.reduceMul, Nat.reduceLeDiff, Nat.reduceLT, Int.reduceEq, Int.toNat_natCast, t1, t2, t3, t4, t5, t10, t11, hF.at 0 rfl, hF.at 1 rfl, hF.at 2 rfl]; rfl)), (by first | (simp only [go_sem, ↓reduceIte, Nat.reduceEqDiff, Nat.reduceAdd, Nat.reduceMul, Nat.reduceLeDiff, Nat.reduceLT, Int.reduceEq, Int.toNat_natCast, t1, t2, t3, t4, t5, t10, t11, hF.at 0 rfl, hF.at 1 rfl, hF.at 2 rfl]; done) | rfl | (simp only [go_sem, ↓reduceIte, Nat.reduceEqDiff, Nat.reduceAdd, Nat.reduceMul, Nat.reduceLeDiff, Nat.reduceLT, Int.reduceEq, Int.toNat_natCast, t1, t2, t3, t4, t5, t10, t11, hF.at 0 rfl, hF.at 1 rfl, hF.at 2 rfl]; rfl)), (by first | (simp only [go_sem, ↓reduceIte, Nat.reduceEqDiff, Nat.reduceAdd, Nat.reduceMul, Nat.reduceLeDiff, Nat.reduceLT, Int.reduceEq, Int.toNat_natCast, t1, t2, t3, t4, t5, t10, t11, hF.at 0 rfl, hF.at 1 rfl, hF.at 2 rfl]; done) | rfl | (simp only [go_sem, ↓reduceIte, Nat.reduceEqDiff, Nat.reduceAdd, Nat.reduceMul, Nat.reduceLeDiff, Nat.reduceLT, Int.reduceEq, Int.toNat_natCast, t1, t2, t3, t4, t5, t10, t11, hF.at 0 rfl, hF.at 1 rfl, hF.at 2 rfl]; rfl)), (by first | (simp only [go_sem, ↓reduceIte, Nat.reduceEqDiff, Nat.reduceAdd, Nat.reduceMul, Nat.reduceLeDiff, Nat.reduceLT, Int.reduceEq, Int.toNat_natCast, t1, t2, t3, t4, t5, t10, t11, hF.at 0 rfl, hF.at 1 rfl, hF.at 2 rfl]; done) | rfl | (simp only [go_sem, ↓reduceIte, Nat.reduceEqDiff, Nat.reduceAdd, Nat.reduceMul, Nat.reduceLeDiff, Nat.reduceLT, Int.reduceEq, Int.toNat_natCast, t1, t2, t3, t4, t5, t10, t11, hF.at 0 rfl, hF.at 1 rfl, hF.at 2 rfl]; rfl)), (by first | (simp only [go_sem, ↓reduceIte, Nat.reduceEqDiff, Nat.reduceAdd, Nat.reduceMul, Nat.reduceLeDiff, Nat.reduceLT, Int.reduceEq, Int.toNat_natCast, t1, t2, t3, t4, t5, t10, t11, hF.at 0 rfl, hF.at 1 rfl, hF.at 2 rfl]; done) | rfl | (simp only [go_sem, ↓reduceIte, Nat.reduceEqDiff, Nat.reduceAdd, Nat.reduceMul, Nat.reduceLeDiff, Nat.reduceLT, Int.reduceEq, Int.toNat_natCast, t1, t2, t3, t4, t5, t10, t11, hF.at 0 rfl, hF.at 1 rfl, hF.at 2 rfl]; rfl)), (by first | (simp only [go_sem, ↓reduceIte, Nat.reduceEqDiff, Nat.reduceAdd, Nat.reduceMul, Nat.reduceLeDiff, Nat.reduceLT, Int.reduceEq, Int.toNat_natCast, t1, t2, t3, t4, t5, t10, t11, hF.at 0 rfl, hF.at 1 rfl, hF.at 2 rfl]; done) | rfl | (simp only [go_sem, ↓reduceIte, Nat.reduceEqDiff, Nat.reduceAdd, Nat.reduceMul, Nat.reduceLeDiff, Nat.reduceLT, Int.reduceEq, Int.toNat_natCast, t1, t2, t3, t4, t5, t10, t11, hF.at 0 rfl, hF.at 1 rfl, hF.at 2 rfl]; rfl)), (by first | (simp only [go_sem, ↓reduceIte, Nat.reduceEqDiff, Nat.reduceAdd, Nat.reduceMul, Nat.reduceLeDiff, Nat.reduceLT, Int.reduceEq, Int.toNat_natCast, t1, t2, t3, t4, t5, t10, t11, hF.at 0 rfl, hF.at 1 rfl, hF.at 2 rfl]; done) | rfl | (simp only [go_sem, ↓reduceIte, Nat.reduceEqDiff, Nat.reduceAdd, Nat.reduceMul, Nat.reduceLeDiff, Nat.reduceLT, Int.reduceEq, Int.toNat_natCast, t1, t2, t3, t4, t5, t10, t11, hF.at 0 rfl, hF.at 1 rfl, hF.at 2 rfl]; rfl)), hF⟩
      · rintro s' ⟨T26, σ27, rfl, t1, t2, t3, t4, t5, t10, t11, hF⟩
        have hF := hF.nil 26 5
        try simp only [go_sem, ↓reduceIte, Nat.reduceEqDiff, Nat.reduceAdd, Nat.reduceMul, Nat.reduceLeDiff, Nat.reduceLT, Int.reduceEq, Int.toNat_natCast, t1, t2, t3, t4, t5, t10, t11, hF.at 0 rfl, hF.at 1 rfl, hF.at 2 rfl, hF.cells 0 rfl, hF.len 0 rfl]
        obtain ⟨o32, ho32, H⟩ := bnd H
        refine L0 a0 x22 y14c_2_1 y24t_4 [] 0 _ ho32 _ rfl _ _ b1 b3 b5 ?_ ?_ _ _ .nilsl (by first | (simp only [go_sem, ↓reduceIte, Nat.reduceEqDiff, Nat.reduceAdd, Nat.reduceMul, Nat.reduceLeDiff, Nat.reduceLT, Int.reduceEq, Int.toNat_natCast, t1, t2, t3, t4, t5, t10, t11, hF.at 0 rfl, hF.at 1 rfl, hF.at 2 rfl, hF.cells 0 rfl, hF.len 0 rfl]; done) | rfl | (simp only [go_sem, ↓reduceIte, Nat.reduceEqDiff, Nat.reduceAdd, Nat.reduceMul, Nat.reduceLeDiff, Nat.reduceLT, Int.reduceEq, Int.toNat_natCast, t1, t2, t3, t4, t5, t10, t11, hF.at 0 rfl, hF.at 1 rfl, hF.at 2 rfl, hF.cells 0 rfl, hF.len 0 rfl]; rfl)) (by first | (simp only [go_sem, ↓reduceIte, Nat.reduceEqDiff, Nat.reduceAdd, Nat.reduceMul, Nat.reduceLeDiff, Nat.reduceLT, Int.reduceEq, Int.toNat_natCast, t1, t2, t3, t4, t5, t10, t11, hF.at 0 rfl, hF.at 1 rfl, hF.at 2 rfl, hF.cells 0 rfl, hF.len 0 rfl]; done) | rfl | (simp only [go_sem, ↓reduceIte, Nat.reduceEqDiff, Nat.reduceAdd, Nat.reduceMul, Nat.reduceLeDiff, Nat.reduceLT, Int.reduceEq, Int.toNat_natCast, t1, t2, t3, t4, t5, t10, t11, hF.at 0 rfl, hF.at 1 rfl, hF.at 2 rfl, hF.cells 0 rfl, hF.len 0 rfl]; rfl)) (by first | (simp only [go_sem, ↓reduceIte, Nat.reduceEqDiff, Nat.reduceAdd, Nat.reduceMul, Nat.reduceLeDiff, Nat.reduceLT, Int.reduceEq, Int.toNat_natCast, t1, t2, t3, t4, t5, t10, t11, hF.at 0 rfl, hF.at 1 rfl, hF.at 2 rfl, hF.cells 0 rfl, hF.len 0 rfl]; done) | rfl | (simp only [go_sem, ↓reduceIte, Nat.reduceEqDiff, Nat.reduceAdd, Nat.reduceMul, Nat.reduceLeDiff, Nat.reduceLT, Int.reduceEq, Int.toNat_natCast, t1, t2, t3, t4, t5, t10, t11, hF.at 0 rfl, hF.at 1 rfl, hF.at 2 rfl, hF.cells 0 rfl, hF.len 0 rfl]; rfl)) (by first | (simp only [go_sem, ↓reduceIte, Nat.reduceEqDiff, Nat.reduceAdd, Nat.reduceMul, Nat.reduceLeDiff, Nat.reduceLT, Int.reduceEq, Int.toNat_natCast, t1, t2, t3, t4, t5, t10, t11, hF.at 0 rfl, hF.at 1 rfl, hF.at 2 rfl, hF.cells 0 rfl, hF.len 0 rfl]; done) | rfl | (simp only [go_sem, ↓reduceIte, Nat.reduceEqDiff, Nat.reduceAdd, Nat.reduceMul, Nat.reduceLeDiff, Nat.reduceLT, Int.reduceEq, Int.toNat_natCast, t1, t2, t3, t4, t5, t10, t11, hF.at 0 rfl, hF.at 1 rfl, hF.at 2 rfl, hF.cells 0 rfl, hF.len 0 rfl]; rfl)) (by first | (simp only [go_sem, ↓reduceIte, Nat.reduceEqDiff, Nat.reduceAdd, Nat.reduceMul, Nat.reduceLeDiff, Nat.reduceLT, Int.reduceEq, Int.toNat_natCast, t1, t2, t3, t4, t5, t10, t11, hF.at 0 rfl, hF.at 1 rfl, hF.at 2 rfl, hF.cells 0 rfl, hF.len 0 rfl]; done) | rfl | (simp only [go_sem, ↓reduceIte, Nat.reduceEqDiff, Nat.reduceAdd, Nat.reduceMul, Nat.reduceLeDiff, Nat.reduceLT, Int.reduceEq, Int.toNat_natCast, t1, t2, t3, t4, t5, t10, t11, hF.at 0 rfl, hF.at 1 rfl, hF.at 2 rfl, hF.cells 0 rfl, hF.len 0 rfl]; rfl)) (by first | (simp only [go_sem, ↓reduceIte, Nat.reduceEqDiff, Nat.reduceAdd, Nat.reduceMul, Nat.reduceLeDiff, Nat.reduceLT, Int.reduceEq, Int.toNat_natCast, t1, t2, t3, t4, t5, t10, t11, hF.at 0 rfl, hF.at 1 rfl, hF.at 2 rfl, hF.cells 0 rfl, hF.len 0 rfl]; done) | rfl | (simp only [go_sem, ↓reduceIte, Nat.reduceEqDiff, Nat.reduceAdd, Nat.reduceMul, Nat.reduceLeDiff, Nat.reduceLT, Int.reduceEq, Int.toNat_natCast, t1, t2, t3, t4, t5, t10, t11, hF.at 0 rfl, hF.at 1 rfl, hF.at 2 rfl, hF.cells 0 rfl, hF.len 0 rfl]; rfl)) (by first | (simp only [go_sem, ↓reduceIte, Nat.reduceEqDiff, Nat.reduceAdd, Nat.reduceMul, Nat.reduceLeDiff, Nat.reduceLT, Int.reduceEq, Int.toNat_natCast, t1, t2, t3, t4, t5, t10, t11, hF.at 0 rfl, hF.at 1 rfl, hF.at 2 rfl, hF.cells 0 rfl, hF.len 0 rfl]; done) | rfl | (simp only [go_sem, ↓reduceIte, Nat.reduceEqDiff, Nat.reduceAdd, Nat.reduceMul, Nat.reduceLeDiff, Nat.reduceLT, Int.reduceEq, Int.toNat_natCast, t1, t2, t3, t4, t5, t10, t11, hF.at 0 rfl, hF.at 1 rfl, hF.at 2 rfl, hF.cells 0 rfl, hF.len 0 rfl]; rfl)) (by first | (simp only [go_sem, ↓reduceIte, Nat.reduceEqDiff, Nat.reduceAdd, Nat.reduceMul, Nat.reduceLeDiff, Nat.reduceLT, Int.reduceEq, Int.toNat_natCast, t1, t2, t3, t4, t5, t10, t11, hF.at 0 rfl, hF.at 1 rfl, hF.at 2 rfl, hF.cells 0 rfl, hF.len 0 rfl]; done) | rfl | (simp only [go_sem, ↓reduceIte, Nat.reduceEqDiff, Nat.reduceAdd, Nat.reduceMul, Nat.reduceLeDiff, Nat.reduceLT, Int.reduceEq, Int.toNat_natCast, t1, t2, t3, t4, t5, t10, t11, hF.at 0 rfl, hF.at 1 rfl, hF.at 2 rfl, hF.cells 0 rfl, hF.len 0 rfl]; rfl)) hF
        · intro e33o_0 he T34 σ35 e33v0 t10 t11 hF
          have he := he.symm
          subst he
          try simp only [go_sem, ↓reduceIte, Nat.reduceEqDiff, Nat.reduceAdd, Nat.reduceMul, Nat.reduceLeDiff, Nat.reduceLT, Int.reduceEq, Int.toNat_natCast, t10, t11, hF.at 0 rfl, hF.at 1 rfl, hF.at 2 rfl, hF.cells 0 rfl, hF.len 0 rfl]
          refine fx_store hF 1 (cells' := [.int .i64 a0.kind, .str y14c_2_1, .int .i64 a0.num, .sl false (rws cI x22), e33v0]) rfl rfl rfl (by simp only [List.length_cons, List.length_nil]; decide) (by first | rfl | simp [splice_eq]) fun σ37 hF => ?_
          try simp only [go_sem, ↓reduceIte, Nat.reduceEqDiff, Nat.reduceAdd, Nat.reduceMul, Nat.reduceLeDiff, Nat.reduceLT, Int.reduceEq, Int.toNat_natCast, t10, t11, hF.at 0 rfl, hF.at 1 rfl, hF.at 2 rfl, hF.cells 0 rfl, hF.len 0 rfl]
          have e := pur H; subst e
          exact fx_ret (vs := [.agg [.int .i64 a0.kind, .str y14c_2_1, .int .i64 a0.num, .sl false (rws cI x22), e33v0]]) (by first | (simp only [go_sem, ↓reduceIte, Nat.reduceEqDiff, Nat.reduceAdd, Nat.reduceMul, Nat.reduceLeDiff, Nat.reduceLT, Int.reduceEq, Int.toNat_natCast, t10, t11, hF.at 0 rfl, hF.at 1 rfl, hF.at 2 rfl, hF.cells 0 rfl, hF.len 0 rfl]; done) | rfl | (simp only [go_sem, ↓reduceIte, Nat.reduceEqDiff, Nat.reduceAdd, Nat.reduceMul, Nat.reduceLeDiff, Nat.reduceLT, Int.reduceEq, Int.toNat_natCast, t10, t11, hF.at 0 rfl, hF.at 1 rfl, hF.at 2 rfl, hF.cells 0 rfl, hF.len 0 rfl]; rfl)) (by (try simp only [Fm.cells_eq]); exact Wk.agg hF.sub (.cons (hF.wk0 _) id (.cons (hF.wk0 _) id (.cons (hF.wk0 _) id (.cons (hF.wk0 _) id (.cons (hF.wk 0 rfl) (fun _ => rfl) .nil))))))
        · trivial
  · intro spec_l9Rename spec_l9Rename_l0 C0 L0 a0 x22 y14c_2_1 y24t_4 z0o_0 z0t_12 out H c hc Q τ b1 b3 b5 hE hR T σ z0v0 t1 t2 t3 t4 t5 t10 t11 t12 hF
    obtain rfl := Option.some.inj ((rfl : loopAt Try.f29 0 = some _).symm.trans hc)
    refine aLoop_round ?_
    try simp only [go_sem, ↓reduceIte, Nat.reduceEqDiff, Nat.reduceAdd, Nat.reduceMul, Nat.reduceLeDiff, Nat.reduceLT, Int.reduceEq, Int.toNat_natCast, t1, t2, t3, t4, t5, t10, t11, t12, hF.at 0 rfl, hF.at 1 rfl, hF.at 2 rfl, hF.cells 0 rfl, hF.len 0 rfl]
    refine aCnd_p (z0t_12 < (a0.kids.length : Int)) rfl (fun h => ?_) (fun h => ?_)
    · rw [if_pos h] at H
      try simp only [go_sem, ↓reduceIte, Nat.reduceEqDiff, Nat.reduceAdd, Nat.reduceMul, Nat.reduceLeDiff, Nat.reduceLT, Int.reduceEq, Int.toNat_natCast, t1, t2, t3, t4, t5, t10, t11, t12, hF.at 0 rfl, hF.at 1 rfl, hF.at 2 rfl, hF.cells 0 rfl, hF.len 0 rfl]
      refine draw_text E0 [.v, .v, .v, .v, .v, .v, .v, .v, .v, .v, .v, .v, .v, .x, .v, .z] (by kernel_rfl) ?_
      obtain ⟨x74, hx74, H⟩ := bnd H
      try simp only [go_sem, ↓reduceIte, Nat.reduceEqDiff, Nat.reduceAdd, Nat.reduceMul, Nat.reduceLeDiff, Nat.reduceLT, Int.reduceEq, Int.toNat_natCast, t1, t2, t3, t4, t5, t10, t11, t12, hF.at 0 rfl, hF.at 1 rfl, hF.at 2 rfl, hF.cells 0 rfl, hF.len 0 rfl, aidx_idx (g := Fm.cells) Fm.cells_len hx74]
      obtain ⟨x80, hx80, H⟩ := bnd H
      refine vCall_pure (C0 x74 y24t_4 _ hx80) (by (try simp only [Fm.cells_eq]); exact WkVL.refl _) ?_
      try simp only [go_sem, ↓reduceIte, Nat.reduceEqDiff, Nat.reduceAdd, Nat.reduceMul, Nat.reduceLeDiff, Nat.reduceLT, Int.reduceEq, Int.toNat_natCast, t1, t2, t3, t4, t5, t10, t11, t12, hF.at 0 rfl, hF.at 1 rfl, hF.at 2 rfl, hF.cells 0 rfl, hF.len 0 rfl]
      obtain ⟨x82, hx82, H⟩ := bnd H
      refine fx_appK hF 0 (g := Fm.cells) (xs := z0o_0) (ys := [x80]) rfl (by decide) (by decide) (RdL.of (c := true) Fm.cells_len (by first | rfl | simp only [rws_cons, rws_nil, cI, cU, cS, cL, Fm.cells_eq])) hx82 fun v29 σ30 hF => ?_
      try simp only [go_sem, ↓reduceIte, Nat.reduceEqDiff, Nat.reduceAdd, Nat.reduceMul, Nat.reduceLeDiff, Nat.reduceLT, Int.reduceEq, Int.toNat_natCast, t1, t2, t3, t4, t5, t10, t11, t12, hF.at 0 rfl, hF.at 1 rfl, hF.at 2 rfl, hF.cells 0 rfl, hF.len 0 rfl]
      refine fx_store hF 0 (cells' := [.int .i64 a0.kind, .str y14c_2_1, .int .i64 a0.num, .sl false (rws cI x22), v29]) rfl (hF.cells 0 rfl) rfl (by simp only [List.length_cons, List.length_nil]; decide) (by first | rfl | simp [splice_eq]) fun σ31 hF => ?_
      try simp only [go_sem, ↓reduceIte, Nat.reduceEqDiff, Nat.reduceAdd, Nat.reduceMul, Nat.reduceLeDiff, Nat.reduceLT, Int.reduceEq, Int.toNat_natCast, t1, t2, t3, t4, t5, t10, t11, t12, hF.at 0 rfl, hF.at 1 rfl, hF.at 2 rfl, hF.cells 0 rfl, hF.len 0 rfl]
      exact L0 a0 x22 y14c_2_1 y24t_4 x82 (IntKind.i64.wrap (z0t_12 + 1)) _ H _ rfl Q τ b1 b3 b5 hE hR _ _ v29 (by first | (simp only [go_sem, ↓reduceIte, Nat.reduceEqDiff, Nat.reduceAdd, Nat.reduceMul, Nat.reduceLeDiff, Nat.reduceLT, Int.reduceEq, Int.toNat_natCast, t1, t2, t3, t4, t5, t10, t11, t12, hF.at 0 rfl, hF.at 1 rfl, hF.at 2 rfl, hF.cells 0 rfl, hF.len 0 rfl]; done) | rfl | (simp only [go_sem, ↓reduceIte, Nat.reduceEqDiff, Nat.reduceAdd, Nat.reduceMul, Nat.reduceLeDiff, Nat.reduceLT, Int.reduceEq, Int.toNat_natCast, t1, t2, t3, t4, t5, t10, t11, t12, hF.at 0 rfl, hF.at 1 rfl, hF.at 2 rfl, hF.cells 0 rfl, hF.len 0 rfl]; rfl)) (by first | (simp only [go_sem, ↓reduceIte, Nat.reduceEqDiff, Nat.reduceAdd, Nat.reduceMul, Nat.reduceLeDiff, Nat.reduceLT, Int.reduceEq, Int.toNat_natCast, t1, t2, t3, t4, t5, t10, t11, t12, hF.at 0 rfl, hF.at 1 rfl, hF.at 2 rfl, hF.cells 0 rfl, hF.len 0 rfl]; done) | rfl | (simp only [go_sem, ↓reduceIte, Nat.reduceEqDiff, Nat.reduceAdd, Nat.reduceMul, Nat.reduceLeDiff, Nat.reduceLT, Int.reduceEq, Int.toNat_natCast, t1, t2, t3, t4, t5, t10, t11, t12, hF.at 0 rfl, hF.at 1 rfl, hF.at 2 rfl, hF.cells 0 rfl, hF.len 0 rfl]; rfl)) (by first | (simp only [go_sem, ↓reduceIte, Nat.reduceEqDiff, Nat.reduceAdd, Nat.reduceMul, Nat.reduceLeDiff, Nat.reduceLT, Int.reduceEq, Int.toNat_natCast, t1, t2, t3, t4, t5, t10, t11, t12, hF.at 0 rfl, hF.at 1 rfl, hF.at 2 rfl, hF.cells 0 rfl, hF.len 0 rfl]; done) | rfl | (simp only [go_sem, ↓reduceIte, Nat.reduceEqDiff, Nat.reduceAdd, Nat.reduceMul, Nat.reduceLeDiff, Nat.reduceLT, Int.reduceEq, Int.toNat_natCast, t1, t2, t3, t4, t5, t10, t11, t12, hF.at 0 rfl, hF.at 1 rfl, hF.at 2 rfl, hF.cells 0 rfl, hF.len 0 rfl]; rfl)) (by first | (simp only [go_sem, ↓reduceIte, Nat.reduceEqDiff, Nat.reduceAdd, Nat.reduceMul, Nat.reduceLeDiff, Nat.reduceLT, Int.reduceEq, Int.toNat_natCast, t1, t2, t3, t4, t5, t10, t11, t12, hF.at 0 rfl, hF.at 1 rfl, hF.at 2 rfl, hF.cells 0 rfl, hF.len 0 rfl]; done) | rfl | (simp only [go_sem, ↓reduceIte, Nat.reduceEqDiff, Nat.reduceAdd, Nat.reduceMul, Nat.reduceLeDiff, Nat.reduceLT, Int.reduceEq, Int.toNat_natCast, t1, t2, t3, t4, t5, t10, t11, t12, hF.at 0 rfl, hF.at 1 rfl, hF.at 2 rfl, hF.cells 0 rfl, hF.len 0 rfl]; rfl)) (by first | (simp only [go_sem, ↓reduceIte, Nat.reduceEqDiff, Nat.reduceAdd, Nat.reduceMul, Nat.reduceLeDiff, Nat.reduceLT, Int.reduceEq, Int.toNat_natCast, t1, t2, t3, t4, t5, t10, t11, t12, hF.at 0 rfl, hF.at 1 rfl, hF.at 2 rfl, hF.cells 0 rfl, hF.len 0 rfl]; done) | rfl | (simp only [go_sem, ↓reduceIte, Nat.reduceEqDiff, Nat.reduceAdd, Nat.reduceMul, Nat.reduceLeDiff, Nat.reduceLT, Int.reduceEq, Int.toNat_natCast, t1, t2, t3, t4, t5, t10, t11, t12, hF.at 0 rfl, hF.at 1 rfl, hF.at 2 rfl, hF.cells 0 rfl, hF.len 0 rfl]; rfl)) (by first | (simp only [go_sem, ↓reduceIte, Nat.reduceEqDiff, Nat.reduceAdd, Nat.reduceMul, Nat.reduceLeDiff, Nat.reduceLT, Int.reduceEq, Int.toNat_natCast, t1, t2, t3, t4, t5, t10, t11, t12, hF.at 0 rfl, hF.at 1 rfl, hF.at 2 rfl, hF.cells 0 rfl, hF.len 0 rfl]; done) | rfl | (simp only [go_sem, ↓reduceIte, Nat.reduceEqDiff, Nat.reduceAdd, Nat.reduceMul, Nat.reduceLeDiff, Nat.reduceLT, Int.reduceEq, Int.toNat_natCast, t1, t2, t3, t4, t5, t10, t11, t12, hF.at 0 rfl, hF.at 1 rfl, hF.at 2 rfl, hF.cells 0 rfl, hF.len 0 rfl]; rfl)) (by first | (simp only [go_sem, ↓reduceIte, Nat.reduceEqDiff, Nat.reduceAdd, Nat.reduceMul, Nat.reduceLeDiff, Nat.reduceLT, Int.reduceEq, Int.toNat_natCast, t1, t2, t3, t4, t5, t10, t11, t12, hF.at 0 rfl, hF.at 1 rfl, hF.at 2 rfl, hF.cells 0 rfl, hF.len 0 rfl]; done) | rfl | (simp only [go_sem, ↓reduceIte, Nat.reduceEqDiff, Nat.reduceAdd, Nat.reduceMul, Nat.reduceLeDiff, Nat.reduceLT, Int.reduceEq, Int.toNat_natCast, t1, t2, t3, t4, t5, t10, t11, t12, hF.at 0 rfl, hF.at 1 rfl, hF.at 2 rfl, hF.cells 0 rfl, hF.len 0 rfl]; rfl)) (by first | (simp only [go_sem, ↓reduceIte, Nat.reduceEqDiff, Nat.reduceAdd, Nat.reduceMul, Nat.reduceLeDiff, Nat.reduceLT, Int.reduceEq, Int.toNat_natCast, t1, t2, t3, t4, t5, t10, t11, t12, hF.at 0 rfl, hF.at 1 rfl, hF.at 2 rfl, hF.cells 0 rfl, hF.len 0 rfl]; done) | rfl | (simp only [go_sem, ↓reduceIte, Nat.reduceEqDiff, Nat.reduceAdd, Nat.reduceMul, Nat.reduceLeDiff, Nat.reduceLT, Int.reduceEq, Int.toNat_natCast, t1, t2, t3, t4, t5, t10, t11, t12, hF.at 0 rfl, hF.at 1 rfl, hF.at 2 rfl, hF.cells 0 rfl, hF.len 0 rfl]; rfl)) hF
    · rw [if_neg h] at H
      try simp only [go_sem, ↓reduceIte, Nat.reduceEqDiff, Nat.reduceAdd, Nat.reduceMul, Nat.reduceLeDiff, Nat.reduceLT, Int.reduceEq, Int.toNat_natCast, t1, t2, t3, t4, t5, t10, t11, t12, hF.at 0 rfl, hF.at 1 rfl, hF.at 2 rfl, hF.cells 0 rfl, hF.len 0 rfl]
      exact hE _ (pur H).symm _ _ z0v0 (by first | (simp only [go_sem, ↓reduceIte, Nat.reduceEqDiff, Nat.reduceAdd, Nat.reduceMul, Nat.reduceLeDiff, Nat.reduceLT, Int.reduceEq, Int.toNat_natCast, t1, t2, t3, t4, t5, t10, t11, t12, hF.at 0 rfl, hF.at 1 rfl, hF.at 2 rfl, hF.cells 0 rfl, hF.len 0 rfl]; done) | rfl | (simp only [go_sem, ↓reduceIte, Nat.reduceEqDiff, Nat.reduceAdd, Nat.reduceMul, Nat.reduceLeDiff, Nat.reduceLT, Int.reduceEq, Int.toNat_natCast, t1, t2, t3, t4, t5, t10, t11, t12, hF.at 0 rfl, hF.at 1 rfl, hF.at 2 rfl, hF.cells 0 rfl, hF.len 0 rfl]; rfl)) (by first | (simp only [go_sem, ↓reduceIte, Nat.reduceEqDiff, Nat.reduceAdd, Nat.reduceMul, Nat.reduceLeDiff, Nat.reduceLT, Int.reduceEq, Int.toNat_natCast, t1, t2, t3, t4, t5, t10, t11, t12, hF.at 0 rfl, hF.at 1 rfl, hF.at 2 rfl, hF.cells 0 rfl, hF.len 0 rfl]; done) | rfl | (simp only [go_sem, ↓reduceIte, Nat.reduceEqDiff, Nat.reduceAdd, Nat.reduceMul, Nat.reduceLeDiff, Nat.reduceLT, Int.reduceEq, Int.toNat_natCast, t1, t2, t3, t4, t5, t10, t11, t12, hF.at 0 rfl, hF.at 1 rfl, hF.at 2 rfl, hF.cells 0 rfl, hF.len 0 rfl]; rfl)) hF
theorem spec_RenameName_ok : ∀ (a0 : Fm) (a1 : ByteArray) (a2 : ByteArray) r, spec_RenameName a0 a1 a2 = some r → PCtr Try.prog 14 [.agg (Fm.cells a0), .str a1, .str a2] (.tup [.agg (Fm.cells r.1), .bool r.2]) := by
  intro a0 a1 a2 r H
  intro σ
  unfold spec_RenameName at H
  refine ctr_of mixed Try.func14 rfl (by kernel_rfl) (rs := [.cell 6 26, .tmp 7]) rfl (by kernel_rfl) ?_
  have hF := Fx.refl σ
  have hX := Tau.none σ
  try simp only [go_sem, ↓reduceIte, Nat.reduceEqDiff, Nat.reduceAdd, Nat.reduceMul, Nat.reduceLeDiff, Nat.reduceLT, Int.reduceEq, Int.toNat_natCast]
  refine fx_alloc hF rfl fun b1 σ2 hF => ?_
  try simp only [go_sem, ↓reduceIte, Nat.reduceEqDiff, Nat.reduceAdd, Nat.reduceMul, Nat.reduceLeDiff, Nat.reduceLT, Int.reduceEq, Int.toNat_natCast, hF.at 0 rfl]
  refine fx_alloc hF rfl fun b3 σ4 hF => ?_
  try simp only [go_sem, ↓reduceIte, Nat.reduceEqDiff, Nat.reduceAdd, Nat.reduceMul, Nat.reduceLeDiff, Nat.reduceLT, Int.reduceEq, Int.toNat_natCast, hF.at 0 rfl, hF.at 1 rfl]
  obtain ⟨x9, hx9, H⟩ := bnd H
  refine aCall_pure (spec_FormValid_ok a0 _ hx9) (by (try simp only [Fm.cells_eq]); exact WkVL.refl _) ?_
  try simp only [go_sem, ↓reduceIte, Nat.reduceEqDiff, Nat.reduceAdd, Nat.reduceMul, Nat.reduceLeDiff, Nat.reduceLT, Int.reduceEq, Int.toNat_natCast, hF.at 0 rfl, hF.at 1 rfl]
  obtain ⟨x15, g5, H⟩ := bnd H
  refine aGd_cutN 3 12 15 (.bool x15) (aGd_introN (fun q6 => ?_) (fun q6 => ?_)) (fun J => ?_)
  · rw [if_neg (b_f q6)] at g5
    try simp only [go_sem, ↓reduceIte, Nat.reduceEqDiff, Nat.reduceAdd, Nat.reduceMul, Nat.reduceLeDiff, Nat.reduceLT, Int.reduceEq, Int.toNat_natCast, q6, hF.at 0 rfl, hF.at 1 rfl]
    obtain ⟨x13, hx13, g5⟩ := bnd g5
    refine aCall_pure (spec_NameValid_ok a1 _ hx13) (WkVL.refl _) ?_
    try simp only [go_sem, ↓reduceIte, Nat.reduceEqDiff, Nat.reduceAdd, Nat.reduceMul, Nat.reduceLeDiff, Nat.reduceLT, Int.reduceEq, Int.toNat_natCast, q6, hF.at 0 rfl, hF.at 1 rfl]
    refine cut_done 12 (by have e := pur g5; subst e; (first | rfl | (simp only [go_sem, ↓reduceIte, Nat.reduceEqDiff, Nat.reduceAdd, Nat.reduceMul, Nat.reduceLeDiff, Nat.reduceLT, Int.reduceEq, Int.toNat_natCast, q6]; done) | (simp only [go_sem, ↓reduceIte, Nat.reduceEqDiff, Nat.reduceAdd, Nat.reduceMul, Nat.reduceLeDiff, Nat.reduceLT, Int.reduceEq, Int.toNat_natCast, q6]; simp_all [upd_app]) | simp_all [upd_app])) ?_
    (repeat (first | refine agree_upd (by decide) ?_ | refine agree_low (by decide) ?_)) <;> (repeat (first | refine agree_updR (by decide) ?_ | refine agree_lowR (by decide) ?_)) <;> exact fun _ _ _ => rfl
  · rw [if_pos (q6)] at g5
    try simp only [go_sem, ↓reduceIte, Nat.reduceEqDiff, Nat.reduceAdd, Nat.reduceMul, Nat.reduceLeDiff, Nat.reduceLT, Int.reduceEq, Int.toNat_natCast, q6, hF.at 0 rfl, hF.at 1 rfl]
    refine cut_done 12 (by have e := pur g5; subst e; (first | rfl | (simp only [go_sem, ↓reduceIte, Nat.reduceEqDiff, Nat.reduceAdd, Nat.reduceMul, Nat.reduceLeDiff, Nat.reduceLT, Int.reduceEq, Int.toNat_natCast, q6]; done) | (simp only [go_sem, ↓reduceIte, Nat.reduceEqDiff, Nat.reduceAdd, Nat.reduceMul, Nat.reduceLeDiff, Nat.reduceLT, Int.reduceEq, Int.toNat_natCast, q6]; simp_all [upd_app]) | simp_all [upd_app])) ?_
    (repeat (first | refine agree_upd (by decide) ?_ | refine agree_low (by decide) ?_)) <;> (repeat (first | refine agree_updR (by decide) ?_ | refine agree_lowR (by decide) ?_)) <;> exact fun _ _ _ => rfl
  try simp only [go_sem, ↓reduceIte, Nat.reduceEqDiff, Nat.reduceAdd, Nat.reduceMul, Nat.reduceLeDiff, Nat.reduceLT, Int.reduceEq, Int.toNat_natCast, hF.at 0 rfl, hF.at 1 rfl]
  obtain ⟨x20, g7, H⟩ := bnd H
  refine aGd_cutN 3 17 20 (.bool x20) (aGd_introN (fun q8 => ?_) (fun q8 => ?_)) (fun J => ?_)
  · rw [if_neg (b_f q8)] at g7
    try simp only [go_sem, ↓reduceIte, Nat.reduceEqDiff, Nat.reduceAdd, Nat.reduceMul, Nat.reduceLeDiff, Nat.reduceLT, Int.reduceEq, Int.toNat_natCast, q8, hF.at 0 rfl, hF.at 1 rfl]
    obtain ⟨x18, hx18, g7⟩ := bnd g7
    refine aCall_pure (spec_NameValid_ok a2 _ hx18) (WkVL.refl _) ?_
    try simp only [go_sem, ↓reduceIte, Nat.reduceEqDiff, Nat.reduceAdd, Nat.reduceMul, Nat.reduceLeDiff, Nat.reduceLT, Int.reduceEq, Int.toNat_natCast, q8, hF.at 0 rfl, hF.at 1 rfl]
    refine cut_done 17 (by have e := pur g7; subst e; (first | rfl | (simp only [go_sem, ↓reduceIte, Nat.reduceEqDiff, Nat.reduceAdd, Nat.reduceMul, Nat.reduceLeDiff, Nat.reduceLT, Int.reduceEq, Int.toNat_natCast, q8]; done) | (simp only [go_sem, ↓reduceIte, Nat.reduceEqDiff, Nat.reduceAdd, Nat.reduceMul, Nat.reduceLeDiff, Nat.reduceLT, Int.reduceEq, Int.toNat_natCast, q8]; simp_all [upd_app]) | simp_all [upd_app])) ?_
    (repeat (first | refine agree_upd (by decide) ?_ | refine agree_low (by decide) ?_)) <;> (repeat (first | refine agree_updR (by decide) ?_ | refine agree_lowR (by decide) ?_)) <;> exact fun _ _ _ => rfl
  · rw [if_pos (q8)] at g7
    try simp only [go_sem, ↓reduceIte, Nat.reduceEqDiff, Nat.reduceAdd, Nat.reduceMul, Nat.reduceLeDiff, Nat.reduceLT, Int.reduceEq, Int.toNat_natCast, q8, hF.at 0 rfl, hF.at 1 rfl]
    refine cut_done 17 (by have e := pur g7; subst e; (first | rfl | (simp only [go_sem, ↓reduceIte, Nat.reduceEqDiff, Nat.reduceAdd, Nat.reduceMul, Nat.reduceLeDiff, Nat.reduceLT, Int.reduceEq, Int.toNat_natCast, q8]; done) | (simp only [go_sem, ↓reduceIte, Nat.reduceEqDiff, Nat.reduceAdd, Nat.reduceMul, Nat.reduceLeDiff, Nat.reduceLT, Int.reduceEq, Int.toNat_natCast, q8]; simp_all [upd_app]) | simp_all [upd_app])) ?_
    (repeat (first | refine agree_upd (by decide) ?_ | refine agree_low (by decide) ?_)) <;> (repeat (first | refine agree_updR (by decide) ?_ | refine agree_lowR (by decide) ?_)) <;> exact fun _ _ _ => rfl
  try simp only [go_sem, ↓reduceIte, Nat.reduceEqDiff, Nat.reduceAdd, Nat.reduceMul, Nat.reduceLeDiff, Nat.reduceLT, Int.reduceEq, Int.toNat_natCast, hF.at 0 rfl, hF.at 1 rfl]
  refine aCnd_b x20 rfl (fun h => ?_) (fun h => ?_)
  · rw [if_pos h] at H
    try simp only [go_sem, ↓reduceIte, Nat.reduceEqDiff, Nat.reduceAdd, Nat.reduceMul, Nat.reduceLeDiff, Nat.reduceLT, Int.reduceEq, Int.toNat_natCast, hF.at 0 rfl, hF.at 1 rfl]
    refine fx_store hF 0 (cells' := [.int .i64 0, .str (ByteArray.mk #[]), .int .i64 0, .nilsl, .nilsl]) rfl rfl rfl (by simp only [List.length_cons, List.length_nil]; decide) (by first | rfl | simp [splice_eq]) fun σ9 hF => ?_
    try simp only [go_sem, ↓reduceIte, Nat.reduceEqDiff, Nat.reduceAdd, Nat.reduceMul, Nat.reduceLeDiff, Nat.reduceLT, Int.reduceEq, Int.toNat_natCast, hF.at 0 rfl, hF.at 1 rfl]
    have e := pur H; subst e
    exact fx_ret (vs := [.agg [.int .i64 0, .str (ByteArray.mk #[]), .int .i64 0, .nilsl, .nilsl], .bool false]) (by first | (simp only [go_sem, ↓reduceIte, Nat.reduceEqDiff, Nat.reduceAdd, Nat.reduceMul, Nat.reduceLeDiff, Nat.reduceLT, Int.reduceEq, Int.toNat_natCast, hF.at 0 rfl, hF.at 1 rfl]; done) | rfl | (simp only [go_sem, ↓reduceIte, Nat.reduceEqDiff, Nat.reduceAdd, Nat.reduceMul, Nat.reduceLeDiff, Nat.reduceLT, Int.reduceEq, Int.toNat_natCast, hF.at 0 rfl, hF.at 1 rfl]; rfl)) (Wk.tup hF.sub (.cons (by (try simp only [Fm.cells_eq]); exact Wk.agg hF.sub (.cons (hF.wk0 _) id (.cons (hF.wk0 _) id (.cons (hF.wk0 _) id (.cons (Wk.val2 .nilsl hF.sub) (fun _ => rfl) (.cons (Wk.val2 .nilsl hF.sub) (fun _ => rfl) .nil)))))) (fun h => by first | exact h | rfl) (.cons (hF.wk0 _) (fun h => by first | exact h | rfl) .nil)))
  · rw [if_neg h] at H
    try simp only [go_sem, ↓reduceIte, Nat.reduceEqDiff, Nat.reduceAdd, Nat.reduceMul, Nat.reduceLeDiff, Nat.reduceLT, Int.reduceEq, Int.toNat_natCast, hF.at 0 rfl, hF.at 1 rfl]
    obtain ⟨x25, hx25, H⟩ := bnd H
    refine aCall_pure (spec_l9Rename_ok a0 a1 a2 false false _ hx25) (by (try simp only [Fm.cells_eq]); exact WkVL.refl _) ?_
    try simp only [go_sem, ↓reduceIte, Nat.reduceEqDiff, Nat.reduceAdd, Nat.reduceMul, Nat.reduceLeDiff, Nat.reduceLT, Int.reduceEq, Int.toNat_natCast, hF.at 0 rfl, hF.at 1 rfl]
    refine fx_store hF 0 (cells' := [.int .i64 x25.kind, .str x25.name, .int .i64 x25.num, .sl false (rws cI x25.sc), .sl false (rws Fm.cells x25.kids)]) rfl rfl rfl (by simp only [List.length_cons, List.length_nil]; decide) (by first | rfl | simp [splice_eq]) fun σ10 hF => ?_
    try simp only [go_sem, ↓reduceIte, Nat.reduceEqDiff, Nat.reduceAdd, Nat.reduceMul, Nat.reduceLeDiff, Nat.reduceLT, Int.reduceEq, Int.toNat_natCast, hF.at 0 rfl, hF.at 1 rfl]
    have e := pur H; subst e
    exact fx_ret (vs := [.agg [.int .i64 x25.kind, .str x25.name, .int .i64 x25.num, .sl false (rws cI x25.sc), .sl false (rws Fm.cells x25.kids)], .bool true]) (by first | (simp only [go_sem, ↓reduceIte, Nat.reduceEqDiff, Nat.reduceAdd, Nat.reduceMul, Nat.reduceLeDiff, Nat.reduceLT, Int.reduceEq, Int.toNat_natCast, hF.at 0 rfl, hF.at 1 rfl]; done) | rfl | (simp only [go_sem, ↓reduceIte, Nat.reduceEqDiff, Nat.reduceAdd, Nat.reduceMul, Nat.reduceLeDiff, Nat.reduceLT, Int.reduceEq, Int.toNat_natCast, hF.at 0 rfl, hF.at 1 rfl]; rfl)) (Wk.tup hF.sub (.cons (by (try simp only [Fm.cells_eq]); exact Wk.agg hF.sub (.cons (hF.wk0 _) id (.cons (hF.wk0 _) id (.cons (hF.wk0 _) id (.cons (hF.wk0 _) id (.cons (hF.wk0 _) id .nil)))))) (fun h => by first | exact h | rfl) (.cons (hF.wk0 _) (fun h => by first | exact h | rfl) .nil)))
theorem slices_Equal_int_int_l0_ok : ∀ (a0 : List Int) (a1 : List Int) (z0t_13 : Int) out, slices_Equal_int_int_l0 a0 a1 z0t_13 = some out → ∀ c, loopAt Try.f30 0 = some c → ∀ (Q : AX → AS → Prop) (τ : Sto), (∀ (_u : Unit), out = Sum.inr () → ∀ (T : Nat → AV) (σ : Sto), T 4 = .bool false → Fx τ σ [] [] → Q (.ex 0) ⟨T, σ⟩) → (∀ r, out = Sum.inl r → ∀ s', aRet Try.prog [.tmp 4] (fun r' σ' => r' = .bool r ∧ σ' = τ) s' → Q .ret s') → ∀ (T : Nat → AV) (σ : Sto), T 0 = .sl false (rws cI a0) → T 1 = .sl false (rws cI a1) → T 4 = .bool false → T 12 = .int .i64 (a0.length : Int) → T 13 = .int .i64 z0t_13 → Fx τ σ [] [] → aLoop (acode Try.prog c) Q ⟨T, σ⟩ := by
  intro a0 a1 z0t_13
  revert z0t_13
  refine slices_Equal_int_int_l0.partial_correctness a0 a1 _ ?_
  intro slices_Equal_int_int_l0 IH z0t_13 out H c hc Q τ  hE hR T σ t0 t1 t4 t12 t13 hF
  obtain rfl := Option.some.inj ((rfl : loopAt Try.f30 0 = some _).symm.trans hc)
  refine aLoop_round ?_
  try simp only [go_sem, ↓reduceIte, Nat.reduceEqDiff, Nat.reduceAdd, Nat.reduceMul, Nat.reduceLeDiff, Nat.reduceLT, Int.reduceEq, Int.toNat_natCast, t0, t1, t4, t12, t13]
  refine aCnd_p (z0t_13 < (a0.length : Int)) rfl (fun h => ?_) (fun h => ?_)
  · rw [if_pos h] at H
    try simp only [go_sem, ↓reduceIte, Nat.reduceEqDiff, Nat.reduceAdd, Nat.reduceMul, Nat.reduceLeDiff, Nat.reduceLT, Int.reduceEq, Int.toNat_natCast, t0, t1, t4, t12, t13]
    refine draw_text E0 [.v, .v, .v, .v, .v, .v, .v, .v, .v] (by kernel_rfl) ?_
    obtain ⟨x18, hx18, H⟩ := bnd H
    obtain ⟨x22, hx22, H⟩ := bnd H
    try simp only [go_sem, ↓reduceIte, Nat.reduceEqDiff, Nat.reduceAdd, Nat.reduceMul, Nat.reduceLeDiff, Nat.reduceLT, Int.reduceEq, Int.toNat_natCast, t0, t1, t4, t12, t13, aidx_idx (g := cI) (fun _ => rfl) hx18, aidx_idx (g := cI) (fun _ => rfl) hx22]
    refine aCnd_n (x18 = x22) rfl (fun h => ?_) (fun h => ?_)
    · rw [if_neg h] at H
      try simp only [go_sem, ↓reduceIte, Nat.reduceEqDiff, Nat.reduceAdd, Nat.reduceMul, Nat.reduceLeDiff, Nat.reduceLT, Int.reduceEq, Int.toNat_natCast, t0, t1, t4, t12, t13]
      exact hR _ (pur H).symm _ (fx_ret (vs := [.bool false]) (by first | (simp only [go_sem, ↓reduceIte, Nat.reduceEqDiff, Nat.reduceAdd, Nat.reduceMul, Nat.reduceLeDiff, Nat.reduceLT, Int.reduceEq, Int.toNat_natCast, t0, t1, t4, t12, t13]; done) | rfl | (simp only [go_sem, ↓reduceIte, Nat.reduceEqDiff, Nat.reduceAdd, Nat.reduceMul, Nat.reduceLeDiff, Nat.reduceLT, Int.reduceEq, Int.toNat_natCast, t0, t1, t4, t12, t13]; rfl)) (hF.wk0 _))
    · rw [if_pos h] at H
      try simp only [go_sem, ↓reduceIte, Nat.reduceEqDiff, Nat.reduceAdd, Nat.reduceMul, Nat.reduceLeDiff, Nat.reduceLT, Int.reduceEq, Int.toNat_natCast, t0, t1, t4, t12, t13]
      exact IH  (IntKind.i64.wrap (z0t_13 + 1)) _ H _ rfl Q τ  hE hR _ _  (by first | (simp only [go_sem, ↓reduceIte, Nat.reduceEqDiff, Nat.reduceAdd, Nat.reduceMul, Nat.reduceLeDiff, Nat.reduceLT, Int.reduceEq, Int.toNat_natCast, t0, t1, t4, t12, t13]; done) | rfl | (simp only [go_sem, ↓reduceIte, Nat.reduceEqDiff, Nat.reduceAdd, Nat.reduceMul, Nat.reduceLeDiff, Nat.reduceLT, Int.reduceEq, Int.toNat_natCast, t0, t1, t4, t12, t13]; rfl)) (by first | (simp only [go_sem, ↓reduceIte, Nat.reduceEqDiff, Nat.reduceAdd, Nat.reduceMul, Nat.reduceLeDiff, Nat.reduceLT, Int.reduceEq, Int.toNat_natCast, t0, t1, t4, t12, t13]; done) | rfl | (simp only [go_sem, ↓reduceIte, Nat.reduceEqDiff, Nat.reduceAdd, Nat.reduceMul, Nat.reduceLeDiff, Nat.reduceLT, Int.reduceEq, Int.toNat_natCast, t0, t1, t4, t12, t13]; rfl)) (by first | (simp only [go_sem, ↓reduceIte, Nat.reduceEqDiff, Nat.reduceAdd, Nat.reduceMul, Nat.reduceLeDiff, Nat.reduceLT, Int.reduceEq, Int.toNat_natCast, t0, t1, t4, t12, t13]; done) | rfl | (simp only [go_sem, ↓reduceIte, Nat.reduceEqDiff, Nat.reduceAdd, Nat.reduceMul, Nat.reduceLeDiff, Nat.reduceLT, Int.reduceEq, Int.toNat_natCast, t0, t1, t4, t12, t13]; rfl)) (by first | (simp only [go_sem, ↓reduceIte, Nat.reduceEqDiff, Nat.reduceAdd, Nat.reduceMul, Nat.reduceLeDiff, Nat.reduceLT, Int.reduceEq, Int.toNat_natCast, t0, t1, t4, t12, t13]; done) | rfl | (simp only [go_sem, ↓reduceIte, Nat.reduceEqDiff, Nat.reduceAdd, Nat.reduceMul, Nat.reduceLeDiff, Nat.reduceLT, Int.reduceEq, Int.toNat_natCast, t0, t1, t4, t12, t13]; rfl)) (by first | (simp only [go_sem, ↓reduceIte, Nat.reduceEqDiff, Nat.reduceAdd, Nat.reduceMul, Nat.reduceLeDiff, Nat.reduceLT, Int.reduceEq, Int.toNat_natCast, t0, t1, t4, t12, t13]; done) | rfl | (simp only [go_sem, ↓reduceIte, Nat.reduceEqDiff, Nat.reduceAdd, Nat.reduceMul, Nat.reduceLeDiff, Nat.reduceLT, Int.reduceEq, Int.toNat_natCast, t0, t1, t4, t12, t13]; rfl)) hF
  · rw [if_neg h] at H
    try simp only [go_sem, ↓reduceIte, Nat.reduceEqDiff, Nat.reduceAdd, Nat.reduceMul, Nat.reduceLeDiff, Nat.reduceLT, Int.reduceEq, Int.toNat_natCast, t0, t1, t4, t12, t13]
    exact hE () (pur H).symm _ _  (by first | (simp only [go_sem, ↓reduceIte, Nat.reduceEqDiff, Nat.reduceAdd, Nat.reduceMul, Nat.reduceLeDiff, Nat.reduceLT, Int.reduceEq, Int.toNat_natCast, t0, t1, t4, t12, t13]; done) | rfl | (simp only [go_sem, ↓reduceIte, Nat.reduceEqDiff, Nat.reduceAdd, Nat.reduceMul, Nat.reduceLeDiff, Nat.reduceLT, Int.reduceEq, Int.toNat_natCast, t0, t1, t4, t12, t13]; rfl)) hF
theorem slices_Equal_int_int_ok : ∀ (a0 : List Int) (a1 : List Int) r, slices_Equal_int_int a0 a1 = some r → PCtr Try.prog 30 [.sl false (rws cI a0), .sl false (rws cI a1)] (.bool r) := by
  intro a0 a1 r H
  intro σ
  unfold slices_Equal_int_int at H
  refine ctr_of mixed Try.func30 rfl (by kernel_rfl) (rs := [.tmp 4]) rfl (by kernel_rfl) ?_
  have hF := Fx.refl σ
  have hX := Tau.none σ
  try simp only [go_sem, ↓reduceIte, Nat.reduceEqDiff, Nat.reduceAdd, Nat.reduceMul, Nat.reduceLeDiff, Nat.reduceLT, Int.reduceEq, Int.toNat_natCast]
  refine aCnd_n ((a0.length : Int) = (a1.length : Int)) rfl (fun h => ?_) (fun h => ?_)
  · rw [if_neg h] at H
    try simp only [go_sem, ↓reduceIte, Nat.reduceEqDiff, Nat.reduceAdd, Nat.reduceMul, Nat.reduceLeDiff, Nat.reduceLT, Int.reduceEq, Int.toNat_natCast]
    have e := pur H; subst e
    exact fx_ret (vs := [.bool false]) (by first | (simp only [go_sem, ↓reduceIte, Nat.reduceEqDiff, Nat.reduceAdd, Nat.reduceMul, Nat.reduceLeDiff, Nat.reduceLT, Int.reduceEq, Int.toNat_natCast]; done) | rfl | (simp only [go_sem, ↓reduceIte, Nat.reduceEqDiff, Nat.reduceAdd, Nat.reduceMul, Nat.reduceLeDiff, Nat.reduceLT, Int.reduceEq, Int.toNat_natCast]; rfl)) (hF.wk0 _)
  · rw [if_pos h] at H
    try simp only [go_sem, ↓reduceIte, Nat.reduceEqDiff, Nat.reduceAdd, Nat.reduceMul, Nat.reduceLeDiff, Nat.reduceLT, Int.reduceEq, Int.toNat_natCast]
    obtain ⟨o1, ho1, H⟩ := bnd H
    refine slices_Equal_int_int_l0_ok a0 a1 0 _ ho1 _ rfl _ _  ?_ ?_ _ _  (by first | (simp only [go_sem, ↓reduceIte, Nat.reduceEqDiff, Nat.reduceAdd, Nat.reduceMul, Nat.reduceLeDiff, Nat.reduceLT, Int.reduceEq, Int.toNat_natCast]; done) | rfl | (simp only [go_sem, ↓reduceIte, Nat.reduceEqDiff, Nat.reduceAdd, Nat.reduceMul, Nat.reduceLeDiff, Nat.reduceLT, Int.reduceEq, Int.toNat_natCast]; rfl)) (by first | (simp only [go_sem, ↓reduceIte, Nat.reduceEqDiff, Nat.reduceAdd, Nat.reduceMul, Nat.reduceLeDiff, Nat.reduceLT, Int.reduceEq, Int.toNat_natCast]; done) | rfl | (simp only [go_sem, ↓reduceIte, Nat.reduceEqDiff, Nat.reduceAdd, Nat.reduceMul, Nat.reduceLeDiff, Nat.reduceLT, Int.reduceEq, Int.toNat_natCast]; rfl)) (by first | (simp only [go_sem, ↓reduceIte, Nat.reduceEqDiff, Nat.reduceAdd, Nat.reduceMul, Nat.reduceLeDiff, Nat.reduceLT, Int.reduceEq, Int.toNat_natCast]; done) | rfl | (simp only [go_sem, ↓reduceIte, Nat.reduceEqDiff, Nat.reduceAdd, Nat.reduceMul, Nat.reduceLeDiff, Nat.reduceLT, Int.reduceEq, Int.toNat_natCast]; rfl)) (by first | (simp only [go_sem, ↓reduceIte, Nat.reduceEqDiff, Nat.reduceAdd, Nat.reduceMul, Nat.reduceLeDiff, Nat.reduceLT, Int.reduceEq, Int.toNat_natCast]; done) | rfl | (simp only [go_sem, ↓reduceIte, Nat.reduceEqDiff, Nat.reduceAdd, Nat.reduceMul, Nat.reduceLeDiff, Nat.reduceLT, Int.reduceEq, Int.toNat_natCast]; rfl)) (by first | (simp only [go_sem, ↓reduceIte, Nat.reduceEqDiff, Nat.reduceAdd, Nat.reduceMul, Nat.reduceLeDiff, Nat.reduceLT, Int.reduceEq, Int.toNat_natCast]; done) | rfl | (simp only [go_sem, ↓reduceIte, Nat.reduceEqDiff, Nat.reduceAdd, Nat.reduceMul, Nat.reduceLeDiff, Nat.reduceLT, Int.reduceEq, Int.toNat_natCast]; rfl)) hF
    · intro _ he T3 σ4 t4 hF
      have he := he.symm
      subst he
      dsimp only at H
      try simp only [go_sem, ↓reduceIte, Nat.reduceEqDiff, Nat.reduceAdd, Nat.reduceMul, Nat.reduceLeDiff, Nat.reduceLT, Int.reduceEq, Int.toNat_natCast, t4]
      have e := pur H; subst e
      exact fx_ret (vs := [.bool true]) (by first | (simp only [go_sem, ↓reduceIte, Nat.reduceEqDiff, Nat.reduceAdd, Nat.reduceMul, Nat.reduceLeDiff, Nat.reduceLT, Int.reduceEq, Int.toNat_natCast, t4]; done) | rfl | (simp only [go_sem, ↓reduceIte, Nat.reduceEqDiff, Nat.reduceAdd, Nat.reduceMul, Nat.reduceLeDiff, Nat.reduceLT, Int.reduceEq, Int.toNat_natCast, t4]; rfl)) (hF.wk0 _)
    · intro r hr s' hs
      subst hr
      have e := pur H; subst e
      first | exact hs | (try simp only [Fm.cells_eq] at hs ⊢; exact hs)
theorem impl_FormSame_all : (∀ (a0 : Fm) (a1 : Fm) r, impl_FormSame a0 a1 = some r → PCtr Try.prog 15 [.agg (Fm.cells a0), .agg (Fm.cells a1)] (.bool r)) ∧ (∀ (a0 : List Fm) (a1 : List Fm) r, slices_EqualFunc_Form_Form_Form_Form__impl_FormSame a0 a1 = some r → PCtr Try.prog 31 [.sl false (rws Fm.cells a0), .sl false (rws Fm.cells a1), .fn 15 []] (.bool r)) := by
  have h := impl_FormSame.mutual_partial_correctness (motive_1 := fun a0 a1 r => PCtr Try.prog 15 [.agg (Fm.cells a0), .agg (Fm.cells a1)] (.bool r)) (motive_2 := fun a0 a1 r => PCtr Try.prog 31 [.sl false (rws Fm.cells a0), .sl false (rws Fm.cells a1), .fn 15 []] (.bool r)) (motive_3 := fun a0 a1 z0t_17 out => ∀ c, loopAt Try.f31 0 = some c → ∀ (Q : AX → AS → Prop) (τ : Sto), (∀ (_u : Unit), out = Sum.inr () → ∀ (T : Nat → AV) (σ : Sto), T 6 = .bool false → Fx τ σ [] [] → Q (.ex 0) ⟨T, σ⟩) → (∀ r, out = Sum.inl r → ∀ s', aRet Try.prog [.tmp 6] (fun r' σ' => r' = .bool r ∧ σ' = τ) s' → Q .ret s') → ∀ (T : Nat → AV) (σ : Sto), T 1 = .sl false (rws Fm.cells a1) → T 2 = .fn 15 [] → T 6 = .bool false → T 15 = .sl false (rws Fm.cells a0) → T 16 = .int .i64 (a0.length : Int) → T 17 = .int .i64 z0t_17 → Fx τ σ [] [] → aLoop (acode Try.prog c) Q ⟨T, σ⟩) ?s0 ?s1 ?s2
  · exact ⟨h.1, h.2.1⟩
  · intro slices_EqualFunc_Form_Form_Form_Form__impl_FormSame C1 a0 a1 r H
    intro σ
    refine ctr_of mixed Try.func15 rfl (by kernel_rfl) (rs := [.tmp 4]) rfl (by kernel_rfl) ?_
    have hF := Fx.refl σ
    have hX := Tau.none σ
    try simp only [go_sem, ↓reduceIte, Nat.reduceEqDiff, Nat.reduceAdd, Nat.reduceMul, Nat.reduceLeDiff, Nat.reduceLT, Int.reduceEq, Int.toNat_natCast]
    refine fx_alloc hF rfl fun b1 σ2 hF => ?_
    try simp only [go_sem, ↓reduceIte, Nat.reduceEqDiff, Nat.reduceAdd, Nat.reduceMul, Nat.reduceLeDiff, Nat.reduceLT, Int.reduceEq, Int.toNat_natCast, hF.at 0 rfl]
    refine fx_alloc hF rfl fun b3 σ4 hF => ?_
    try simp only [go_sem, ↓reduceIte, Nat.reduceEqDiff, Nat.reduceAdd, Nat.reduceMul, Nat.reduceLeDiff, Nat.reduceLT, Int.reduceEq, Int.toNat_natCast, hF.at 0 rfl, hF.at 1 rfl]
    obtain ⟨x16, g5, H⟩ := bnd H
    refine aGd_cutN 5 11 16 (.bool x16) (aGd_intro (fun q6 => ?_) (fun q6 => ?_)) (fun J => ?_)
    · try simp only [go_sem, ↓reduceIte, Nat.reduceEqDiff, Nat.reduceAdd, Nat.reduceMul, Nat.reduceLeDiff, Nat.reduceLT, Int.reduceEq, Int.toNat_natCast, q6, hF.at 0 rfl, hF.at 1 rfl]
      refine cut_done 11 (by have e := pur g5; subst e; (first | rfl | (simp only [go_sem, ↓reduceIte, Nat.reduceEqDiff, Nat.reduceAdd, Nat.reduceMul, Nat.reduceLeDiff, Nat.reduceLT, Int.reduceEq, Int.toNat_natCast, q6]; done) | (simp only [go_sem, ↓reduceIte, Nat.reduceEqDiff, Nat.reduceAdd, Nat.reduceMul, Nat.reduceLeDiff, Nat.reduceLT, Int.reduceEq, Int.toNat_natCast, q6]; simp_all [upd_app]) | simp_all [upd_app])) ?_
      (repeat (first | refine agree_upd (by decide) ?_ | refine agree_low (by decide) ?_)) <;> (repeat (first | refine agree_updR (by decide) ?_ | refine agree_lowR (by decide) ?_)) <;> exact fun _ _ _ => rfl
    · try simp only [go_sem, ↓reduceIte, Nat.reduceEqDiff, Nat.reduceAdd, Nat.reduceMul, Nat.reduceLeDiff, Nat.reduceLT, Int.reduceEq, Int.toNat_natCast, q6, hF.at 0 rfl, hF.at 1 rfl]
      refine cut_done 11 (by have e := pur g5; subst e; (first | rfl | (simp only [go_sem, ↓reduceIte, Nat.reduceEqDiff, Nat.reduceAdd, Nat.reduceMul, Nat.reduceLeDiff, Nat.reduceLT, Int.reduceEq, Int.toNat_natCast, q6]; done) | (simp only [go_sem, ↓reduceIte, Nat.reduceEqDiff, Nat.reduceAdd, Nat.reduceMul, Nat.reduceLeDiff, Nat.reduceLT, Int.reduceEq, Int.toNat_natCast, q6]; simp_all [upd_app]) | simp_all [upd_app])) ?_
      (repeat (first | refine agree_upd (by decide) ?_ | refine agree_low (by decide) ?_)) <;> (repeat (first | refine agree_updR (by decide) ?_ | refine agree_lowR (by decide) ?_)) <;> exact fun _ _ _ => rfl
    try simp only [go_sem, ↓reduceIte, Nat.reduceEqDiff, Nat.reduceAdd, Nat.reduceMul, Nat.reduceLeDiff, Nat.reduceLT, Int.reduceEq, Int.toNat_natCast, hF.at 0 rfl, hF.at 1 rfl]
    obtain ⟨x23, g7, H⟩ := bnd H
    refine aGd_cutN 5 18 23 (.bool x23) (aGd_intro (fun q8 => ?_) (fun q8 => ?_)) (fun J => ?_)
    · try simp only [go_sem, ↓reduceIte, Nat.reduceEqDiff, Nat.reduceAdd, Nat.reduceMul, Nat.reduceLeDiff, Nat.reduceLT, Int.reduceEq, Int.toNat_natCast, q8, hF.at 0 rfl, hF.at 1 rfl]
      refine cut_done 18 (by have e := pur g7; subst e; (first | rfl | (simp only [go_sem, ↓reduceIte, Nat.reduceEqDiff, Nat.reduceAdd, Nat.reduceMul, Nat.reduceLeDiff, Nat.reduceLT, Int.reduceEq, Int.toNat_natCast, q8]; done) | (simp only [go_sem, ↓reduceIte, Nat.reduceEqDiff, Nat.reduceAdd, Nat.reduceMul, Nat.reduceLeDiff, Nat.reduceLT, Int.reduceEq, Int.toNat_natCast, q8]; simp_all [upd_app]) | simp_all [upd_app])) ?_
      (repeat (first | refine agree_upd (by decide) ?_ | refine agree_low (by decide) ?_)) <;> (repeat (first | refine agree_updR (by decide) ?_ | refine agree_lowR (by decide) ?_)) <;> exact fun _ _ _ => rfl
    · try simp only [go_sem, ↓reduceIte, Nat.reduceEqDiff, Nat.reduceAdd, Nat.reduceMul, Nat.reduceLeDiff, Nat.reduceLT, Int.reduceEq, Int.toNat_natCast, q8, hF.at 0 rfl, hF.at 1 rfl]
      refine cut_done 18 (by have e := pur g7; subst e; (first | rfl | (simp only [go_sem, ↓reduceIte, Nat.reduceEqDiff, Nat.reduceAdd, Nat.reduceMul, Nat.reduceLeDiff, Nat.reduceLT, Int.reduceEq, Int.toNat_natCast, q8]; done) | (simp only [go_sem, ↓reduceIte, Nat.reduceEqDiff, Nat.reduceAdd, Nat.reduceMul, Nat.reduceLeDiff, Nat.reduceLT, Int.reduceEq, Int.toNat_natCast, q8]; simp_all [upd_app]) | simp_all [upd_app])) ?_
      (repeat (first | refine agree_upd (by decide) ?_ | refine agree_low (by decide) ?_)) <;> (repeat (first | refine agree_updR (by decide) ?_ | refine agree_lowR (by decide) ?_)) <;> exact fun _ _ _ => rfl
    try simp only [go_sem, ↓reduceIte, Nat.reduceEqDiff, Nat.reduceAdd, Nat.reduceMul, Nat.reduceLeDiff, Nat.reduceLT, Int.reduceEq, Int.toNat_natCast, hF.at 0 rfl, hF.at 1 rfl]
    obtain ⟨x30, g9, H⟩ := bnd H
    refine aGd_cutN 5 25 30 (.bool x30) (aGd_intro (fun q10 => ?_) (fun q10 => ?_)) (fun J => ?_)
    · rw [if_pos (q10)] at g9
      try simp only [go_sem, ↓reduceIte, Nat.reduceEqDiff, Nat.reduceAdd, Nat.reduceMul, Nat.reduceLeDiff, Nat.reduceLT, Int.reduceEq, Int.toNat_natCast, q10, hF.at 0 rfl, hF.at 1 rfl]
      obtain ⟨x29, hx29, g9⟩ := bnd g9
      refine aCall_pure (slices_Equal_int_int_ok a0.sc a1.sc _ hx29) (WkVL.refl _) ?_
      try simp only [go_sem, ↓reduceIte, Nat.reduceEqDiff, Nat.reduceAdd, Nat.reduceMul, Nat.reduceLeDiff, Nat.reduceLT, Int.reduceEq, Int.toNat_natCast, q10, hF.at 0 rfl, hF.at 1 rfl]
      refine cut_done 25 (by have e := pur g9; subst e; (first | rfl | (simp only [go_sem, ↓reduceIte, Nat.reduceEqDiff, Nat.reduceAdd, Nat.reduceMul, Nat.reduceLeDiff, Nat.reduceLT, Int.reduceEq, Int.toNat_natCast, q10]; done) | (simp only [go_sem, ↓reduceIte, Nat.reduceEqDiff, Nat.reduceAdd, Nat.reduceMul, Nat.reduceLeDiff, Nat.reduceLT, Int.reduceEq, Int.toNat_natCast, q10]; simp_all [upd_app]) | simp_all [upd_app])) ?_
      (repeat (first | refine agree_upd (by decide) ?_ | refine agree_low (by decide) ?_)) <;> (repeat (first | refine agree_updR (by decide) ?_ | refine agree_lowR (by decide) ?_)) <;> exact fun _ _ _ => rfl
    · rw [if_neg (b_f q10)] at g9
      try simp only [go_sem, ↓reduceIte, Nat.reduceEqDiff, Nat.reduceAdd, Nat.reduceMul, Nat.reduceLeDiff, Nat.reduceLT, Int.reduceEq, Int.toNat_natCast, q10, hF.at 0 rfl, hF.at 1 rfl]
      refine cut_done 25 (by have e := pur g9; subst e; (first | rfl | (simp only [go_sem, ↓reduceIte, Nat.reduceEqDiff, Nat.reduceAdd, Nat.reduceMul, Nat.reduceLeDiff, Nat.reduceLT, Int.reduceEq, Int.toNat_natCast, q10]; done) | (simp only [go_sem, ↓reduceIte, Nat.reduceEqDiff, Nat.reduceAdd, Nat.reduceMul, Nat.reduceLeDiff, Nat.reduceLT, Int.reduceEq, Int.toNat_natCast, q10]; simp_all [upd_app]) | simp_all [upd_app])) ?_
      (repeat (first | refine agree_upd (by decide) ?_ | refine agree_low (by decide) ?_)) <;> (repeat (first | refine agree_updR (by decide) ?_ | refine agree_lowR (by decide) ?_)) <;> exact fun _ _ _ => rfl
    try simp only [go_sem, ↓reduceIte, Nat.reduceEqDiff, Nat.reduceAdd, Nat.reduceMul, Nat.reduceLeDiff, Nat.reduceLT, Int.reduceEq, Int.toNat_natCast, hF.at 0 rfl, hF.at 1 rfl]
    obtain ⟨x37, g11, H⟩ := bnd H
    refine aGd_cutN 5 32 37 (.bool x37) (aGd_intro (fun q12 => ?_) (fun q12 => ?_)) (fun J => ?_)
    · rw [if_pos (q12)] at g11
      try simp only [go_sem, ↓reduceIte, Nat.reduceEqDiff, Nat.reduceAdd, Nat.reduceMul, Nat.reduceLeDiff, Nat.reduceLT, Int.reduceEq, Int.toNat_natCast, q12, hF.at 0 rfl, hF.at 1 rfl]
      obtain ⟨x36, hx36, g11⟩ := bnd g11
      refine aCall_pure (C1 a0.kids a1.kids _ hx36) (WkVL.refl _) ?_
      try simp only [go_sem, ↓reduceIte, Nat.reduceEqDiff, Nat.reduceAdd, Nat.reduceMul, Nat.reduceLeDiff, Nat.reduceLT, Int.reduceEq, Int.toNat_natCast, q12, hF.at 0 rfl, hF.at 1 rfl]
      refine cut_done 32 (by have e := pur g11; subst e; (first | rfl | (simp only [go_sem, ↓reduceIte, Nat.reduceEqDiff, Nat.reduceAdd, Nat.reduceMul, Nat.reduceLeDiff, Nat.reduceLT, Int.reduceEq, Int.toNat_natCast, q12]; done) | (simp only [go_sem, ↓reduceIte, Nat.reduceEqDiff, Nat.reduceAdd, Nat.reduceMul, Nat.reduceLeDiff, Nat.reduceLT, Int.reduceEq, Int.toNat_natCast, q12]; simp_all [upd_app]) | simp_all [upd_app])) ?_
      (repeat (first | refine agree_upd (by decide) ?_ | refine agree_low (by decide) ?_)) <;> (repeat (first | refine agree_updR (by decide) ?_ | refine agree_lowR (by decide) ?_)) <;> exact fun _ _ _ => rfl
    · rw [if_neg (b_f q12)] at g11
      try simp only [go_sem, ↓reduceIte, Nat.reduceEqDiff, Nat.reduceAdd, Nat.reduceMul, Nat.reduceLeDiff, Nat.reduceLT, Int.reduceEq, Int.toNat_natCast, q12, hF.at 0 rfl, hF.at 1 rfl]
      refine cut_done 32 (by have e := pur g11; subst e; (first | rfl | (simp only [go_sem, ↓reduceIte, Nat.reduceEqDiff, Nat.reduceAdd, Nat.reduceMul, Nat.reduceLeDiff, Nat.reduceLT, Int.reduceEq, Int.toNat_natCast, q12]; done) | (simp only [go_sem, ↓reduceIte, Nat.reduceEqDiff, Nat.reduceAdd, Nat.reduceMul, Nat.reduceLeDiff, Nat.reduceLT, Int.reduceEq, Int.toNat_natCast, q12]; simp_all [upd_app]) | simp_all [upd_app])) ?_
      (repeat (first | refine agree_upd (by decide) ?_ | refine agree_low (by decide) ?_)) <;> (repeat (first | refine agree_updR (by decide) ?_ | refine agree_lowR (by decide) ?_)) <;> exact fun _ _ _ => rfl
    try simp only [go_sem, ↓reduceIte, Nat.reduceEqDiff, Nat.reduceAdd, Nat.reduceMul, Nat.reduceLeDiff, Nat.reduceLT, Int.reduceEq, Int.toNat_natCast, hF.at 0 rfl, hF.at 1 rfl]
    have e := pur H; subst e
    exact fx_ret (vs := [.bool x37]) (by first | (simp only [go_sem, ↓reduceIte, Nat.reduceEqDiff, Nat.reduceAdd, Nat.reduceMul, Nat.reduceLeDiff, Nat.reduceLT, Int.reduceEq, Int.toNat_natCast, hF.at 0 rfl, hF.at 1 rfl]; done) | rfl | (simp only [go_sem, ↓reduceIte, Nat.reduceEqDiff, Nat.reduceAdd, Nat.reduceMul, Nat.reduceLeDiff, Nat.reduceLT, Int.reduceEq, Int.toNat_natCast, hF.at 0 rfl, hF.at 1 rfl]; rfl)) (hF.wk0 _)
  · intro slices_EqualFunc_Form_Form_Form_Form__impl_FormSame_l0 L0 a0 a1 r H
    intro σ
    refine ctr_of mixed Try.func31 rfl (by kernel_rfl) (rs := [.tmp 6]) rfl (by kernel_rfl) ?_
    have hF := Fx.refl σ
    have hX := Tau.none σ
    try simp only [go_sem, ↓reduceIte, Nat.reduceEqDiff, Nat.reduceAdd, Nat.reduceMul, Nat.reduceLeDiff, Nat.reduceLT, Int.reduceEq, Int.toNat_natCast]
    refine aCnd_n ((a0.length : Int) = (a1.length : Int)) rfl (fun h => ?_) (fun h => ?_)
    · rw [if_neg h] at H
      try simp only [go_sem, ↓reduceIte, Nat.reduceEqDiff, Nat.reduceAdd, Nat.reduceMul, Nat.reduceLeDiff, Nat.reduceLT, Int.reduceEq, Int.toNat_natCast]
      have e := pur H; subst e
      exact fx_ret (vs := [.bool false]) (by first | (simp only [go_sem, ↓reduceIte, Nat.reduceEqDiff, Nat.reduceAdd, Nat.reduceMul, Nat.reduceLeDiff, Nat.reduceLT, Int.reduceEq, Int.toNat_natCast]; done) | rfl | (simp only [go_sem, ↓reduceIte, Nat.reduceEqDiff, Nat.reduceAdd, Nat.reduceMul, Nat.reduceLeDiff, Nat.reduceLT, Int.reduceEq, Int.toNat_natCast]; rfl)) (hF.wk0 _)
    · rw [if_pos h] at H
      try simp only [go_sem, ↓reduceIte, Nat.reduceEqDiff, Nat.reduceAdd, Nat.reduceMul, Nat.reduceLeDiff, Nat.reduceLT, Int.reduceEq, Int.toNat_natCast]
      obtain ⟨o7, ho7, H⟩ := bnd H
      refine L0 a0 a1 0 _ ho7 _ rfl _ _  ?_ ?_ _ _  (by first | (simp only [go_sem, ↓reduceIte, Nat.reduceEqDiff, Nat.reduceAdd, Nat.reduceMul, Nat.reduceLeDiff, Nat.reduceLT, Int.reduceEq, Int.toNat_natCast]; done) | rfl | (simp only [go_sem, ↓reduceIte, Nat.reduceEqDiff, Nat.reduceAdd, Nat.reduceMul, Nat.reduceLeDiff, Nat.reduceLT, Int.reduceEq, Int.toNat_natCast]; rfl)) (by first | (simp only [go_sem, ↓reduceIte, Nat.reduceEqDiff, Nat.reduceAdd, Nat.reduceMul, Nat.reduceLeDiff, Nat.reduceLT, Int.reduceEq, Int.toNat_natCast]; done) | rfl | (simp only [go_sem, ↓reduceIte, Nat.reduceEqDiff, Nat.reduceAdd, Nat.reduceMul, Nat.reduceLeDiff, Nat.reduceLT, Int.reduceEq, Int.toNat_natCast]; rfl)) (by first | (simp only [go_sem, ↓reduceIte, Nat.reduceEqDiff, Nat.reduceAdd, Nat.reduceMul, Nat.reduceLeDiff, Nat.reduceLT, Int.reduceEq, Int.toNat_natCast]; done) | rfl | (simp only [go_sem, ↓reduceIte, Nat.reduceEqDiff, Nat.reduceAdd, Nat.reduceMul, Nat.reduceLeDiff, Nat.reduceLT, Int.reduceEq, Int.toNat_natCast]; rfl)) (by first | (simp only [go_sem, ↓reduceIte, Nat.reduceEqDiff, Nat.reduceAdd, Nat.reduceMul, Nat.reduceLeDiff, Nat.reduceLT, Int.reduceEq, Int.toNat_natCast]; done) | rfl | (simp only [go_sem, ↓reduceIte, Nat.reduceEqDiff, Nat.reduceAdd, Nat.reduceMul, Nat.reduceLeDiff, Nat.reduceLT, Int.reduceEq, Int.toNat_natCast]; rfl)) (by first | (simp only [go_sem, ↓reduceIte, Nat.reduceEqDiff, Nat.reduceAdd, Nat.reduceMul, Nat.reduceLeDiff, Nat.reduceLT, Int.reduceEq, Int.toNat_natCast]; done) | rfl | (simp only [go_sem, ↓reduceIte, Nat.reduceEqDiff, Nat.reduceAdd, Nat.reduceMul, Nat.reduceLeDiff, Nat.reduceLT, Int.reduceEq, Int.toNat_natCast]; rfl)) (by first | (simp only [go_sem, ↓reduceIte, Nat.reduceEqDiff, Nat.reduceAdd, Nat.reduceMul, Nat.reduceLeDiff, Nat.reduceLT, Int.reduceEq, Int.toNat_natCast]; done) | rfl | (simp only [go_sem, ↓reduceIte, Nat.reduceEqDiff, Nat.reduceAdd, Nat.reduceMul, Nat.reduceLeDiff, Nat.reduceLT, Int.reduceEq, Int.toNat_natCast]; rfl)) hF
      · intro _ he T9 σ10 t6 hF
        have he := he.symm
        subst he
        dsimp only at H
        try simp only [go_sem, ↓reduceIte, Nat.reduceEqDiff, Nat.reduceAdd, Nat.reduceMul, Nat.reduceLeDiff, Nat.reduceLT, Int.reduceEq, Int.toNat_natCast, t6]
        have e := pur H; subst e
        exact fx_ret (vs := [.bool true]) (by first | (simp only [go_sem, ↓reduceIte, Nat.reduceEqDiff, Nat.reduceAdd, Nat.reduceMul, Nat.reduceLeDiff, Nat.reduceLT, Int.reduceEq, Int.toNat_natCast, t6]; done) | rfl | (simp only [go_sem, ↓reduceIte, Nat.reduceEqDiff, Nat.reduceAdd, Nat.reduceMul, Nat.reduceLeDiff, Nat.reduceLT, Int.reduceEq, Int.toNat_natCast, t6]; rfl)) (hF.wk0 _)
      · intro r hr s' hs
        subst hr
        have e := pur H; subst e
        first | exact hs | (try simp only [Fm.cells_eq] at hs ⊢; exact hs)
  · intro impl_FormSame slices_EqualFunc_Form_Form_Form_Form__impl_FormSame_l0 C0 L0 a0 a1 z0t_17 out H c hc Q τ  hE hR T σ t1 t2 t6 t15 t16 t17 hF
    obtain rfl := Option.some.inj ((rfl : loopAt Try.f31 0 = some _).symm.trans hc)
    refine aLoop_round ?_
    try simp only [go_sem, ↓reduceIte, Nat.reduceEqDiff, Nat.reduceAdd, Nat.reduceMul, Nat.reduceLeDiff, Nat.reduceLT, Int.reduceEq, Int.toNat_natCast, t1, t2, t6, t15, t16, t17]
    refine aCnd_p (z0t_17 < (a0.length : Int)) rfl (fun h => ?_) (fun h => ?_)
    · rw [if_pos h] at H
      obtain ⟨x20, hx20, H⟩ := bnd H
      try simp only [go_sem, ↓reduceIte, Nat.reduceEqDiff, Nat.reduceAdd, Nat.reduceMul, Nat.reduceLeDiff, Nat.reduceLT, Int.reduceEq, Int.toNat_natCast, t1, t2, t6, t15, t16, t17, aidx_idx (g := Fm.cells) Fm.cells_len hx20]
      refine fx_alloc hF rfl fun b1 σ2 hF => ?_
      try simp only [go_sem, ↓reduceIte, Nat.reduceEqDiff, Nat.reduceAdd, Nat.reduceMul, Nat.reduceLeDiff, Nat.reduceLT, Int.reduceEq, Int.toNat_natCast, t1, t2, t6, t15, t16, t17, hF.at 0 rfl]
      refine fx_store hF 0 (cells' := [.int .i64 x20.kind, .str x20.name, .int .i64 x20.num, .sl false (rws cI x20.sc), .sl false (rws Fm.cells x20.kids)]) rfl rfl rfl (by simp only [List.length_cons, List.length_nil]; decide) (by first | rfl | simp [splice_eq]) fun σ3 hF => ?_
      obtain ⟨x24, hx24, H⟩ := bnd H
      try simp only [go_sem, ↓reduceIte, Nat.reduceEqDiff, Nat.reduceAdd, Nat.reduceMul, Nat.reduceLeDiff, Nat.reduceLT, Int.reduceEq, Int.toNat_natCast, t1, t2, t6, t15, t16, t17, hF.at 0 rfl, aidx_idx (g := Fm.cells) Fm.cells_len hx24]
      refine fx_alloc hF rfl fun b4 σ5 hF => ?_
      try simp only [go_sem, ↓reduceIte, Nat.reduceEqDiff, Nat.reduceAdd, Nat.reduceMul, Nat.reduceLeDiff, Nat.reduceLT, Int.reduceEq, Int.toNat_natCast, t1, t2, t6, t15, t16, t17, hF.at 0 rfl, hF.at 1 rfl]
      refine fx_store hF 0 (cells' := [.int .i64 x24.kind, .str x24.name, .int .i64 x24.num, .sl false (rws cI x24.sc), .sl false (rws Fm.cells x24.kids)]) rfl rfl rfl (by simp only [List.length_cons, List.length_nil]; decide) (by first | rfl | simp [splice_eq]) fun σ6 hF => ?_
      try simp only [go_sem, ↓reduceIte, Nat.reduceEqDiff, Nat.reduceAdd, Nat.reduceMul, Nat.reduceLeDiff, Nat.reduceLT, Int.reduceEq, Int.toNat_natCast, t1, t2, t6, t15, t16, t17, hF.at 0 rfl, hF.at 1 rfl]
      obtain ⟨x29, hx29, H⟩ := bnd H
      refine aCall_pure (C0 x20 x24 _ hx29) (by (try simp only [Fm.cells_eq]); exact WkVL.refl _) ?_
      try simp only [go_sem, ↓reduceIte, Nat.reduceEqDiff, Nat.reduceAdd, Nat.reduceMul, Nat.reduceLeDiff, Nat.reduceLT, Int.reduceEq, Int.toNat_natCast, t1, t2, t6, t15, t16, t17, hF.at 0 rfl, hF.at 1 rfl]
      refine aCnd_b (!x29) rfl (fun h => ?_) (fun h => ?_)
      · rw [if_pos h] at H
        try simp only [go_sem, ↓reduceIte, Nat.reduceEqDiff, Nat.reduceAdd, Nat.reduceMul, Nat.reduceLeDiff, Nat.reduceLT, Int.reduceEq, Int.toNat_natCast, t1, t2, t6, t15, t16, t17, hF.at 0 rfl, hF.at 1 rfl]
        exact hR _ (pur H).symm _ (fx_ret (vs := [.bool false]) (by first | (simp only [go_sem, ↓reduceIte, Nat.reduceEqDiff, Nat.reduceAdd, Nat.reduceMul, Nat.reduceLeDiff, Nat.reduceLT, Int.reduceEq, Int.toNat_natCast, t1, t2, t6, t15, t16, t17, hF.at 0 rfl, hF.at 1 rfl]; done) | rfl | (simp only [go_sem, ↓reduceIte, Nat.reduceEqDiff, Nat.reduceAdd, Nat.reduceMul, Nat.reduceLeDiff, Nat.reduceLT, Int.reduceEq, Int.toNat_natCast, t1, t2, t6, t15, t16, t17, hF.at 0 rfl, hF.at 1 rfl]; rfl)) (hF.wk0 _))
      · rw [if_neg h] at H
        try simp only [go_sem, ↓reduceIte, Nat.reduceEqDiff, Nat.reduceAdd, Nat.reduceMul, Nat.reduceLeDiff, Nat.reduceLT, Int.reduceEq, Int.toNat_natCast, t1, t2, t6, t15, t16, t17, hF.at 0 rfl, hF.at 1 rfl]
        exact L0 a0 a1 (IntKind.i64.wrap (z0t_17 + 1)) _ H _ rfl Q τ  hE hR _ _  (by first | (simp only [go_sem, ↓reduceIte, Nat.reduceEqDiff, Nat.reduceAdd, Nat.reduceMul, Nat.reduceLeDiff, Nat.reduceLT, Int.reduceEq, Int.toNat_natCast, t1, t2, t6, t15, t16, t17, hF.at 0 rfl, hF.at 1 rfl]; done) | rfl | (simp only [go_sem, ↓reduceIte, Nat.reduceEqDiff, Nat.reduceAdd, Nat.reduceMul, Nat.reduceLeDiff, Nat.reduceLT, Int.reduceEq, Int.toNat_natCast, t1, t2, t6, t15, t16, t17, hF.at 0 rfl, hF.at 1 rfl]; rfl)) (by first | (simp only [go_sem, ↓reduceIte, Nat.reduceEqDiff, Nat.reduceAdd, Nat.reduceMul, Nat.reduceLeDiff, Nat.reduceLT, Int.reduceEq, Int.toNat_natCast, t1, t2, t6, t15, t16, t17, hF.at 0 rfl, hF.at 1 rfl]; done) | rfl | (simp only [go_sem, ↓reduceIte, Nat.reduceEqDiff, Nat.reduceAdd, Nat.reduceMul, Nat.reduceLeDiff, Nat.reduceLT, Int.reduceEq, Int.toNat_natCast, t1, t2, t6, t15, t16, t17, hF.at 0 rfl, hF.at 1 rfl]; rfl)) (by first | (simp only [go_sem, ↓reduceIte, Nat.reduceEqDiff, Nat.reduceAdd, Nat.reduceMul, Nat.reduceLeDiff, Nat.reduceLT, Int.reduceEq, Int.toNat_natCast, t1, t2, t6, t15, t16, t17, hF.at 0 rfl, hF.at 1 rfl]; done) | rfl | (simp only [go_sem, ↓reduceIte, Nat.reduceEqDiff, Nat.reduceAdd, Nat.reduceMul, Nat.reduceLeDiff, Nat.reduceLT, Int.reduceEq, Int.toNat_natCast, t1, t2, t6, t15, t16, t17, hF.at 0 rfl, hF.at 1 rfl]; rfl)) (by first | (simp only [go_sem, ↓reduceIte, Nat.reduceEqDiff, Nat.reduceAdd, Nat.reduceMul, Nat.reduceLeDiff, Nat.reduceLT, Int.reduceEq, Int.toNat_natCast, t1, t2, t6, t15, t16, t17, hF.at 0 rfl, hF.at 1 rfl]; done) | rfl | (simp only [go_sem, ↓reduceIte, Nat.reduceEqDiff, Nat.reduceAdd, Nat.reduceMul, Nat.reduceLeDiff, Nat.reduceLT, Int.reduceEq, Int.toNat_natCast, t1, t2, t6, t15, t16, t17, hF.at 0 rfl, hF.at 1 rfl]; rfl)) (by first | (simp only [go_sem, ↓reduceIte, Nat.reduceEqDiff, Nat.reduceAdd, Nat.reduceMul, Nat.reduceLeDiff, Nat.reduceLT, Int.reduceEq, Int.toNat_natCast, t1, t2, t6, t15, t16, t17, hF.at 0 rfl, hF.at 1 rfl]; done) | rfl | (simp only [go_sem, ↓reduceIte, Nat.reduceEqDiff, Nat.reduceAdd, Nat.reduceMul, Nat.reduceLeDiff, Nat.reduceLT, Int.reduceEq, Int.toNat_natCast, t1, t2, t6, t15, t16, t17, hF.at 0 rfl, hF.at 1 rfl]; rfl)) (by first | (simp only [go_sem, ↓reduceIte, Nat.reduceEqDiff, Nat.reduceAdd, Nat.reduceMul, Nat.reduceLeDiff, Nat.reduceLT, Int.reduceEq, Int.toNat_natCast, t1, t2, t6, t15, t16, t17, hF.at 0 rfl, hF.at 1 rfl]; done) | rfl | (simp only [go_sem, ↓reduceIte, Nat.reduceEqDiff, Nat.reduceAdd, Nat.reduceMul, Nat.reduceLeDiff, Nat.reduceLT, Int.reduceEq, Int.toNat_natCast, t1, t2, t6, t15, t16, t17, hF.at 0 rfl, hF.at 1 rfl]; rfl)) (hF.drop 2 0)
    · rw [if_neg h] at H
      try simp only [go_sem, ↓reduceIte, Nat.reduceEqDiff, Nat.reduceAdd, Nat.reduceMul, Nat.reduceLeDiff, Nat.reduceLT, Int.reduceEq, Int.toNat_natCast, t1, t2, t6, t15, t16, t17]
      exact hE () (pur H).symm _ _  (by first | (simp only [go_sem, ↓reduceIte, Nat.reduceEqDiff, Nat.reduceAdd, Nat.reduceMul, Nat.reduceLeDiff, Nat.reduceLT, Int.reduceEq, Int.toNat_natCast, t1, t2, t6, t15, t16, t17]; done) | rfl | (simp only [go_sem, ↓reduceIte, Nat.reduceEqDiff, Nat.reduceAdd, Nat.reduceMul, Nat.reduceLeDiff, Nat.reduceLT, Int.reduceEq, Int.toNat_natCast, t1, t2, t6, t15, t16, t17]; rfl)) hF
theorem impl_FormSame_ok : ∀ (a0 : Fm) (a1 : Fm) r, impl_FormSame a0 a1 = some r → PCtr Try.prog 15 [.agg (Fm.cells a0), .agg (Fm.cells a1)] (.bool r) := impl_FormSame_all.1
theorem slices_EqualFunc_Form_Form_Form_Form__impl_FormSame_ok : ∀ (a0 : List Fm) (a1 : List Fm) r, slices_EqualFunc_Form_Form_Form_Form__impl_FormSame a0 a1 = some r → PCtr Try.prog 31 [.sl false (rws Fm.cells a0), .sl false (rws Fm.cells a1), .fn 15 []] (.bool r) := impl_FormSame_all.2
theorem impl_CountName_c1_ok : ∀ (a0 : Fm) (c0 : ByteArray) (c1 : Int) r, impl_CountName_c1 a0 c0 c1 = some r → ∀ (e0 : Nat) (e1 : Nat)  (σ : Sto), Pre σ [(e0, ⟨9, 1, [.str c0]⟩), (e1, ⟨3, 1, [.int .i64 c1]⟩)] [] → Ctr Try.prog 20 [.agg (Fm.cells a0), .ptr e0 0, .ptr e1 0] σ (fun r' σ' => ∃ (τ' : Sto), r' = .tup [] ∧ Tau (strip σ []) [(e0, ⟨9, 1, [.str c0]⟩), (e1, ⟨3, 1, [.int .i64 r]⟩)] τ' ∧ Fx τ' σ' [] []) := by
  intro a0 c0 c1 r H
  intro e0 e1  σ hP
  unfold impl_CountName_c1 at H
  refine ctr_of mixed Try.func20 rfl (by kernel_rfl) (rs := []) rfl (by kernel_rfl) ?_
  obtain ⟨hF, hX⟩ := hP.start
  generalize strip σ [] = τ0 at hF hX ⊢
  try simp only [go_sem, ↓reduceIte, Nat.reduceEqDiff, Nat.reduceAdd, Nat.reduceMul, Nat.reduceLeDiff, Nat.reduceLT, Int.reduceEq, Int.toNat_natCast, hF.xat hX 0 rfl, hF.xat hX 1 rfl]
  refine fx_alloc hF rfl fun b1 σ2 hF => ?_
  try simp only [go_sem, ↓reduceIte, Nat.reduceEqDiff, Nat.reduceAdd, Nat.reduceMul, Nat.reduceLeDiff, Nat.reduceLT, Int.reduceEq, Int.toNat_natCast, hF.at 0 rfl, hF.xat hX 0 rfl, hF.xat hX 1 rfl]
  obtain ⟨x6, hx6, H⟩ := bnd H
  refine aCall_pure (impl_named_ok a0 c0 _ hx6) (by (try simp only [Fm.cells_eq]); exact WkVL.refl _) ?_
  try simp only [go_sem, ↓reduceIte, Nat.reduceEqDiff, Nat.reduceAdd, Nat.reduceMul, Nat.reduceLeDiff, Nat.reduceLT, Int.reduceEq, Int.toNat_natCast, hF.at 0 rfl, hF.xat hX 0 rfl, hF.xat hX 1 rfl]
  refine aCnd_b x6 rfl (fun h => ?_) (fun h => ?_)
  · rw [if_pos h] at H
    try simp only [go_sem, ↓reduceIte, Nat.reduceEqDiff, Nat.reduceAdd, Nat.reduceMul, Nat.reduceLeDiff, Nat.reduceLT, Int.reduceEq, Int.toNat_natCast, hF.at 0 rfl, hF.xat hX 0 rfl, hF.xat hX 1 rfl]
    refine fx_storeT hF hX 1 (cells' := [.int .i64 (IntKind.i64.wrap (c1 + 1))]) rfl rfl rfl (by simp only [List.length_cons, List.length_nil]; decide) (by first | rfl | simp [splice_eq]) fun τ4 σ3 hF hX => ?_
    try simp only [go_sem, ↓reduceIte, Nat.reduceEqDiff, Nat.reduceAdd, Nat.reduceMul, Nat.reduceLeDiff, Nat.reduceLT, Int.reduceEq, Int.toNat_natCast, hF.at 0 rfl, hF.xat hX 0 rfl, hF.xat hX 1 rfl]
    have e := pur H; subst e
    exact gRet (vs := []) (by first | (simp only [go_sem, ↓reduceIte, Nat.reduceEqDiff, Nat.reduceAdd, Nat.reduceMul, Nat.reduceLeDiff, Nat.reduceLT, Int.reduceEq, Int.toNat_natCast, hF.at 0 rfl, hF.xat hX 0 rfl, hF.xat hX 1 rfl]; done) | rfl | (simp only [go_sem, ↓reduceIte, Nat.reduceEqDiff, Nat.reduceAdd, Nat.reduceMul, Nat.reduceLeDiff, Nat.reduceLT, Int.reduceEq, Int.toNat_natCast, hF.at 0 rfl, hF.xat hX 0 rfl, hF.xat hX 1 rfl]; rfl)) (Wk.tup hF.sub .nil) ⟨_, rfl, hX, Fx.self _⟩
  · rw [if_neg h] at H
    try simp only [go_sem, ↓reduceIte, Nat.reduceEqDiff, Nat.reduceAdd, Nat.reduceMul, Nat.reduceLeDiff, Nat.reduceLT, Int.reduceEq, Int.toNat_natCast, hF.at 0 rfl, hF.xat hX 0 rfl, hF.xat hX 1 rfl]
    have e := pur H; subst e
    exact gRet (vs := []) (by first | (simp only [go_sem, ↓reduceIte, Nat.reduceEqDiff, Nat.reduceAdd, Nat.reduceMul, Nat.reduceLeDiff, Nat.reduceLT, Int.reduceEq, Int.toNat_natCast, hF.at 0 rfl, hF.xat hX 0 rfl, hF.xat hX 1 rfl]; done) | rfl | (simp only [go_sem, ↓reduceIte, Nat.reduceEqDiff, Nat.reduceAdd, Nat.reduceMul, Nat.reduceLeDiff, Nat.reduceLT, Int.reduceEq, Int.toNat_natCast, hF.at 0 rfl, hF.xat hX 0 rfl, hF.xat hX 1 rfl]; rfl)) (Wk.tup hF.sub .nil) ⟨_, rfl, hX, Fx.self _⟩
theorem impl_eachForm__impl_CountName_c1_ok : ∀ (a0 : Fm) (c0 : ByteArray) (c1 : Int) r, impl_eachForm__impl_CountName_c1 a0 c0 c1 = some r → ∀ (e0 : Nat) (e1 : Nat)  (σ : Sto), Pre σ [(e0, ⟨9, 1, [.str c0]⟩), (e1, ⟨3, 1, [.int .i64 c1]⟩)] [] → Ctr Try.prog 19 [.agg (Fm.cells a0), .fn 20 [.ptr e0 0, .ptr e1 0]] σ (fun r' σ' => ∃ (τ' : Sto), r' = .tup [] ∧ Tau (strip σ []) [(e0, ⟨9, 1, [.str c0]⟩), (e1, ⟨3, 1, [.int .i64 r]⟩)] τ' ∧ Fx τ' σ' [] []) := by
  intro a0 c0 c1
  revert a0 c1
  refine impl_eachForm__impl_CountName_c1.partial_correctness c0 (motive_1 := fun a0 c1 r => ∀ (e0 : Nat) (e1 : Nat)  (σ : Sto), Pre σ [(e0, ⟨9, 1, [.str c0]⟩), (e1, ⟨3, 1, [.int .i64 c1]⟩)] [] → Ctr Try.prog 19 [.agg (Fm.cells a0), .fn 20 [.ptr e0 0, .ptr e1 0]] σ (fun r' σ' => ∃ (τ' : Sto), r' = .tup [] ∧ Tau (strip σ []) [(e0, ⟨9, 1, [.str c0]⟩), (e1, ⟨3, 1, [.int .i64 r]⟩)] τ' ∧ Fx τ' σ' [] [])) (motive_2 := fun a0 z0t_12 z0x_1_0 out => ∀ c, loopAt Try.f19 0 = some c → ∀ (Q : AX → AS → Prop) (τ0 : Sto) (e0 : Nat) (e1 : Nat) (b1 : Nat), (∀ (e0x_1_0 : Int), out = e0x_1_0 → ∀ (T : Nat → AV) (σ : Sto) (τ : Sto), Tau τ0 [(e0, ⟨9, 1, [.str c0]⟩), (e1, ⟨3, 1, [.int .i64 e0x_1_0]⟩)] τ → Fx τ σ [(b1, ⟨26, 5, [.int .i64 a0.kind, .str a0.name, .int .i64 a0.num, .sl false (rws cI a0.sc), .sl false (rws Fm.cells a0.kids)]⟩)] [] → Q (.ex 0) ⟨T, σ⟩) → True → ∀ (T : Nat → AV) (σ : Sto) (τ : Sto), T 1 = .fn 20 [.ptr e0 0, .ptr e1 0] → T 10 = .sl false (rws Fm.cells a0.kids) → T 11 = .int .i64 (a0.kids.length : Int) → T 12 = .int .i64 z0t_12 → Tau τ0 [(e0, ⟨9, 1, [.str c0]⟩), (e1, ⟨3, 1, [.int .i64 z0x_1_0]⟩)] τ → Fx τ σ [(b1, ⟨26, 5, [.int .i64 a0.kind, .str a0.name, .int .i64 a0.num, .sl false (rws cI a0.sc), .sl false (rws Fm.cells a0.kids)]⟩)] [] → aLoop (acode Try.prog c) Q ⟨T, σ⟩) ?_ ?_
  · intro impl_eachForm__impl_CountName_c1_l0 L0 a0 c1 r H
    intro e0 e1  σ hP
    refine ctr_of mixed Try.func19 rfl (by kernel_rfl) (rs := []) rfl (by kernel_rfl) ?_
    obtain ⟨hF, hX⟩ := hP.start
    generalize strip σ [] = τ0 at hF hX ⊢
    try simp only [go_sem, ↓reduceIte, Nat.reduceEqDiff, Nat.reduceAdd, Nat.reduceMul, Nat.reduceLeDiff, Nat.reduceLT, Int.reduceEq, Int.toNat_natCast, hF.xat hX 0 rfl, hF.xat hX 1 rfl]
    refine fx_alloc hF rfl fun b1 σ2 hF => ?_
    try simp only [go_sem, ↓reduceIte, Nat.reduceEqDiff, Nat.reduceAdd, Nat.reduceMul, Nat.reduceLeDiff, Nat.reduceLT, Int.reduceEq, Int.toNat_natCast, hF.at 0 rfl, hF.xat hX 0 rfl, hF.xat hX 1 rfl]
    obtain ⟨x8, hx8, H⟩ := bnd H
    refine aCall_ctr (impl_CountName_c1_ok a0 c0 c1 _ hx8 e0 e1  _ (Fx.pre (esL := []) (bsr := [(b1, ⟨26, 5, [.int .i64 a0.kind, .str a0.name, .int .i64 a0.num, .sl false (rws cI a0.sc), .sl false (rws Fm.cells a0.kids)]⟩)]) (esX := [(e0, ⟨9, 1, [.str c0]⟩), (e1, ⟨3, 1, [.int .i64 c1]⟩)]) (xsr := []) (ms0 := []) (msr := []) hF hX)) (by (try simp only [Fm.cells_eq]); exact WkVL.refl _) ?_
    rintro _ σ3 ⟨τ4, rfl, hT, hG⟩
    obtain ⟨τ5, hX, hF⟩ := Fx.after (bn := []) (esL := []) (bsr := [(b1, ⟨26, 5, [.int .i64 a0.kind, .str a0.name, .int .i64 a0.num, .sl false (rws cI a0.sc), .sl false (rws Fm.cells a0.kids)]⟩)]) (esX := [(e0, ⟨9, 1, [.str c0]⟩), (e1, ⟨3, 1, [.int .i64 c1]⟩)]) (xsr := []) (ms0 := []) (msr := []) (esL' := []) (esX' := [(e0, ⟨9, 1, [.str c0]⟩), (e1, ⟨3, 1, [.int .i64 x8]⟩)]) hF hX hT hG rfl rfl
    have hX : Tau τ0 [(e0, ⟨9, 1, [.str c0]⟩), (e1, ⟨3, 1, [.int .i64 x8]⟩)] τ5 := hX
    have hF : Fx τ5 σ3 [(b1, ⟨26, 5, [.int .i64 a0.kind, .str a0.name, .int .i64 a0.num, .sl false (rws cI a0.sc), .sl false (rws Fm.cells a0.kids)]⟩)] [] := hF
    try simp only [go_sem, ↓reduceIte, Nat.reduceEqDiff, Nat.reduceAdd, Nat.reduceMul, Nat.reduceLeDiff, Nat.reduceLT, Int.reduceEq, Int.toNat_natCast, hF.at 0 rfl, hF.xat hX 0 rfl, hF.xat hX 1 rfl]
    obtain ⟨o12, ho12, H⟩ := bnd H
    refine L0 a0 0 x8 _ ho12 _ rfl _ τ0 e0 e1 b1 ?_ ?_ _ _ _  (by first | (simp only [go_sem, ↓reduceIte, Nat.reduceEqDiff, Nat.reduceAdd, Nat.reduceMul, Nat.reduceLeDiff, Nat.reduceLT, Int.reduceEq, Int.toNat_natCast, hF.at 0 rfl, hF.xat hX 0 rfl, hF.xat hX 1 rfl]; done) | rfl | (simp only [go_sem, ↓reduceIte, Nat.reduceEqDiff, Nat.reduceAdd, Nat.reduceMul, Nat.reduceLeDiff, Nat.reduceLT, Int.reduceEq, Int.toNat_natCast, hF.at 0 rfl, hF.xat hX 0 rfl, hF.xat hX 1 rfl]; rfl)) (by first | (simp only [go_sem, ↓reduceIte, Nat.reduceEqDiff, Nat.reduceAdd, Nat.reduceMul, Nat.reduceLeDiff, Nat.reduceLT, Int.reduceEq, Int.toNat_natCast, hF.at 0 rfl, hF.xat hX 0 rfl, hF.xat hX 1 rfl]; done) | rfl | (simp only [go_sem, ↓reduceIte, Nat.reduceEqDiff, Nat.reduceAdd, Nat.reduceMul, Nat.reduceLeDiff, Nat.reduceLT, Int.reduceEq, Int.toNat_natCast, hF.at 0 rfl, hF.xat hX 0 rfl, hF.xat hX 1 rfl]; rfl)) (by first | (simp only [go_sem, ↓reduceIte, Nat.reduceEqDiff, Nat.reduceAdd, Nat.reduceMul, Nat.reduceLeDiff, Nat.reduceLT, Int.reduceEq, Int.toNat_natCast, hF.at 0 rfl, hF.xat hX 0 rfl, hF.xat hX 1 rfl]; done) | rfl | (simp only [go_sem, ↓reduceIte, Nat.reduceEqDiff, Nat.reduceAdd, Nat.reduceMul, Nat.reduceLeDiff, Nat.reduceLT, Int.reduceEq, Int.toNat_natCast, hF.at 0 rfl, hF.xat hX 0 rfl, hF.xat hX 1 rfl]; rfl)) (by first | (simp only [go_sem, ↓reduceIte, Nat.reduceEqDiff, Nat.reduceAdd, Nat.reduceMul, Nat.reduceLeDiff, Nat.reduceLT, Int.reduceEq, Int.toNat_natCast, hF.at 0 rfl, hF.xat hX 0 rfl, hF.xat hX 1 rfl]; done) | rfl | (simp only [go_sem, ↓reduceIte, Nat.reduceEqDiff, Nat.reduceAdd, Nat.reduceMul, Nat.reduceLeDiff, Nat.reduceLT, Int.reduceEq, Int.toNat_natCast, hF.at 0 rfl, hF.xat hX 0 rfl, hF.xat hX 1 rfl]; rfl)) hX hF
    · intro e13x_1_0 he T14 σ15 τ16 hX hF
      have he := he.symm
      subst he
      try simp only [go_sem, ↓reduceIte, Nat.reduceEqDiff, Nat.reduceAdd, Nat.reduceMul, Nat.reduceLeDiff, Nat.reduceLT, Int.reduceEq, Int.toNat_natCast, hF.at 0 rfl, hF.xat hX 0 rfl, hF.xat hX 1 rfl]
      have e := pur H; subst e
      exact gRet (vs := []) (by first | (simp only [go_sem, ↓reduceIte, Nat.reduceEqDiff, Nat.reduceAdd, Nat.reduceMul, Nat.reduceLeDiff, Nat.reduceLT, Int.reduceEq, Int.toNat_natCast, hF.at 0 rfl, hF.xat hX 0 rfl, hF.xat hX 1 rfl]; done) | rfl | (simp only [go_sem, ↓reduceIte, Nat.reduceEqDiff, Nat.reduceAdd, Nat.reduceMul, Nat.reduceLeDiff, Nat.reduceLT, Int.reduceEq, Int.toNat_natCast, hF.at 0 rfl, hF.xat hX 0 rfl, hF.xat hX 1 rfl]; rfl)) (Wk.tup hF.sub .nil) ⟨_, rfl, hX, Fx.self _⟩
    · trivial
  · intro impl_eachForm__impl_CountName_c1 impl_eachForm__impl_CountName_c1_l0 C0 L0 a0 z0t_12 z0x_1_0 out H c hc Q τ0 e0 e1 b1 hE hR T σ τ t1 t10 t11 t12 hX hF
    obtain rfl := Option.some.inj ((rfl : loopAt Try.f19 0 = some _).symm.trans hc)
    refine aLoop_round ?_
    try simp only [go_sem, ↓reduceIte, Nat.reduceEqDiff, Nat.reduceAdd, Nat.reduceMul, Nat.reduceLeDiff, Nat.reduceLT, Int.reduceEq, Int.toNat_natCast, t1, t10, t11, t12, hF.at 0 rfl, hF.xat hX 0 rfl, hF.xat hX 1 rfl]
    refine aCnd_p (z0t_12 < (a0.kids.length : Int)) rfl (fun h => ?_) (fun h => ?_)
    · rw [if_pos h] at H
      obtain ⟨x14, hx14, H⟩ := bnd H
      try simp only [go_sem, ↓reduceIte, Nat.reduceEqDiff, Nat.reduceAdd, Nat.reduceMul, Nat.reduceLeDiff, Nat.reduceLT, Int.reduceEq, Int.toNat_natCast, t1, t10, t11, t12, hF.at 0 rfl, hF.xat hX 0 rfl, hF.xat hX 1 rfl, aidx_idx (g := Fm.cells) Fm.cells_len hx14]
      refine fx_alloc hF rfl fun b6 σ7 hF => ?_
      try simp only [go_sem, ↓reduceIte, Nat.reduceEqDiff, Nat.reduceAdd, Nat.reduceMul, Nat.reduceLeDiff, Nat.reduceLT, Int.reduceEq, Int.toNat_natCast, t1, t10, t11, t12, hF.at 0 rfl, hF.at 1 rfl, hF.xat hX 0 rfl, hF.xat hX 1 rfl]
      refine fx_store hF 0 (cells' := [.int .i64 x14.kind, .str x14.name, .int .i64 x14.num, .sl false (rws cI x14.sc), .sl false (rws Fm.cells x14.kids)]) rfl rfl rfl (by simp only [List.length_cons, List.length_nil]; decide) (by first | rfl | simp [splice_eq]) fun σ8 hF => ?_
      try simp only [go_sem, ↓reduceIte, Nat.reduceEqDiff, Nat.reduceAdd, Nat.reduceMul, Nat.reduceLeDiff, Nat.reduceLT, Int.reduceEq, Int.toNat_natCast, t1, t10, t11, t12, hF.at 0 rfl, hF.at 1 rfl, hF.xat hX 0 rfl, hF.xat hX 1 rfl]
      obtain ⟨x18, hx18, H⟩ := bnd H
      refine aCall_ctr (C0 x14 z0x_1_0 _ hx18 e0 e1  _ (Fx.pre (esL := []) (bsr := [(b6, ⟨26, 5, [.int .i64 x14.kind, .str x14.name, .int .i64 x14.num, .sl false (rws cI x14.sc), .sl false (rws Fm.cells x14.kids)]⟩), (b1, ⟨26, 5, [.int .i64 a0.kind, .str a0.name, .int .i64 a0.num, .sl false (rws cI a0.sc), .sl false (rws Fm.cells a0.kids)]⟩)]) (esX := [(e0, ⟨9, 1, [.str c0]⟩), (e1, ⟨3, 1, [.int .i64 z0x_1_0]⟩)]) (xsr := []) (ms0 := []) (msr := []) hF hX)) (by (try simp only [Fm.cells_eq]); exact WkVL.refl _) ?_
      rintro _ σ9 ⟨τ10, rfl, hT, hG⟩
      obtain ⟨τ11, hX, hF⟩ := Fx.after (bn := []) (esL := []) (bsr := [(b6, ⟨26, 5, [.int .i64 x14.kind, .str x14.name, .int .i64 x14.num, .sl false (rws cI x14.sc), .sl false (rws Fm.cells x14.kids)]⟩), (b1, ⟨26, 5, [.int .i64 a0.kind, .str a0.name, .int .i64 a0.num, .sl false (rws cI a0.sc), .sl false (rws Fm.cells a0.kids)]⟩)]) (esX := [(e0, ⟨9, 1, [.str c0]⟩), (e1, ⟨3, 1, [.int .i64 z0x_1_0]⟩)]) (xsr := []) (ms0 := []) (msr := []) (esL' := []) (esX' := [(e0, ⟨9, 1, [.str c0]⟩), (e1, ⟨3, 1, [.int .i64 x18]⟩)]) hF hX hT hG rfl rfl
      have hX : Tau τ0 [(e0, ⟨9, 1, [.str c0]⟩), (e1, ⟨3, 1, [.int .i64 x18]⟩)] τ11 := hX
      have hF : Fx τ11 σ9 [(b6, ⟨26, 5, [.int .i64 x14.kind, .str x14.name, .int .i64 x14.num, .sl false (rws cI x14.sc), .sl false (rws Fm.cells x14.kids)]⟩), (b1, ⟨26, 5, [.int .i64 a0.kind, .str a0.name, .int .i64 a0.num, .sl false (rws cI a0.sc), .sl false (rws Fm.cells a0.kids)]⟩)] [] := hF
      try simp only [go_sem, ↓reduceIte, Nat.reduceEqDiff, Nat.reduceAdd, Nat.reduceMul, Nat.reduceLeDiff, Nat.reduceLT, Int.reduceEq, Int.toNat_natCast, t1, t10, t11, t12, hF.at 0 rfl, hF.at 1 rfl, hF.xat hX 0 rfl, hF.xat hX 1 rfl]
      exact L0 a0 (IntKind.i64.wrap (z0t_12 + 1)) x18 _ H _ rfl Q τ0 e0 e1 b1 hE hR _ _ _  (by first | (simp only [go_sem, ↓reduceIte, Nat.reduceEqDiff, Nat.reduceAdd, Nat.reduceMul, Nat.reduceLeDiff, Nat.reduceLT, Int.reduceEq, Int.toNat_natCast, t1, t10, t11, t12, hF.at 0 rfl, hF.at 1 rfl, hF.xat hX 0 rfl, hF.xat hX 1 rfl]; done) | rfl | (simp only [go_sem, ↓reduceIte, Nat.reduceEqDiff, Nat.reduceAdd, Nat.reduceMul, Nat.reduceLeDiff, Nat.reduceLT, Int.reduceEq, Int.toNat_natCast, t1, t10, t11, t12, hF.at 0 rfl, hF.at 1 rfl, hF.xat hX 0 rfl, hF.xat hX 1 rfl]; rfl)) (by first | (simp only [go_sem, ↓reduceIte, Nat.reduceEqDiff, Nat.reduceAdd, Nat.reduceMul, Nat.reduceLeDiff, Nat.reduceLT, Int.reduceEq, Int.toNat_natCast, t1, t10, t11, t12, hF.at 0 rfl, hF.at 1 rfl, hF.xat hX 0 rfl, hF.xat hX 1 rfl]; done) | rfl | (simp only [go_sem, ↓reduceIte, Nat.reduceEqDiff, Nat.reduceAdd, Nat.reduceMul, Nat.reduceLeDiff, Nat.reduceLT, Int.reduceEq, Int.toNat_natCast, t1, t10, t11, t12, hF.at 0 rfl, hF.at 1 rfl, hF.xat hX 0 rfl, hF.xat hX 1 rfl]; rfl)) (by first | (simp only [go_sem, ↓reduceIte, Nat.reduceEqDiff, Nat.reduceAdd, Nat.reduceMul, Nat.reduceLeDiff, Nat.reduceLT, Int.reduceEq, Int.toNat_natCast, t1, t10, t11, t12, hF.at 0 rfl, hF.at 1 rfl, hF.xat hX 0 rfl, hF.xat hX 1 rfl]; done) | rfl | (simp only [go_sem, ↓reduceIte, Nat.reduceEqDiff, Nat.reduceAdd, Nat.reduceMul, Nat.reduceLeDiff, Nat.reduceLT, Int.reduceEq, Int.toNat_natCast, t1, t10, t11, t12, hF.at 0 rfl, hF.at 1 rfl, hF.xat hX 0 rfl, hF.xat hX 1 rfl]; rfl)) (by first | (simp only [go_sem, ↓reduceIte, Nat.reduceEqDiff, Nat.reduceAdd, Nat.reduceMul, Nat.reduceLeDiff, Nat.reduceLT, Int.reduceEq, Int.toNat_natCast, t1, t10, t11, t12, hF.at 0 rfl, hF.at 1 rfl, hF.xat hX 0 rfl, hF.xat hX 1 rfl]; done) | rfl | (simp only [go_sem, ↓reduceIte, Nat.reduceEqDiff, Nat.reduceAdd, Nat.reduceMul, Nat.reduceLeDiff, Nat.reduceLT, Int.reduceEq, Int.toNat_natCast, t1, t10, t11, t12, hF.at 0 rfl, hF.at 1 rfl, hF.xat hX 0 rfl, hF.xat hX 1 rfl]; rfl)) hX (hF.drop 1 0)
    · rw [if_neg h] at H
      try simp only [go_sem, ↓reduceIte, Nat.reduceEqDiff, Nat.reduceAdd, Nat.reduceMul, Nat.reduceLeDiff, Nat.reduceLT, Int.reduceEq, Int.toNat_natCast, t1, t10, t11, t12, hF.at 0 rfl, hF.xat hX 0 rfl, hF.xat hX 1 rfl]
      exact hE _ (pur H).symm _ _ _  hX hF
theorem impl_CountName_ok : ∀ (a0 : Fm) (a1 : ByteArray) r, impl_CountName a0 a1 = some r → PCtr Try.prog 7 [.agg (Fm.cells a0), .str a1] (.int .i64 r) := by
  intro a0 a1 r H
  intro σ
  unfold impl_CountName at H
  refine ctr_of mixed Try.func7 rfl (by kernel_rfl) (rs := [.tmp 4]) rfl (by kernel_rfl) ?_
  have hF := Fx.refl σ
  have hX := Tau.none σ
  try simp only [go_sem, ↓reduceIte, Nat.reduceEqDiff, Nat.reduceAdd, Nat.reduceMul, Nat.reduceLeDiff, Nat.reduceLT, Int.reduceEq, Int.toNat_natCast]
  refine fx_alloc hF rfl fun b1 σ2 hF => ?_
  try simp only [go_sem, ↓reduceIte, Nat.reduceEqDiff, Nat.reduceAdd, Nat.reduceMul, Nat.reduceLeDiff, Nat.reduceLT, Int.reduceEq, Int.toNat_natCast, hF.at 0 rfl]
  refine fx_alloc hF rfl fun b3 σ4 hF => ?_
  try simp only [go_sem, ↓reduceIte, Nat.reduceEqDiff, Nat.reduceAdd, Nat.reduceMul, Nat.reduceLeDiff, Nat.reduceLT, Int.reduceEq, Int.toNat_natCast, hF.at 0 rfl, hF.at 1 rfl]
  refine fx_alloc hF rfl fun b5 σ6 hF => ?_
  try simp only [go_sem, ↓reduceIte, Nat.reduceEqDiff, Nat.reduceAdd, Nat.reduceMul, Nat.reduceLeDiff, Nat.reduceLT, Int.reduceEq, Int.toNat_natCast, hF.at 0 rfl, hF.at 1 rfl, hF.at 2 rfl]
  refine fx_store hF 0 (cells' := [.int .i64 0]) rfl rfl rfl (by simp only [List.length_cons, List.length_nil]; decide) (by first | rfl | simp [splice_eq]) fun σ7 hF => ?_
  try simp only [go_sem, ↓reduceIte, Nat.reduceEqDiff, Nat.reduceAdd, Nat.reduceMul, Nat.reduceLeDiff, Nat.reduceLT, Int.reduceEq, Int.toNat_natCast, hF.at 0 rfl, hF.at 1 rfl, hF.at 2 rfl]
  have hF := hF.pick [1, 0, 2] [] (by decide) (by decide)
  obtain ⟨x8, hx8, H⟩ := bnd H
  refine aCall_ctr (impl_eachForm__impl_CountName_c1_ok a0 a1 0 _ hx8 b3 b5  _ (Fx.pre (esL := [(b3, ⟨9, 1, [.str a1]⟩), (b5, ⟨3, 1, [.int .i64 0]⟩)]) (bsr := [(b1, ⟨26, 5, [.int .i64 a0.kind, .str a0.name, .int .i64 a0.num, .sl false (rws cI a0.sc), .sl false (rws Fm.cells a0.kids)]⟩)]) (esX := []) (xsr := []) (ms0 := []) (msr := []) hF hX)) (by (try simp only [Fm.cells_eq]); exact WkVL.refl _) ?_
  rintro _ σ8 ⟨τ9, rfl, hT, hG⟩
  obtain ⟨τ10, hX, hF⟩ := Fx.after (bn := []) (esL := [(b3, ⟨9, 1, [.str a1]⟩), (b5, ⟨3, 1, [.int .i64 0]⟩)]) (bsr := [(b1, ⟨26, 5, [.int .i64 a0.kind, .str a0.name, .int .i64 a0.num, .sl false (rws cI a0.sc), .sl false (rws Fm.cells a0.kids)]⟩)]) (esX := []) (xsr := []) (ms0 := []) (msr := []) (esL' := [(b3, ⟨9, 1, [.str a1]⟩), (b5, ⟨3, 1, [.int .i64 x8]⟩)]) (esX' := []) hF hX hT hG rfl rfl
  have hq := hX.eq.symm
  subst hq
  have hF : Fx σ σ8 [(b3, ⟨9, 1, [.str a1]⟩), (b5, ⟨3, 1, [.int .i64 x8]⟩), (b1, ⟨26, 5, [.int .i64 a0.kind, .str a0.name, .int .i64 a0.num, .sl false (rws cI a0.sc), .sl false (rws Fm.cells a0.kids)]⟩)] [] := hF
  try simp only [go_sem, ↓reduceIte, Nat.reduceEqDiff, Nat.reduceAdd, Nat.reduceMul, Nat.reduceLeDiff, Nat.reduceLT, Int.reduceEq, Int.toNat_natCast, hF.at 0 rfl, hF.at 1 rfl, hF.at 2 rfl]
  have e := pur H; subst e
  exact fx_ret (vs := [.int .i64 x8]) (by first | (simp only [go_sem, ↓reduceIte, Nat.reduceEqDiff, Nat.reduceAdd, Nat.reduceMul, Nat.reduceLeDiff, Nat.reduceLT, Int.reduceEq, Int.toNat_natCast, hF.at 0 rfl, hF.at 1 rfl, hF.at 2 rfl]; done) | rfl | (simp only [go_sem, ↓reduceIte, Nat.reduceEqDiff, Nat.reduceAdd, Nat.reduceMul, Nat.reduceLeDiff, Nat.reduceLT, Int.reduceEq, Int.toNat_natCast, hF.at 0 rfl, hF.at 1 rfl, hF.at 2 rfl]; rfl)) (hF.wk0 _)
theorem impl_FormSize_ok : ∀ (a0 : Fm) r, impl_FormSize a0 = some r → PCtr Try.prog 11 [.agg (Fm.cells a0)] (.int .i64 r) := by
  refine impl_FormSize.partial_correctness  (motive_1 := fun a0 r => PCtr Try.prog 11 [.agg (Fm.cells a0)] (.int .i64 r)) (motive_2 := fun a0 z0t_3 z0t_9 out => ∀ c, loopAt Try.f11 0 = some c → ∀ (Q : AX → AS → Prop) (τ : Sto) (b1 : Nat), (∀ (e0t_3 : Int), out = e0t_3 → ∀ (T : Nat → AV) (σ : Sto), T 2 = .int .i64 0 → T 3 = .int .i64 e0t_3 → Fx τ σ [(b1, ⟨26, 5, [.int .i64 a0.kind, .str a0.name, .int .i64 a0.num, .sl false (rws cI a0.sc), .sl false (rws Fm.cells a0.kids)]⟩)] [] → Q (.ex 0) ⟨T, σ⟩) → True → ∀ (T : Nat → AV) (σ : Sto), T 2 = .int .i64 0 → T 3 = .int .i64 z0t_3 → T 7 = .sl false (rws Fm.cells a0.kids) → T 8 = .int .i64 (a0.kids.length : Int) → T 9 = .int .i64 z0t_9 → Fx τ σ [(b1, ⟨26, 5, [.int .i64 a0.kind, .str a0.name, .int .i64 a0.num, .sl false (rws cI a0.sc), .sl false (rws Fm.cells a0.kids)]⟩)] [] → aLoop (acode Try.prog c) Q ⟨T, σ⟩) ?_ ?_
  · intro impl_FormSize_l0 L0 a0 r H
    intro σ
    refine ctr_of mixed Try.func11 rfl (by kernel_rfl) (rs := [.tmp 2]) rfl (by kernel_rfl) ?_
    have hF := Fx.refl σ
    have hX := Tau.none σ
    try simp only [go_sem, ↓reduceIte, Nat.reduceEqDiff, Nat.reduceAdd, Nat.reduceMul, Nat.reduceLeDiff, Nat.reduceLT, Int.reduceEq, Int.toNat_natCast]
    refine fx_alloc hF rfl fun b1 σ2 hF => ?_
    try simp only [go_sem, ↓reduceIte, Nat.reduceEqDiff, Nat.reduceAdd, Nat.reduceMul, Nat.reduceLeDiff, Nat.reduceLT, Int.reduceEq, Int.toNat_natCast, hF.at 0 rfl]
    obtain ⟨o6, ho6, H⟩ := bnd H
    refine L0 a0 1 0 _ ho6 _ rfl _ _ b1 ?_ ?_ _ _  (by first | (simp only [go_sem, ↓reduceIte, Nat.reduceEqDiff, Nat.reduceAdd, Nat.reduceMul, Nat.reduceLeDiff, Nat.reduceLT, Int.reduceEq, Int.toNat_natCast, hF.at 0 rfl]; done) | rfl | (simp only [go_sem, ↓reduceIte, Nat.reduceEqDiff, Nat.reduceAdd, Nat.reduceMul, Nat.reduceLeDiff, Nat.reduceLT, Int.reduceEq, Int.toNat_natCast, hF.at 0 rfl]; rfl)) (by first | (simp only [go_sem, ↓reduceIte, Nat.reduceEqDiff, Nat.reduceAdd, Nat.reduceMul, Nat.reduceLeDiff, Nat.reduceLT, Int.reduceEq, Int.toNat_natCast, hF.at 0 rfl]; done) | rfl | (simp only [go_sem, ↓reduceIte, Nat.reduceEqDiff, Nat.reduceAdd, Nat.reduceMul, Nat.reduceLeDiff, Nat.reduceLT, Int.reduceEq, Int.toNat_natCast, hF.at 0 rfl]; rfl)) (by first | (simp only [go_sem, ↓reduceIte, Nat.reduceEqDiff, Nat.reduceAdd, Nat.reduceMul, Nat.reduceLeDiff, Nat.reduceLT, Int.reduceEq, Int.toNat_natCast, hF.at 0 rfl]; done) | rfl | (simp only [go_sem, ↓reduceIte, Nat.reduceEqDiff, Nat.reduceAdd, Nat.reduceMul, Nat.reduceLeDiff, Nat.reduceLT, Int.reduceEq, Int.toNat_natCast, hF.at 0 rfl]; rfl)) (by first | (simp only [go_sem, ↓reduceIte, Nat.reduceEqDiff, Nat.reduceAdd, Nat.reduceMul, Nat.reduceLeDiff, Nat.reduceLT, Int.reduceEq, Int.toNat_natCast, hF.at 0 rfl]; done) | rfl | (simp only [go_sem, ↓reduceIte, Nat.reduceEqDiff, Nat.reduceAdd, Nat.reduceMul, Nat.reduceLeDiff, Nat.reduceLT, Int.reduceEq, Int.toNat_natCast, hF.at 0 rfl]; rfl)) (by first | (simp only [go_sem, ↓reduceIte, Nat.reduceEqDiff, Nat.reduceAdd, Nat.reduceMul, Nat.reduceLeDiff, Nat.reduceLT, Int.reduceEq, Int.toNat_natCast, hF.at 0 rfl]; done) | rfl | (simp only [go_sem, ↓reduceIte, Nat.reduceEqDiff, Nat.reduceAdd, Nat.reduceMul, Nat.reduceLeDiff, Nat.reduceLT, Int.reduceEq, Int.toNat_natCast, hF.at 0 rfl]; rfl)) hF
    · intro e7t_3 he T8 σ9 t2 t3 hF
      have he := he.symm
      subst he
      try simp only [go_sem, ↓reduceIte, Nat.reduceEqDiff, Nat.reduceAdd, Nat.reduceMul, Nat.reduceLeDiff, Nat.reduceLT, Int.reduceEq, Int.toNat_natCast, t2, t3, hF.at 0 rfl]
      have e := pur H; subst e
      exact fx_ret (vs := [.int .i64 e7t_3]) (by first | (simp only [go_sem, ↓reduceIte, Nat.reduceEqDiff, Nat.reduceAdd, Nat.reduceMul, Nat.reduceLeDiff, Nat.reduceLT, Int.reduceEq, Int.toNat_natCast, t2, t3, hF.at 0 rfl]; done) | rfl | (simp only [go_sem, ↓reduceIte, Nat.reduceEqDiff, Nat.reduceAdd, Nat.reduceMul, Nat.reduceLeDiff, Nat.reduceLT, Int.reduceEq, Int.toNat_natCast, t2, t3, hF.at 0 rfl]; rfl)) (hF.wk0 _)
    · trivial
  · intro impl_FormSize impl_FormSize_l0 C0 L0 a0 z0t_3 z0t_9 out H c hc Q τ b1 hE hR T σ t2 t3 t7 t8 t9 hF
    obtain rfl := Option.some.inj ((rfl : loopAt Try.f11 0 = some _).symm.trans hc)
    refine aLoop_round ?_
    try simp only [go_sem, ↓reduceIte, Nat.reduceEqDiff, Nat.reduceAdd, Nat.reduceMul, Nat.reduceLeDiff, Nat.reduceLT, Int.reduceEq, Int.toNat_natCast, t2, t3, t7, t8, t9, hF.at 0 rfl]
    refine aCnd_p (z0t_9 < (a0.kids.length : Int)) rfl (fun h => ?_) (fun h => ?_)
    · rw [if_pos h] at H
      obtain ⟨x11, hx11, H⟩ := bnd H
      try simp only [go_sem, ↓reduceIte, Nat.reduceEqDiff, Nat.reduceAdd, Nat.reduceMul, Nat.reduceLeDiff, Nat.reduceLT, Int.reduceEq, Int.toNat_natCast, t2, t3, t7, t8, t9, hF.at 0 rfl, aidx_idx (g := Fm.cells) Fm.cells_len hx11]
      refine fx_alloc hF rfl fun b3 σ4 hF => ?_
      try simp only [go_sem, ↓reduceIte, Nat.reduceEqDiff, Nat.reduceAdd, Nat.reduceMul, Nat.reduceLeDiff, Nat.reduceLT, Int.reduceEq, Int.toNat_natCast, t2, t3, t7, t8, t9, hF.at 0 rfl, hF.at 1 rfl]
      refine fx_store hF 0 (cells' := [.int .i64 x11.kind, .str x11.name, .int .i64 x11.num, .sl false (rws cI x11.sc), .sl false (rws Fm.cells x11.kids)]) rfl rfl rfl (by simp only [List.length_cons, List.length_nil]; decide) (by first | rfl | simp [splice_eq]) fun σ5 hF => ?_
      try simp only [go_sem, ↓reduceIte, Nat.reduceEqDiff, Nat.reduceAdd, Nat.reduceMul, Nat.reduceLeDiff, Nat.reduceLT, Int.reduceEq, Int.toNat_natCast, t2, t3, t7, t8, t9, hF.at 0 rfl, hF.at 1 rfl]
      obtain ⟨x15, hx15, H⟩ := bnd H
      refine aCall_pure (C0 x11 _ hx15) (by (try simp only [Fm.cells_eq]); exact WkVL.refl _) ?_
      try simp only [go_sem, ↓reduceIte, Nat.reduceEqDiff, Nat.reduceAdd, Nat.reduceMul, Nat.reduceLeDiff, Nat.reduceLT, Int.reduceEq, Int.toNat_natCast, t2, t3, t7, t8, t9, hF.at 0 rfl, hF.at 1 rfl]
      exact L0 a0 (IntKind.i64.wrap (z0t_3 + x15)) (IntKind.i64.wrap (z0t_9 + 1)) _ H _ rfl Q τ b1 hE hR _ _  (by first | (simp only [go_sem, ↓reduceIte, Nat.reduceEqDiff, Nat.reduceAdd, Nat.reduceMul, Nat.reduceLeDiff, Nat.reduceLT, Int.reduceEq, Int.toNat_natCast, t2, t3, t7, t8, t9, hF.at 0 rfl, hF.at 1 rfl]; done) | rfl | (simp only [go_sem, ↓reduceIte, Nat.reduceEqDiff, Nat.reduceAdd, Nat.reduceMul, Nat.reduceLeDiff, Nat.reduceLT, Int.reduceEq, Int.toNat_natCast, t2, t3, t7, t8, t9, hF.at 0 rfl, hF.at 1 rfl]; rfl)) (by first | (simp only [go_sem, ↓reduceIte, Nat.reduceEqDiff, Nat.reduceAdd, Nat.reduceMul, Nat.reduceLeDiff, Nat.reduceLT, Int.reduceEq, Int.toNat_natCast, t2, t3, t7, t8, t9, hF.at 0 rfl, hF.at 1 rfl]; done) | rfl | (simp only [go_sem, ↓reduceIte, Nat.reduceEqDiff, Nat.reduceAdd, Nat.reduceMul, Nat.reduceLeDiff, Nat.reduceLT, Int.reduceEq, Int.toNat_natCast, t2, t3, t7, t8, t9, hF.at 0 rfl, hF.at 1 rfl]; rfl)) (by first | (simp only [go_sem, ↓reduceIte, Nat.reduceEqDiff, Nat.reduceAdd, Nat.reduceMul, Nat.reduceLeDiff, Nat.reduceLT, Int.reduceEq, Int.toNat_natCast, t2, t3, t7, t8, t9, hF.at 0 rfl, hF.at 1 rfl]; done) | rfl | (simp only [go_sem, ↓reduceIte, Nat.reduceEqDiff, Nat.reduceAdd, Nat.reduceMul, Nat.reduceLeDiff, Nat.reduceLT, Int.reduceEq, Int.toNat_natCast, t2, t3, t7, t8, t9, hF.at 0 rfl, hF.at 1 rfl]; rfl)) (by first | (simp only [go_sem, ↓reduceIte, Nat.reduceEqDiff, Nat.reduceAdd, Nat.reduceMul, Nat.reduceLeDiff, Nat.reduceLT, Int.reduceEq, Int.toNat_natCast, t2, t3, t7, t8, t9, hF.at 0 rfl, hF.at 1 rfl]; done) | rfl | (simp only [go_sem, ↓reduceIte, Nat.reduceEqDiff, Nat.reduceAdd, Nat.reduceMul, Nat.reduceLeDiff, Nat.reduceLT, Int.reduceEq, Int.toNat_natCast, t2, t3, t7, t8, t9, hF.at 0 rfl, hF.at 1 rfl]; rfl)) (by first | (simp only [go_sem, ↓reduceIte, Nat.reduceEqDiff, Nat.reduceAdd, Nat.reduceMul, Nat.reduceLeDiff, Nat.reduceLT, Int.reduceEq, Int.toNat_natCast, t2, t3, t7, t8, t9, hF.at 0 rfl, hF.at 1 rfl]; done) | rfl | (simp only [go_sem, ↓reduceIte, Nat.reduceEqDiff, Nat.reduceAdd, Nat.reduceMul, Nat.reduceLeDiff, Nat.reduceLT, Int.reduceEq, Int.toNat_natCast, t2, t3, t7, t8, t9, hF.at 0 rfl, hF.at 1 rfl]; rfl)) (hF.drop 1 0)
    · rw [if_neg h] at H
      try simp only [go_sem, ↓reduceIte, Nat.reduceEqDiff, Nat.reduceAdd, Nat.reduceMul, Nat.reduceLeDiff, Nat.reduceLT, Int.reduceEq, Int.toNat_natCast, t2, t3, t7, t8, t9, hF.at 0 rfl]
      exact hE _ (pur H).symm _ _  (by first | (simp only [go_sem, ↓reduceIte, Nat.reduceEqDiff, Nat.reduceAdd, Nat.reduceMul, Nat.reduceLeDiff, Nat.reduceLT, Int.reduceEq, Int.toNat_natCast, t2, t3, t7, t8, t9, hF.at 0 rfl]; done) | rfl | (simp only [go_sem, ↓reduceIte, Nat.reduceEqDiff, Nat.reduceAdd, Nat.reduceMul, Nat.reduceLeDiff, Nat.reduceLT, Int.reduceEq, Int.toNat_natCast, t2, t3, t7, t8, t9, hF.at 0 rfl]; rfl)) (by first | (simp only [go_sem, ↓reduceIte, Nat.reduceEqDiff, Nat.reduceAdd, Nat.reduceMul, Nat.reduceLeDiff, Nat.reduceLT, Int.reduceEq, Int.toNat_natCast, t2, t3, t7, t8, t9, hF.at 0 rfl]; done) | rfl | (simp only [go_sem, ↓reduceIte, Nat.reduceEqDiff, Nat.reduceAdd, Nat.reduceMul, Nat.reduceLeDiff, Nat.reduceLT, Int.reduceEq, Int.toNat_natCast, t2, t3, t7, t8, t9, hF.at 0 rfl]; rfl)) hF
theorem laws_FnRenameName_ok : ∀ (a0 : List Int) r, laws_FnRenameName a0 = some r → PCtr Try.prog 5 [.sl false (rws cU a0)] (.bool r) := by
  intro a0 r H
  intro σ
  unfold laws_FnRenameName at H
  refine ctr_of mixed Try.func5 rfl (by kernel_rfl) (rs := [.tmp 2]) rfl (by kernel_rfl) ?_
  have hF := Fx.refl σ
  have hX := Tau.none σ
  try simp only [go_sem, ↓reduceIte, Nat.reduceEqDiff, Nat.reduceAdd, Nat.reduceMul, Nat.reduceLeDiff, Nat.reduceLT, Int.reduceEq, Int.toNat_natCast]
  refine aCnd_p ((a0.length : Int) > 1048576) rfl (fun h => ?_) (fun h => ?_)
  · rw [if_pos h] at H
    try simp only [go_sem, ↓reduceIte, Nat.reduceEqDiff, Nat.reduceAdd, Nat.reduceMul, Nat.reduceLeDiff, Nat.reduceLT, Int.reduceEq, Int.toNat_natCast]
    have e := pur H; subst e
    exact fx_ret (vs := [.bool true]) (by first | (simp only [go_sem, ↓reduceIte, Nat.reduceEqDiff, Nat.reduceAdd, Nat.reduceMul, Nat.reduceLeDiff, Nat.reduceLT, Int.reduceEq, Int.toNat_natCast]; done) | rfl | (simp only [go_sem, ↓reduceIte, Nat.reduceEqDiff, Nat.reduceAdd, Nat.reduceMul, Nat.reduceLeDiff, Nat.reduceLT, Int.reduceEq, Int.toNat_natCast]; rfl)) (hF.wk0 _)
  · rw [if_neg h] at H
    try simp only [go_sem, ↓reduceIte, Nat.reduceEqDiff, Nat.reduceAdd, Nat.reduceMul, Nat.reduceLeDiff, Nat.reduceLT, Int.reduceEq, Int.toNat_natCast]
    obtain ⟨x17, hx17, H⟩ := bnd H
    refine aCall_pure (spec_DrawRenameName_ok a0 _ hx17) (WkVL.refl _) ?_
    try simp only [go_sem, ↓reduceIte, Nat.reduceEqDiff, Nat.reduceAdd, Nat.reduceMul, Nat.reduceLeDiff, Nat.reduceLT, Int.reduceEq, Int.toNat_natCast]
    refine fx_alloc hF rfl fun b1 σ2 hF => ?_
    try simp only [go_sem, ↓reduceIte, Nat.reduceEqDiff, Nat.reduceAdd, Nat.reduceMul, Nat.reduceLeDiff, Nat.reduceLT, Int.reduceEq, Int.toNat_natCast, hF.at 0 rfl]
    refine fx_store hF 0 (cells' := [.int .i64 x17.1.kind, .str x17.1.name, .int .i64 x17.1.num, .sl false (rws cI x17.1.sc), .sl false (rws Fm.cells x17.1.kids)]) rfl rfl rfl (by simp only [List.length_cons, List.length_nil]; decide) (by first | rfl | simp [splice_eq]) fun σ3 hF => ?_
    try simp only [go_sem, ↓reduceIte, Nat.reduceEqDiff, Nat.reduceAdd, Nat.reduceMul, Nat.reduceLeDiff, Nat.reduceLT, Int.reduceEq, Int.toNat_natCast, hF.at 0 rfl]
    obtain ⟨x25, hx25, H⟩ := bnd H
    refine aCall_pure (impl_RenameName_ok x17.1 x17.2.1 x17.2.2 _ hx25) (by (try simp only [Fm.cells_eq]); exact WkVL.refl _) ?_
    try simp only [go_sem, ↓reduceIte, Nat.reduceEqDiff, Nat.reduceAdd, Nat.reduceMul, Nat.reduceLeDiff, Nat.reduceLT, Int.reduceEq, Int.toNat_natCast, hF.at 0 rfl]
    refine fx_alloc hF rfl fun b4 σ5 hF => ?_
    try simp only [go_sem, ↓reduceIte, Nat.reduceEqDiff, Nat.reduceAdd, Nat.reduceMul, Nat.reduceLeDiff, Nat.reduceLT, Int.reduceEq, Int.toNat_natCast, hF.at 0 rfl, hF.at 1 rfl]
    refine fx_store hF 0 (cells' := [.int .i64 x25.1.kind, .str x25.1.name, .int .i64 x25.1.num, .sl false (rws cI x25.1.sc), .sl false (rws Fm.cells x25.1.kids)]) rfl rfl rfl (by simp only [List.length_cons, List.length_nil]; decide) (by first | rfl | simp [splice_eq]) fun σ6 hF => ?_
    try simp only [go_sem, ↓reduceIte, Nat.reduceEqDiff, Nat.reduceAdd, Nat.reduceMul, Nat.reduceLeDiff, Nat.reduceLT, Int.reduceEq, Int.toNat_natCast, hF.at 0 rfl, hF.at 1 rfl]
    obtain ⟨x32, hx32, H⟩ := bnd H
    refine aCall_pure (spec_RenameName_ok x17.1 x17.2.1 x17.2.2 _ hx32) (by (try simp only [Fm.cells_eq]); exact WkVL.refl _) ?_
    try simp only [go_sem, ↓reduceIte, Nat.reduceEqDiff, Nat.reduceAdd, Nat.reduceMul, Nat.reduceLeDiff, Nat.reduceLT, Int.reduceEq, Int.toNat_natCast, hF.at 0 rfl, hF.at 1 rfl]
    refine fx_alloc hF rfl fun b7 σ8 hF => ?_
    try simp only [go_sem, ↓reduceIte, Nat.reduceEqDiff, Nat.reduceAdd, Nat.reduceMul, Nat.reduceLeDiff, Nat.reduceLT, Int.reduceEq, Int.toNat_natCast, hF.at 0 rfl, hF.at 1 rfl, hF.at 2 rfl]
    refine fx_store hF 0 (cells' := [.int .i64 x32.1.kind, .str x32.1.name, .int .i64 x32.1.num, .sl false (rws cI x32.1.sc), .sl false (rws Fm.cells x32.1.kids)]) rfl rfl rfl (by simp only [List.length_cons, List.length_nil]; decide) (by first | rfl | simp [splice_eq]) fun σ9 hF => ?_
    try simp only [go_sem, ↓reduceIte, Nat.reduceEqDiff, Nat.reduceAdd, Nat.reduceMul, Nat.reduceLeDiff, Nat.reduceLT, Int.reduceEq, Int.toNat_natCast, hF.at 0 rfl, hF.at 1 rfl, hF.at 2 rfl]
    obtain ⟨x37, hx37, H⟩ := bnd H
    refine aCall_pure (impl_FormSame_ok x25.1 x32.1 _ hx37) (by (try simp only [Fm.cells_eq]); exact WkVL.refl _) ?_
    try simp only [go_sem, ↓reduceIte, Nat.reduceEqDiff, Nat.reduceAdd, Nat.reduceMul, Nat.reduceLeDiff, Nat.reduceLT, Int.reduceEq, Int.toNat_natCast, hF.at 0 rfl, hF.at 1 rfl, hF.at 2 rfl]
    obtain ⟨x43, g10, H⟩ := bnd H
    refine aGd_cutN 3 40 43 (.bool x43) (aGd_introN (fun q11 => ?_) (fun q11 => ?_)) (fun J => ?_)
    · try simp only [go_sem, ↓reduceIte, Nat.reduceEqDiff, Nat.reduceAdd, Nat.reduceMul, Nat.reduceLeDiff, Nat.reduceLT, Int.reduceEq, Int.toNat_natCast, q11, hF.at 0 rfl, hF.at 1 rfl, hF.at 2 rfl]
      refine cut_done 40 (by have e := pur g10; subst e; (first | rfl | (simp only [go_sem, ↓reduceIte, Nat.reduceEqDiff, Nat.reduceAdd, Nat.reduceMul, Nat.reduceLeDiff, Nat.reduceLT, Int.reduceEq, Int.toNat_natCast, q11]; done) | (simp only [go_sem, ↓reduceIte, Nat.reduceEqDiff, Nat.reduceAdd, Nat.reduceMul, Nat.reduceLeDiff, Nat.reduceLT, Int.reduceEq, Int.toNat_natCast, q11]; simp_all [upd_app]) | simp_all [upd_app])) ?_
      (repeat (first | refine agree_upd (by decide) ?_ | refine agree_low (by decide) ?_)) <;> (repeat (first | refine agree_updR (by decide) ?_ | refine agree_lowR (by decide) ?_)) <;> exact fun _ _ _ => rfl
    · try simp only [go_sem, ↓reduceIte, Nat.reduceEqDiff, Nat.reduceAdd, Nat.reduceMul, Nat.reduceLeDiff, Nat.reduceLT, Int.reduceEq, Int.toNat_natCast, q11, hF.at 0 rfl, hF.at 1 rfl, hF.at 2 rfl]
      refine cut_done 40 (by have e := pur g10; subst e; (first | rfl | (simp only [go_sem, ↓reduceIte, Nat.reduceEqDiff, Nat.reduceAdd, Nat.reduceMul, Nat.reduceLeDiff, Nat.reduceLT, Int.reduceEq, Int.toNat_natCast, q11]; done) | (simp only [go_sem, ↓reduceIte, Nat.reduceEqDiff, Nat.reduceAdd, Nat.reduceMul, Nat.reduceLeDiff, Nat.reduceLT, Int.reduceEq, Int.toNat_natCast, q11]; simp_all [upd_app]) | simp_all [upd_app])) ?_
      (repeat (first | refine agree_upd (by decide) ?_ | refine agree_low (by decide) ?_)) <;> (repeat (first | refine agree_updR (by decide) ?_ | refine agree_lowR (by decide) ?_)) <;> exact fun _ _ _ => rfl
    try simp only [go_sem, ↓reduceIte, Nat.reduceEqDiff, Nat.reduceAdd, Nat.reduceMul, Nat.reduceLeDiff, Nat.reduceLT, Int.reduceEq, Int.toNat_natCast, hF.at 0 rfl, hF.at 1 rfl, hF.at 2 rfl]
    obtain ⟨x47, g12, H⟩ := bnd H
    refine aGd_cutN 2 45 47 (.bool x47) (aGd_introN (fun q13 => ?_) (fun q13 => ?_)) (fun J => ?_)
    · try simp only [go_sem, ↓reduceIte, Nat.reduceEqDiff, Nat.reduceAdd, Nat.reduceMul, Nat.reduceLeDiff, Nat.reduceLT, Int.reduceEq, Int.toNat_natCast, q13, hF.at 0 rfl, hF.at 1 rfl, hF.at 2 rfl]
      refine cut_done 45 (by have e := pur g12; subst e; (first | rfl | (simp only [go_sem, ↓reduceIte, Nat.reduceEqDiff, Nat.reduceAdd, Nat.reduceMul, Nat.reduceLeDiff, Nat.reduceLT, Int.reduceEq, Int.toNat_natCast, q13]; done) | (simp only [go_sem, ↓reduceIte, Nat.reduceEqDiff, Nat.reduceAdd, Nat.reduceMul, Nat.reduceLeDiff, Nat.reduceLT, Int.reduceEq, Int.toNat_natCast, q13]; simp_all [upd_app]) | simp_all [upd_app])) ?_
      (repeat (first | refine agree_upd (by decide) ?_ | refine agree_low (by decide) ?_)) <;> (repeat (first | refine agree_updR (by decide) ?_ | refine agree_lowR (by decide) ?_)) <;> exact fun _ _ _ => rfl
    · try simp only [go_sem, ↓reduceIte, Nat.reduceEqDiff, Nat.reduceAdd, Nat.reduceMul, Nat.reduceLeDiff, Nat.reduceLT, Int.reduceEq, Int.toNat_natCast, q13, hF.at 0 rfl, hF.at 1 rfl, hF.at 2 rfl]
      refine cut_done 45 (by have e := pur g12; subst e; (first | rfl | (simp only [go_sem, ↓reduceIte, Nat.reduceEqDiff, Nat.reduceAdd, Nat.reduceMul, Nat.reduceLeDiff, Nat.reduceLT, Int.reduceEq, Int.toNat_natCast, q13]; done) | (simp only [go_sem, ↓reduceIte, Nat.reduceEqDiff, Nat.reduceAdd, Nat.reduceMul, Nat.reduceLeDiff, Nat.reduceLT, Int.reduceEq, Int.toNat_natCast, q13]; simp_all [upd_app]) | simp_all [upd_app])) ?_
      (repeat (first | refine agree_upd (by decide) ?_ | refine agree_low (by decide) ?_)) <;> (repeat (first | refine agree_updR (by decide) ?_ | refine agree_lowR (by decide) ?_)) <;> exact fun _ _ _ => rfl
    try simp only [go_sem, ↓reduceIte, Nat.reduceEqDiff, Nat.reduceAdd, Nat.reduceMul, Nat.reduceLeDiff, Nat.reduceLT, Int.reduceEq, Int.toNat_natCast, hF.at 0 rfl, hF.at 1 rfl, hF.at 2 rfl]
    refine aCnd_b x47 rfl (fun h => ?_) (fun h => ?_)
    · rw [if_pos h] at H
      try simp only [go_sem, ↓reduceIte, Nat.reduceEqDiff, Nat.reduceAdd, Nat.reduceMul, Nat.reduceLeDiff, Nat.reduceLT, Int.reduceEq, Int.toNat_natCast, hF.at 0 rfl, hF.at 1 rfl, hF.at 2 rfl]
      obtain ⟨x50, hx50, H⟩ := bnd H
      refine aCall_pure (impl_FormSame_ok x25.1 x32.1 _ hx50) (by (try simp only [Fm.cells_eq]); exact WkVL.refl _) ?_
      try simp only [go_sem, ↓reduceIte, Nat.reduceEqDiff, Nat.reduceAdd, Nat.reduceMul, Nat.reduceLeDiff, Nat.reduceLT, Int.reduceEq, Int.toNat_natCast, hF.at 0 rfl, hF.at 1 rfl, hF.at 2 rfl]
      obtain ⟨x55, g14, H⟩ := bnd H
      refine aGd_cutN 3 52 55 (.bool x55) (aGd_intro (fun q15 => ?_) (fun q15 => ?_)) (fun J => ?_)
      · try simp only [go_sem, ↓reduceIte, Nat.reduceEqDiff, Nat.reduceAdd, Nat.reduceMul, Nat.reduceLeDiff, Nat.reduceLT, Int.reduceEq, Int.toNat_natCast, q15, hF.at 0 rfl, hF.at 1 rfl, hF.at 2 rfl]
        refine cut_done 52 (by have e := pur g14; subst e; (first | rfl | (simp only [go_sem, ↓reduceIte, Nat.reduceEqDiff, Nat.reduceAdd, Nat.reduceMul, Nat.reduceLeDiff, Nat.reduceLT, Int.reduceEq, Int.toNat_natCast, q15]; done) | (simp only [go_sem, ↓reduceIte, Nat.reduceEqDiff, Nat.reduceAdd, Nat.reduceMul, Nat.reduceLeDiff, Nat.reduceLT, Int.reduceEq, Int.toNat_natCast, q15]; simp_all [upd_app]) | simp_all [upd_app])) ?_
        (repeat (first | refine agree_upd (by decide) ?_ | refine agree_low (by decide) ?_)) <;> (repeat (first | refine agree_updR (by decide) ?_ | refine agree_lowR (by decide) ?_)) <;> exact fun _ _ _ => rfl
      · try simp only [go_sem, ↓reduceIte, Nat.reduceEqDiff, Nat.reduceAdd, Nat.reduceMul, Nat.reduceLeDiff, Nat.reduceLT, Int.reduceEq, Int.toNat_natCast, q15, hF.at 0 rfl, hF.at 1 rfl, hF.at 2 rfl]
        refine cut_done 52 (by have e := pur g14; subst e; (first | rfl | (simp only [go_sem, ↓reduceIte, Nat.reduceEqDiff, Nat.reduceAdd, Nat.reduceMul, Nat.reduceLeDiff, Nat.reduceLT, Int.reduceEq, Int.toNat_natCast, q15]; done) | (simp only [go_sem, ↓reduceIte, Nat.reduceEqDiff, Nat.reduceAdd, Nat.reduceMul, Nat.reduceLeDiff, Nat.reduceLT, Int.reduceEq, Int.toNat_natCast, q15]; simp_all [upd_app]) | simp_all [upd_app])) ?_
        (repeat (first | refine agree_upd (by decide) ?_ | refine agree_low (by decide) ?_)) <;> (repeat (first | refine agree_updR (by decide) ?_ | refine agree_lowR (by decide) ?_)) <;> exact fun _ _ _ => rfl
      try simp only [go_sem, ↓reduceIte, Nat.reduceEqDiff, Nat.reduceAdd, Nat.reduceMul, Nat.reduceLeDiff, Nat.reduceLT, Int.reduceEq, Int.toNat_natCast, hF.at 0 rfl, hF.at 1 rfl, hF.at 2 rfl]
      have e := pur H; subst e
      exact fx_ret (vs := [.bool x55]) (by first | (simp only [go_sem, ↓reduceIte, Nat.reduceEqDiff, Nat.reduceAdd, Nat.reduceMul, Nat.reduceLeDiff, Nat.reduceLT, Int.reduceEq, Int.toNat_natCast, hF.at 0 rfl, hF.at 1 rfl, hF.at 2 rfl]; done) | rfl | (simp only [go_sem, ↓reduceIte, Nat.reduceEqDiff, Nat.reduceAdd, Nat.reduceMul, Nat.reduceLeDiff, Nat.reduceLT, Int.reduceEq, Int.toNat_natCast, hF.at 0 rfl, hF.at 1 rfl, hF.at 2 rfl]; rfl)) (hF.wk0 _)
    · rw [if_neg h] at H
      try simp only [go_sem, ↓reduceIte, Nat.reduceEqDiff, Nat.reduceAdd, Nat.reduceMul, Nat.reduceLeDiff, Nat.reduceLT, Int.reduceEq, Int.toNat_natCast, hF.at 0 rfl, hF.at 1 rfl, hF.at 2 rfl]
      obtain ⟨x58, hx58, H⟩ := bnd H
      refine aCall_pure (impl_CountName_ok x17.1 x17.2.1 _ hx58) (by (try simp only [Fm.cells_eq]); exact WkVL.refl _) ?_
      try simp only [go_sem, ↓reduceIte, Nat.reduceEqDiff, Nat.reduceAdd, Nat.reduceMul, Nat.reduceLeDiff, Nat.reduceLT, Int.reduceEq, Int.toNat_natCast, hF.at 0 rfl, hF.at 1 rfl, hF.at 2 rfl]
      obtain ⟨x61, hx61, H⟩ := bnd H
      refine aCall_pure (impl_CountName_ok x17.1 x17.2.2 _ hx61) (by (try simp only [Fm.cells_eq]); exact WkVL.refl _) ?_
      try simp only [go_sem, ↓reduceIte, Nat.reduceEqDiff, Nat.reduceAdd, Nat.reduceMul, Nat.reduceLeDiff, Nat.reduceLT, Int.reduceEq, Int.toNat_natCast, hF.at 0 rfl, hF.at 1 rfl, hF.at 2 rfl]
      refine aCnd_p (x17.2.1 = x17.2.2) rfl (fun h => ?_) (fun h => ?_)
      · rw [if_pos h] at H
        try simp only [go_sem, ↓reduceIte, Nat.reduceEqDiff, Nat.reduceAdd, Nat.reduceMul, Nat.reduceLeDiff, Nat.reduceLT, Int.reduceEq, Int.toNat_natCast, hF.at 0 rfl, hF.at 1 rfl, hF.at 2 rfl]
        obtain ⟨x67, hx67, H⟩ := bnd H
        refine aCall_pure (impl_FormSame_ok x17.1 x25.1 _ hx67) (by (try simp only [Fm.cells_eq]); exact WkVL.refl _) ?_
        try simp only [go_sem, ↓reduceIte, Nat.reduceEqDiff, Nat.reduceAdd, Nat.reduceMul, Nat.reduceLeDiff, Nat.reduceLT, Int.reduceEq, Int.toNat_natCast, hF.at 0 rfl, hF.at 1 rfl, hF.at 2 rfl]
        have e := pur H; subst e
        exact fx_ret (vs := [.bool x67]) (by first | (simp only [go_sem, ↓reduceIte, Nat.reduceEqDiff, Nat.reduceAdd, Nat.reduceMul, Nat.reduceLeDiff, Nat.reduceLT, Int.reduceEq, Int.toNat_natCast, hF.at 0 rfl, hF.at 1 rfl, hF.at 2 rfl]; done) | rfl | (simp only [go_sem, ↓reduceIte, Nat.reduceEqDiff, Nat.reduceAdd, Nat.reduceMul, Nat.reduceLeDiff, Nat.reduceLT, Int.reduceEq, Int.toNat_natCast, hF.at 0 rfl, hF.at 1 rfl, hF.at 2 rfl]; rfl)) (hF.wk0 _)
      · rw [if_neg h] at H
        try simp only [go_sem, ↓reduceIte, Nat.reduceEqDiff, Nat.reduceAdd, Nat.reduceMul, Nat.reduceLeDiff, Nat.reduceLT, Int.reduceEq, Int.toNat_natCast, hF.at 0 rfl, hF.at 1 rfl, hF.at 2 rfl]
        refine draw_text E0 [.v, .v, .v, .v, .v, .v, .v, .v, .v, .v, .v, .v, .v, .v, .v, .v, .v, .v, .v, .v, .v] (by kernel_rfl) ?_
        try simp only [go_sem, ↓reduceIte, Nat.reduceEqDiff, Nat.reduceAdd, Nat.reduceMul, Nat.reduceLeDiff, Nat.reduceLT, Int.reduceEq, Int.toNat_natCast, hF.at 0 rfl, hF.at 1 rfl, hF.at 2 rfl]
        obtain ⟨x70, hx70, H⟩ := bnd H
        refine vCall_pure (impl_CountName_ok x25.1 x17.2.2 _ hx70) (by (try simp only [Fm.cells_eq]); exact WkVL.refl _) ?_
        try simp only [go_sem, ↓reduceIte, Nat.reduceEqDiff, Nat.reduceAdd, Nat.reduceMul, Nat.reduceLeDiff, Nat.reduceLT, Int.reduceEq, Int.toNat_natCast, hF.at 0 rfl, hF.at 1 rfl, hF.at 2 rfl]
        obtain ⟨x80, g16, H⟩ := bnd H
        refine tGd_cutN 4 76 80 (.bool x80) (tGd_intro (fun q17 => ?_) (fun q17 => ?_)) (fun J => ?_)
        · rw [if_pos (of_decide_eq_true q17)] at g16
          try simp only [go_sem, ↓reduceIte, Nat.reduceEqDiff, Nat.reduceAdd, Nat.reduceMul, Nat.reduceLeDiff, Nat.reduceLT, Int.reduceEq, Int.toNat_natCast, q17, hF.at 0 rfl, hF.at 1 rfl, hF.at 2 rfl]
          obtain ⟨x78, hx78, g16⟩ := bnd g16
          refine vCall_pure (impl_CountName_ok x25.1 x17.2.1 _ hx78) (by (try simp only [Fm.cells_eq]); exact WkVL.refl _) ?_
          try simp only [go_sem, ↓reduceIte, Nat.reduceEqDiff, Nat.reduceAdd, Nat.reduceMul, Nat.reduceLeDiff, Nat.reduceLT, Int.reduceEq, Int.toNat_natCast, q17, hF.at 0 rfl, hF.at 1 rfl, hF.at 2 rfl]
          refine cut_done 76 (by have e := pur g16; subst e; (first | rfl | (simp only [go_sem, ↓reduceIte, Nat.reduceEqDiff, Nat.reduceAdd, Nat.reduceMul, Nat.reduceLeDiff, Nat.reduceLT, Int.reduceEq, Int.toNat_natCast, q17]; done) | (simp only [go_sem, ↓reduceIte, Nat.reduceEqDiff, Nat.reduceAdd, Nat.reduceMul, Nat.reduceLeDiff, Nat.reduceLT, Int.reduceEq, Int.toNat_natCast, q17]; simp_all [upd_app]) | simp_all [upd_app])) ?_
          (repeat (first | refine agree_upd (by decide) ?_ | refine agree_low (by decide) ?_)) <;> (repeat (first | refine agree_updR (by decide) ?_ | refine agree_lowR (by decide) ?_)) <;> exact fun _ _ _ => rfl
        · rw [if_neg (of_decide_eq_false q17)] at g16
          try simp only [go_sem, ↓reduceIte, Nat.reduceEqDiff, Nat.reduceAdd, Nat.reduceMul, Nat.reduceLeDiff, Nat.reduceLT, Int.reduceEq, Int.toNat_natCast, q17, hF.at 0 rfl, hF.at 1 rfl, hF.at 2 rfl]
          refine cut_done 76 (by have e := pur g16; subst e; (first | rfl | (simp only [go_sem, ↓reduceIte, Nat.reduceEqDiff, Nat.reduceAdd, Nat.reduceMul, Nat.reduceLeDiff, Nat.reduceLT, Int.reduceEq, Int.toNat_natCast, q17]; done) | (simp only [go_sem, ↓reduceIte, Nat.reduceEqDiff, Nat.reduceAdd, Nat.reduceMul, Nat.reduceLeDiff, Nat.reduceLT, Int.reduceEq, Int.toNat_natCast, q17]; simp_all [upd_app]) | simp_all [upd_app])) ?_
          (repeat (first | refine agree_upd (by decide) ?_ | refine agree_low (by decide) ?_)) <;> (repeat (first | refine agree_updR (by decide) ?_ | refine agree_lowR (by decide) ?_)) <;> exact fun _ _ _ => rfl
        try simp only [go_sem, ↓reduceIte, Nat.reduceEqDiff, Nat.reduceAdd, Nat.reduceMul, Nat.reduceLeDiff, Nat.reduceLT, Int.reduceEq, Int.toNat_natCast, hF.at 0 rfl, hF.at 1 rfl, hF.at 2 rfl]
        obtain ⟨x87, g18, H⟩ := bnd H
        refine tGd_cutN 5 82 87 (.bool x87) (tGd_intro (fun q19 => ?_) (fun q19 => ?_)) (fun J => ?_)
        · rw [if_pos (q19)] at g18
          try simp only [go_sem, ↓reduceIte, Nat.reduceEqDiff, Nat.reduceAdd, Nat.reduceMul, Nat.reduceLeDiff, Nat.reduceLT, Int.reduceEq, Int.toNat_natCast, q19, hF.at 0 rfl, hF.at 1 rfl, hF.at 2 rfl]
          obtain ⟨x83, hx83, g18⟩ := bnd g18
          refine vCall_pure (impl_FormSize_ok x25.1 _ hx83) (by (try simp only [Fm.cells_eq]); exact WkVL.refl _) ?_
          try simp only [go_sem, ↓reduceIte, Nat.reduceEqDiff, Nat.reduceAdd, Nat.reduceMul, Nat.reduceLeDiff, Nat.reduceLT, Int.reduceEq, Int.toNat_natCast, q19, hF.at 0 rfl, hF.at 1 rfl, hF.at 2 rfl]
          obtain ⟨x85, hx85, g18⟩ := bnd g18
          refine vCall_pure (impl_FormSize_ok x17.1 _ hx85) (by (try simp only [Fm.cells_eq]); exact WkVL.refl _) ?_
          try simp only [go_sem, ↓reduceIte, Nat.reduceEqDiff, Nat.reduceAdd, Nat.reduceMul, Nat.reduceLeDiff, Nat.reduceLT, Int.reduceEq, Int.toNat_natCast, q19, hF.at 0 rfl, hF.at 1 rfl, hF.at 2 rfl]
          refine cut_done 82 (by have e := pur g18; subst e; (first | rfl | (simp only [go_sem, ↓reduceIte, Nat.reduceEqDiff, Nat.reduceAdd, Nat.reduceMul, Nat.reduceLeDiff, Nat.reduceLT, Int.reduceEq, Int.toNat_natCast, q19]; done) | (simp only [go_sem, ↓reduceIte, Nat.reduceEqDiff, Nat.reduceAdd, Nat.reduceMul, Nat.reduceLeDiff, Nat.reduceLT, Int.reduceEq, Int.toNat_natCast, q19]; simp_all [upd_app]) | simp_all [upd_app])) ?_
          (repeat (first | refine agree_upd (by decide) ?_ | refine agree_low (by decide) ?_)) <;> (repeat (first | refine agree_updR (by decide) ?_ | refine agree_lowR (by decide) ?_)) <;> exact fun _ _ _ => rfl
        · rw [if_neg (b_f q19)] at g18
          try simp only [go_sem, ↓reduceIte, Nat.reduceEqDiff, Nat.reduceAdd, Nat.reduceMul, Nat.reduceLeDiff, Nat.reduceLT, Int.reduceEq, Int.toNat_natCast, q19, hF.at 0 rfl, hF.at 1 rfl, hF.at 2 rfl]
          refine cut_done 82 (by have e := pur g18; subst e; (first | rfl | (simp only [go_sem, ↓reduceIte, Nat.reduceEqDiff, Nat.reduceAdd, Nat.reduceMul, Nat.reduceLeDiff, Nat.reduceLT, Int.reduceEq, Int.toNat_natCast, q19]; done) | (simp only [go_sem, ↓reduceIte, Nat.reduceEqDiff, Nat.reduceAdd, Nat.reduceMul, Nat.reduceLeDiff, Nat.reduceLT, Int.reduceEq, Int.toNat_natCast, q19]; simp_all [upd_app]) | simp_all [upd_app])) ?_
          (repeat (first | refine agree_upd (by decide) ?_ | refine agree_low (by decide) ?_)) <;> (repeat (first | refine agree_updR (by decide) ?_ | refine agree_lowR (by decide) ?_)) <;> exact fun _ _ _ => rfl
        try simp only [go_sem, ↓reduceIte, Nat.reduceEqDiff, Nat.reduceAdd, Nat.reduceMul, Nat.reduceLeDiff, Nat.reduceLT, Int.reduceEq, Int.toNat_natCast, hF.at 0 rfl, hF.at 1 rfl, hF.at 2 rfl]
        have e := pur H; subst e
        exact fx_ret (vs := [.bool x87]) (by first | (simp only [go_sem, ↓reduceIte, Nat.reduceEqDiff, Nat.reduceAdd, Nat.reduceMul, Nat.reduceLeDiff, Nat.reduceLT, Int.reduceEq, Int.toNat_natCast, hF.at 0 rfl, hF.at 1 rfl, hF.at 2 rfl]; done) | rfl | (simp only [go_sem, ↓reduceIte, Nat.reduceEqDiff, Nat.reduceAdd, Nat.reduceMul, Nat.reduceLeDiff, Nat.reduceLT, Int.reduceEq, Int.toNat_natCast, hF.at 0 rfl, hF.at 1 rfl, hF.at 2 rfl]; rfl)) (hF.wk0 _)
theorem laws_FnRenameTwice_ok : ∀ (a0 : List Int) r, laws_FnRenameTwice a0 = some r → PCtr Try.prog 4 [.sl false (rws cU a0)] (.bool r) := by
  intro a0 r H
  intro σ
  unfold laws_FnRenameTwice at H
  refine ctr_of mixed Try.func4 rfl (by kernel_rfl) (rs := [.tmp 2]) rfl (by kernel_rfl) ?_
  have hF := Fx.refl σ
  have hX := Tau.none σ
  try simp only [go_sem, ↓reduceIte, Nat.reduceEqDiff, Nat.reduceAdd, Nat.reduceMul, Nat.reduceLeDiff, Nat.reduceLT, Int.reduceEq, Int.toNat_natCast]
  refine aCnd_p ((a0.length : Int) > 1048576) rfl (fun h => ?_) (fun h => ?_)
  · rw [if_pos h] at H
    try simp only [go_sem, ↓reduceIte, Nat.reduceEqDiff, Nat.reduceAdd, Nat.reduceMul, Nat.reduceLeDiff, Nat.reduceLT, Int.reduceEq, Int.toNat_natCast]
    have e := pur H; subst e
    exact fx_ret (vs := [.bool true]) (by first | (simp only [go_sem, ↓reduceIte, Nat.reduceEqDiff, Nat.reduceAdd, Nat.reduceMul, Nat.reduceLeDiff, Nat.reduceLT, Int.reduceEq, Int.toNat_natCast]; done) | rfl | (simp only [go_sem, ↓reduceIte, Nat.reduceEqDiff, Nat.reduceAdd, Nat.reduceMul, Nat.reduceLeDiff, Nat.reduceLT, Int.reduceEq, Int.toNat_natCast]; rfl)) (hF.wk0 _)
  · rw [if_neg h] at H
    try simp only [go_sem, ↓reduceIte, Nat.reduceEqDiff, Nat.reduceAdd, Nat.reduceMul, Nat.reduceLeDiff, Nat.reduceLT, Int.reduceEq, Int.toNat_natCast]
    obtain ⟨x17, hx17, H⟩ := bnd H
    refine aCall_pure (spec_DrawRenameName_ok a0 _ hx17) (WkVL.refl _) ?_
    try simp only [go_sem, ↓reduceIte, Nat.reduceEqDiff, Nat.reduceAdd, Nat.reduceMul, Nat.reduceLeDiff, Nat.reduceLT, Int.reduceEq, Int.toNat_natCast]
    refine fx_alloc hF rfl fun b1 σ2 hF => ?_
    try simp only [go_sem, ↓reduceIte, Nat.reduceEqDiff, Nat.reduceAdd, Nat.reduceMul, Nat.reduceLeDiff, Nat.reduceLT, Int.reduceEq, Int.toNat_natCast, hF.at 0 rfl]
    refine fx_store hF 0 (cells' := [.int .i64 x17.1.kind, .str x17.1.name, .int .i64 x17.1.num, .sl false (rws cI x17.1.sc), .sl false (rws Fm.cells x17.1.kids)]) rfl rfl rfl (by simp only [List.length_cons, List.length_nil]; decide) (by first | rfl | simp [splice_eq]) fun σ3 hF => ?_
    try simp only [go_sem, ↓reduceIte, Nat.reduceEqDiff, Nat.reduceAdd, Nat.reduceMul, Nat.reduceLeDiff, Nat.reduceLT, Int.reduceEq, Int.toNat_natCast, hF.at 0 rfl]
    obtain ⟨x25, hx25, H⟩ := bnd H
    refine aCall_pure (impl_RenameName_ok x17.1 x17.2.1 x17.2.2 _ hx25) (by (try simp only [Fm.cells_eq]); exact WkVL.refl _) ?_
    try simp only [go_sem, ↓reduceIte, Nat.reduceEqDiff, Nat.reduceAdd, Nat.reduceMul, Nat.reduceLeDiff, Nat.reduceLT, Int.reduceEq, Int.toNat_natCast, hF.at 0 rfl]
    refine fx_alloc hF rfl fun b4 σ5 hF => ?_
    try simp only [go_sem, ↓reduceIte, Nat.reduceEqDiff, Nat.reduceAdd, Nat.reduceMul, Nat.reduceLeDiff, Nat.reduceLT, Int.reduceEq, Int.toNat_natCast, hF.at 0 rfl, hF.at 1 rfl]
    refine fx_store hF 0 (cells' := [.int .i64 x25.1.kind, .str x25.1.name, .int .i64 x25.1.num, .sl false (rws cI x25.1.sc), .sl false (rws Fm.cells x25.1.kids)]) rfl rfl rfl (by simp only [List.length_cons, List.length_nil]; decide) (by first | rfl | simp [splice_eq]) fun σ6 hF => ?_
    try simp only [go_sem, ↓reduceIte, Nat.reduceEqDiff, Nat.reduceAdd, Nat.reduceMul, Nat.reduceLeDiff, Nat.reduceLT, Int.reduceEq, Int.toNat_natCast, hF.at 0 rfl, hF.at 1 rfl]
    obtain ⟨x32, hx32, H⟩ := bnd H
    refine aCall_pure (spec_RenameName_ok x17.1 x17.2.1 x17.2.2 _ hx32) (by (try simp only [Fm.cells_eq]); exact WkVL.refl _) ?_
    try simp only [go_sem, ↓reduceIte, Nat.reduceEqDiff, Nat.reduceAdd, Nat.reduceMul, Nat.reduceLeDiff, Nat.reduceLT, Int.reduceEq, Int.toNat_natCast, hF.at 0 rfl, hF.at 1 rfl]
    refine fx_alloc hF rfl fun b7 σ8 hF => ?_
    try simp only [go_sem, ↓reduceIte, Nat.reduceEqDiff, Nat.reduceAdd, Nat.reduceMul, Nat.reduceLeDiff, Nat.reduceLT, Int.reduceEq, Int.toNat_natCast, hF.at 0 rfl, hF.at 1 rfl, hF.at 2 rfl]
    refine fx_store hF 0 (cells' := [.int .i64 x32.1.kind, .str x32.1.name, .int .i64 x32.1.num, .sl false (rws cI x32.1.sc), .sl false (rws Fm.cells x32.1.kids)]) rfl rfl rfl (by simp only [List.length_cons, List.length_nil]; decide) (by first | rfl | simp [splice_eq]) fun σ9 hF => ?_
    try simp only [go_sem, ↓reduceIte, Nat.reduceEqDiff, Nat.reduceAdd, Nat.reduceMul, Nat.reduceLeDiff, Nat.reduceLT, Int.reduceEq, Int.toNat_natCast, hF.at 0 rfl, hF.at 1 rfl, hF.at 2 rfl]
    obtain ⟨x37, hx37, H⟩ := bnd H
    refine aCall_pure (impl_FormSame_ok x25.1 x32.1 _ hx37) (by (try simp only [Fm.cells_eq]); exact WkVL.refl _) ?_
    try simp only [go_sem, ↓reduceIte, Nat.reduceEqDiff, Nat.reduceAdd, Nat.reduceMul, Nat.reduceLeDiff, Nat.reduceLT, Int.reduceEq, Int.toNat_natCast, hF.at 0 rfl, hF.at 1 rfl, hF.at 2 rfl]
    obtain ⟨x43, g10, H⟩ := bnd H
    refine aGd_cutN 3 40 43 (.bool x43) (aGd_introN (fun q11 => ?_) (fun q11 => ?_)) (fun J => ?_)
    · try simp only [go_sem, ↓reduceIte, Nat.reduceEqDiff, Nat.reduceAdd, Nat.reduceMul, Nat.reduceLeDiff, Nat.reduceLT, Int.reduceEq, Int.toNat_natCast, q11, hF.at 0 rfl, hF.at 1 rfl, hF.at 2 rfl]
      refine cut_done 40 (by have e := pur g10; subst e; (first | rfl | (simp only [go_sem, ↓reduceIte, Nat.reduceEqDiff, Nat.reduceAdd, Nat.reduceMul, Nat.reduceLeDiff, Nat.reduceLT, Int.reduceEq, Int.toNat_natCast, q11]; done) | (simp only [go_sem, ↓reduceIte, Nat.reduceEqDiff, Nat.reduceAdd, Nat.reduceMul, Nat.reduceLeDiff, Nat.reduceLT, Int.reduceEq, Int.toNat_natCast, q11]; simp_all [upd_app]) | simp_all [upd_app])) ?_
      (repeat (first | refine agree_upd (by decide) ?_ | refine agree_low (by decide) ?_)) <;> (repeat (first | refine agree_updR (by decide) ?_ | refine agree_lowR (by decide) ?_)) <;> exact fun _ _ _ => rfl
    · try simp only [go_sem, ↓reduceIte, Nat.reduceEqDiff, Nat.reduceAdd, Nat.reduceMul, Nat.reduceLeDiff, Nat.reduceLT, Int.reduceEq, Int.toNat_natCast, q11, hF.at 0 rfl, hF.at 1 rfl, hF.at 2 rfl]
      refine cut_done 40 (by have e := pur g10; subst e; (first | rfl | (simp only [go_sem, ↓reduceIte, Nat.reduceEqDiff, Nat.reduceAdd, Nat.reduceMul, Nat.reduceLeDiff, Nat.reduceLT, Int.reduceEq, Int.toNat_natCast, q11]; done) | (simp only [go_sem, ↓reduceIte, Nat.reduceEqDiff, Nat.reduceAdd, Nat.reduceMul, Nat.reduceLeDiff, Nat.reduceLT, Int.reduceEq, Int.toNat_natCast, q11]; simp_all [upd_app]) | simp_all [upd_app])) ?_
      (repeat (first | refine agree_upd (by decide) ?_ | refine agree_low (by decide) ?_)) <;> (repeat (first | refine agree_updR (by decide) ?_ | refine agree_lowR (by decide) ?_)) <;> exact fun _ _ _ => rfl
    try simp only [go_sem, ↓reduceIte, Nat.reduceEqDiff, Nat.reduceAdd, Nat.reduceMul, Nat.reduceLeDiff, Nat.reduceLT, Int.reduceEq, Int.toNat_natCast, hF.at 0 rfl, hF.at 1 rfl, hF.at 2 rfl]
    obtain ⟨x47, g12, H⟩ := bnd H
    refine aGd_cutN 2 45 47 (.bool x47) (aGd_introN (fun q13 => ?_) (fun q13 => ?_)) (fun J => ?_)
    · try simp only [go_sem, ↓reduceIte, Nat.reduceEqDiff, Nat.reduceAdd, Nat.reduceMul, Nat.reduceLeDiff, Nat.reduceLT, Int.reduceEq, Int.toNat_natCast, q13, hF.at 0 rfl, hF.at 1 rfl, hF.at 2 rfl]
      refine cut_done 45 (by have e := pur g12; subst e; (first | rfl | (simp only [go_sem, ↓reduceIte, Nat.reduceEqDiff, Nat.reduceAdd, Nat.reduceMul, Nat.reduceLeDiff, Nat.reduceLT, Int.reduceEq, Int.toNat_natCast, q13]; done) | (simp only [go_sem, ↓reduceIte, Nat.reduceEqDiff, Nat.reduceAdd, Nat.reduceMul, Nat.reduceLeDiff, Nat.reduceLT, Int.reduceEq, Int.toNat_natCast, q13]; simp_all [upd_app]) | simp_all [upd_app])) ?_
      (repeat (first | refine agree_upd (by decide) ?_ | refine agree_low (by decide) ?_)) <;> (repeat (first | refine agree_updR (by decide) ?_ | refine agree_lowR (by decide) ?_)) <;> exact fun _ _ _ => rfl
    · try simp only [go_sem, ↓reduceIte, Nat.reduceEqDiff, Nat.reduceAdd, Nat.reduceMul, Nat.reduceLeDiff, Nat.reduceLT, Int.reduceEq, Int.toNat_natCast, q13, hF.at 0 rfl, hF.at 1 rfl, hF.at 2 rfl]
      refine cut_done 45 (by have e := pur g12; subst e; (first | rfl | (simp only [go_sem, ↓reduceIte, Nat.reduceEqDiff, Nat.reduceAdd, Nat.reduceMul, Nat.reduceLeDiff, Nat.reduceLT, Int.reduceEq, Int.toNat_natCast, q13]; done) | (simp only [go_sem, ↓reduceIte, Nat.reduceEqDiff, Nat.reduceAdd, Nat.reduceMul, Nat.reduceLeDiff, Nat.reduceLT, Int.reduceEq, Int.toNat_natCast, q13]; simp_all [upd_app]) | simp_all [upd_app])) ?_
      (repeat (first | refine agree_upd (by decide) ?_ | refine agree_low (by decide) ?_)) <;> (repeat (first | refine agree_updR (by decide) ?_ | refine agree_lowR (by decide) ?_)) <;> exact fun _ _ _ => rfl
    try simp only [go_sem, ↓reduceIte, Nat.reduceEqDiff, Nat.reduceAdd, Nat.reduceMul, Nat.reduceLeDiff, Nat.reduceLT, Int.reduceEq, Int.toNat_natCast, hF.at 0 rfl, hF.at 1 rfl, hF.at 2 rfl]
    obtain ⟨x53, g14, H⟩ := bnd H
    refine aGd_cutN 4 49 53 (.bool x53) (aGd_introN (fun q15 => ?_) (fun q15 => ?_)) (fun J => ?_)
    · rw [if_neg (b_f q15)] at g14
      try simp only [go_sem, ↓reduceIte, Nat.reduceEqDiff, Nat.reduceAdd, Nat.reduceMul, Nat.reduceLeDiff, Nat.reduceLT, Int.reduceEq, Int.toNat_natCast, q15, hF.at 0 rfl, hF.at 1 rfl, hF.at 2 rfl]
      obtain ⟨x51, hx51, g14⟩ := bnd g14
      refine aCall_pure (impl_CountName_ok x17.1 x17.2.2 _ hx51) (by (try simp only [Fm.cells_eq]); exact WkVL.refl _) ?_
      try simp only [go_sem, ↓reduceIte, Nat.reduceEqDiff, Nat.reduceAdd, Nat.reduceMul, Nat.reduceLeDiff, Nat.reduceLT, Int.reduceEq, Int.toNat_natCast, q15, hF.at 0 rfl, hF.at 1 rfl, hF.at 2 rfl]
      refine cut_done 49 (by have e := pur g14; subst e; (first | rfl | (simp only [go_sem, ↓reduceIte, Nat.reduceEqDiff, Nat.reduceAdd, Nat.reduceMul, Nat.reduceLeDiff, Nat.reduceLT, Int.reduceEq, Int.toNat_natCast, q15]; done) | (simp only [go_sem, ↓reduceIte, Nat.reduceEqDiff, Nat.reduceAdd, Nat.reduceMul, Nat.reduceLeDiff, Nat.reduceLT, Int.reduceEq, Int.toNat_natCast, q15]; simp_all [upd_app]) | simp_all [upd_app])) ?_
      (repeat (first | refine agree_upd (by decide) ?_ | refine agree_low (by decide) ?_)) <;> (repeat (first | refine agree_updR (by decide) ?_ | refine agree_lowR (by decide) ?_)) <;> exact fun _ _ _ => rfl
    · rw [if_pos (q15)] at g14
      try simp only [go_sem, ↓reduceIte, Nat.reduceEqDiff, Nat.reduceAdd, Nat.reduceMul, Nat.reduceLeDiff, Nat.reduceLT, Int.reduceEq, Int.toNat_natCast, q15, hF.at 0 rfl, hF.at 1 rfl, hF.at 2 rfl]
      refine cut_done 49 (by have e := pur g14; subst e; (first | rfl | (simp only [go_sem, ↓reduceIte, Nat.reduceEqDiff, Nat.reduceAdd, Nat.reduceMul, Nat.reduceLeDiff, Nat.reduceLT, Int.reduceEq, Int.toNat_natCast, q15]; done) | (simp only [go_sem, ↓reduceIte, Nat.reduceEqDiff, Nat.reduceAdd, Nat.reduceMul, Nat.reduceLeDiff, Nat.reduceLT, Int.reduceEq, Int.toNat_natCast, q15]; simp_all [upd_app]) | simp_all [upd_app])) ?_
      (repeat (first | refine agree_upd (by decide) ?_ | refine agree_low (by decide) ?_)) <;> (repeat (first | refine agree_updR (by decide) ?_ | refine agree_lowR (by decide) ?_)) <;> exact fun _ _ _ => rfl
    try simp only [go_sem, ↓reduceIte, Nat.reduceEqDiff, Nat.reduceAdd, Nat.reduceMul, Nat.reduceLeDiff, Nat.reduceLT, Int.reduceEq, Int.toNat_natCast, hF.at 0 rfl, hF.at 1 rfl, hF.at 2 rfl]
    refine aCnd_b x53 rfl (fun h => ?_) (fun h => ?_)
    · rw [if_pos h] at H
      try simp only [go_sem, ↓reduceIte, Nat.reduceEqDiff, Nat.reduceAdd, Nat.reduceMul, Nat.reduceLeDiff, Nat.reduceLT, Int.reduceEq, Int.toNat_natCast, hF.at 0 rfl, hF.at 1 rfl, hF.at 2 rfl]
      obtain ⟨x56, hx56, H⟩ := bnd H
      refine aCall_pure (impl_FormSame_ok x25.1 x32.1 _ hx56) (by (try simp only [Fm.cells_eq]); exact WkVL.refl _) ?_
      try simp only [go_sem, ↓reduceIte, Nat.reduceEqDiff, Nat.reduceAdd, Nat.reduceMul, Nat.reduceLeDiff, Nat.reduceLT, Int.reduceEq, Int.toNat_natCast, hF.at 0 rfl, hF.at 1 rfl, hF.at 2 rfl]
      obtain ⟨x61, g16, H⟩ := bnd H
      refine aGd_cutN 3 58 61 (.bool x61) (aGd_intro (fun q17 => ?_) (fun q17 => ?_)) (fun J => ?_)
      · try simp only [go_sem, ↓reduceIte, Nat.reduceEqDiff, Nat.reduceAdd, Nat.reduceMul, Nat.reduceLeDiff, Nat.reduceLT, Int.reduceEq, Int.toNat_natCast, q17, hF.at 0 rfl, hF.at 1 rfl, hF.at 2 rfl]
        refine cut_done 58 (by have e := pur g16; subst e; (first | rfl | (simp only [go_sem, ↓reduceIte, Nat.reduceEqDiff, Nat.reduceAdd, Nat.reduceMul, Nat.reduceLeDiff, Nat.reduceLT, Int.reduceEq, Int.toNat_natCast, q17]; done) | (simp only [go_sem, ↓reduceIte, Nat.reduceEqDiff, Nat.reduceAdd, Nat.reduceMul, Nat.reduceLeDiff, Nat.reduceLT, Int.reduceEq, Int.toNat_natCast, q17]; simp_all [upd_app]) | simp_all [upd_app])) ?_
        (repeat (first | refine agree_upd (by decide) ?_ | refine agree_low (by decide) ?_)) <;> (repeat (first | refine agree_updR (by decide) ?_ | refine agree_lowR (by decide) ?_)) <;> exact fun _ _ _ => rfl
      · try simp only [go_sem, ↓reduceIte, Nat.reduceEqDiff, Nat.reduceAdd, Nat.reduceMul, Nat.reduceLeDiff, Nat.reduceLT, Int.reduceEq, Int.toNat_natCast, q17, hF.at 0 rfl, hF.at 1 rfl, hF.at 2 rfl]
        refine cut_done 58 (by have e := pur g16; subst e; (first | rfl | (simp only [go_sem, ↓reduceIte, Nat.reduceEqDiff, Nat.reduceAdd, Nat.reduceMul, Nat.reduceLeDiff, Nat.reduceLT, Int.reduceEq, Int.toNat_natCast, q17]; done) | (simp only [go_sem, ↓reduceIte, Nat.reduceEqDiff, Nat.reduceAdd, Nat.reduceMul, Nat.reduceLeDiff, Nat.reduceLT, Int.reduceEq, Int.toNat_natCast, q17]; simp_all [upd_app]) | simp_all [upd_app])) ?_
        (repeat (first | refine agree_upd (by decide) ?_ | refine agree_low (by decide) ?_)) <;> (repeat (first | refine agree_updR (by decide) ?_ | refine agree_lowR (by decide) ?_)) <;> exact fun _ _ _ => rfl
      try simp only [go_sem, ↓reduceIte, Nat.reduceEqDiff, Nat.reduceAdd, Nat.reduceMul, Nat.reduceLeDiff, Nat.reduceLT, Int.reduceEq, Int.toNat_natCast, hF.at 0 rfl, hF.at 1 rfl, hF.at 2 rfl]
      have e := pur H; subst e
      exact fx_ret (vs := [.bool x61]) (by first | (simp only [go_sem, ↓reduceIte, Nat.reduceEqDiff, Nat.reduceAdd, Nat.reduceMul, Nat.reduceLeDiff, Nat.reduceLT, Int.reduceEq, Int.toNat_natCast, hF.at 0 rfl, hF.at 1 rfl, hF.at 2 rfl]; done) | rfl | (simp only [go_sem, ↓reduceIte, Nat.reduceEqDiff, Nat.reduceAdd, Nat.reduceMul, Nat.reduceLeDiff, Nat.reduceLT, Int.reduceEq, Int.toNat_natCast, hF.at 0 rfl, hF.at 1 rfl, hF.at 2 rfl]; rfl)) (hF.wk0 _)
    · rw [if_neg h] at H
      try simp only [go_sem, ↓reduceIte, Nat.reduceEqDiff, Nat.reduceAdd, Nat.reduceMul, Nat.reduceLeDiff, Nat.reduceLT, Int.reduceEq, Int.toNat_natCast, hF.at 0 rfl, hF.at 1 rfl, hF.at 2 rfl]
      obtain ⟨x66, hx66, H⟩ := bnd H
      refine aCall_pure (impl_RenameName_ok x25.1 x17.2.2 x17.2.1 _ hx66) (by (try simp only [Fm.cells_eq]); exact WkVL.refl _) ?_
      try simp only [go_sem, ↓reduceIte, Nat.reduceEqDiff, Nat.reduceAdd, Nat.reduceMul, Nat.reduceLeDiff, Nat.reduceLT, Int.reduceEq, Int.toNat_natCast, hF.at 0 rfl, hF.at 1 rfl, hF.at 2 rfl]
      refine fx_alloc hF rfl fun b18 σ19 hF => ?_
      try simp only [go_sem, ↓reduceIte, Nat.reduceEqDiff, Nat.reduceAdd, Nat.reduceMul, Nat.reduceLeDiff, Nat.reduceLT, Int.reduceEq, Int.toNat_natCast, hF.at 0 rfl, hF.at 1 rfl, hF.at 2 rfl, hF.at 3 rfl]
      refine fx_store hF 0 (cells' := [.int .i64 x66.1.kind, .str x66.1.name, .int .i64 x66.1.num, .sl false (rws cI x66.1.sc), .sl false (rws Fm.cells x66.1.kids)]) rfl rfl rfl (by simp only [List.length_cons, List.length_nil]; decide) (by first | rfl | simp [splice_eq]) fun σ20 hF => ?_
      try simp only [go_sem, ↓reduceIte, Nat.reduceEqDiff, Nat.reduceAdd, Nat.reduceMul, Nat.reduceLeDiff, Nat.reduceLT, Int.reduceEq, Int.toNat_natCast, hF.at 0 rfl, hF.at 1 rfl, hF.at 2 rfl, hF.at 3 rfl]
      obtain ⟨x74, g21, H⟩ := bnd H
      refine aGd_cutN 3 71 74 (.bool x74) (aGd_intro (fun q22 => ?_) (fun q22 => ?_)) (fun J => ?_)
      · rw [if_pos (q22)] at g21
        try simp only [go_sem, ↓reduceIte, Nat.reduceEqDiff, Nat.reduceAdd, Nat.reduceMul, Nat.reduceLeDiff, Nat.reduceLT, Int.reduceEq, Int.toNat_natCast, q22, hF.at 0 rfl, hF.at 1 rfl, hF.at 2 rfl, hF.at 3 rfl]
        obtain ⟨x73, hx73, g21⟩ := bnd g21
        refine aCall_pure (impl_FormSame_ok x66.1 x17.1 _ hx73) (by (try simp only [Fm.cells_eq]); exact WkVL.refl _) ?_
        try simp only [go_sem, ↓reduceIte, Nat.reduceEqDiff, Nat.reduceAdd, Nat.reduceMul, Nat.reduceLeDiff, Nat.reduceLT, Int.reduceEq, Int.toNat_natCast, q22, hF.at 0 rfl, hF.at 1 rfl, hF.at 2 rfl, hF.at 3 rfl]
        refine cut_done 71 (by have e := pur g21; subst e; (first | rfl | (simp only [go_sem, ↓reduceIte, Nat.reduceEqDiff, Nat.reduceAdd, Nat.reduceMul, Nat.reduceLeDiff, Nat.reduceLT, Int.reduceEq, Int.toNat_natCast, q22]; done) | (simp only [go_sem, ↓reduceIte, Nat.reduceEqDiff, Nat.reduceAdd, Nat.reduceMul, Nat.reduceLeDiff, Nat.reduceLT, Int.reduceEq, Int.toNat_natCast, q22]; simp_all [upd_app]) | simp_all [upd_app])) ?_
        (repeat (first | refine agree_upd (by decide) ?_ | refine agree_low (by decide) ?_)) <;> (repeat (first | refine agree_updR (by decide) ?_ | refine agree_lowR (by decide) ?_)) <;> exact fun _ _ _ => rfl
      · rw [if_neg (b_f q22)] at g21
        try simp only [go_sem, ↓reduceIte, Nat.reduceEqDiff, Nat.reduceAdd, Nat.reduceMul, Nat.reduceLeDiff, Nat.reduceLT, Int.reduceEq, Int.toNat_natCast, q22, hF.at 0 rfl, hF.at 1 rfl, hF.at 2 rfl, hF.at 3 rfl]
        refine cut_done 71 (by have e := pur g21; subst e; (first | rfl | (simp only [go_sem, ↓reduceIte, Nat.reduceEqDiff, Nat.reduceAdd, Nat.reduceMul, Nat.reduceLeDiff, Nat.reduceLT, Int.reduceEq, Int.toNat_natCast, q22]; done) | (simp only [go_sem, ↓reduceIte, Nat.reduceEqDiff, Nat.reduceAdd, Nat.reduceMul, Nat.reduceLeDiff, Nat.reduceLT, Int.reduceEq, Int.toNat_natCast, q22]; simp_all [upd_app]) | simp_all [upd_app])) ?_
        (repeat (first | refine agree_upd (by decide) ?_ | refine agree_low (by decide) ?_)) <;> (repeat (first | refine agree_updR (by decide) ?_ | refine agree_lowR (by decide) ?_)) <;> exact fun _ _ _ => rfl
      try simp only [go_sem, ↓reduceIte, Nat.reduceEqDiff, Nat.reduceAdd, Nat.reduceMul, Nat.reduceLeDiff, Nat.reduceLT, Int.reduceEq, Int.toNat_natCast, hF.at 0 rfl, hF.at 1 rfl, hF.at 2 rfl, hF.at 3 rfl]
      have e := pur H; subst e
      exact fx_ret (vs := [.bool x74]) (by first | (simp only [go_sem, ↓reduceIte, Nat.reduceEqDiff, Nat.reduceAdd, Nat.reduceMul, Nat.reduceLeDiff, Nat.reduceLT, Int.reduceEq, Int.toNat_natCast, hF.at 0 rfl, hF.at 1 rfl, hF.at 2 rfl, hF.at 3 rfl]; done) | rfl | (simp only [go_sem, ↓reduceIte, Nat.reduceEqDiff, Nat.reduceAdd, Nat.reduceMul, Nat.reduceLeDiff, Nat.reduceLT, Int.reduceEq, Int.toNat_natCast, hF.at 0 rfl, hF.at 1 rfl, hF.at 2 rfl, hF.at 3 rfl]; rfl)) (hF.wk0 _)
end Go.Proofs.SA
