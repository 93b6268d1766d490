/- The code computes the plain functions: walks, printed by a program of mine. -/
import Derived.Test.YtmhcigdcappdgaaGy
import Derived.Test.YtmhcigdcappdgaaSaTy
import Derived.Test.YtmhcigdcappdgaaChecked
import Derived.Lib.Strings
import Derived.Lib.Slices
import Derived.Lib.Walk
import Derived.Lib.Bytealg
import Derived.Test.YtmhcigdcappdgaaRnD
set_option maxRecDepth 100000
set_option linter.unusedSimpArgs false
set_option linter.unusedVariables false
open Go Go.Proofs Go.Proofs.Shadow
namespace Go.Proofs.SA
theorem spec_l15Open_ok : ∀ (a0 : List Int) r, spec_l15Open a0 = some r → ∀   (σ : Sto), Pre σ [] [] → Ctr Try.prog 17 [.sl false (rws cU a0)] σ (fun r' σ' => ∃ (τ' : Sto) (n0 : Nat), r' = .ptr n0 0 ∧ Tau (strip σ []) [] τ' ∧ Fx τ' σ' [(n0, ⟨59, 2, [.sl false (rws cU r.b), .int .i64 r.p]⟩)] []) := by
  intro a0 r H
  intro   σ hP
  unfold spec_l15Open at H
  refine ctr_of mixed Try.func17 rfl (by kernel_rfl) (rs := [.tmp 2]) rfl (by kernel_rfl) ?_
  obtain ⟨hF, hX⟩ := hP.start
  generalize strip σ [] = τ0 at hF hX ⊢
  try simp only [go_sem, ↓reduceIte, Nat.reduceEqDiff, Nat.reduceAdd, Nat.reduceMul, Nat.reduceLeDiff, Nat.reduceLT, Int.reduceEq, Int.toNat_natCast]
  refine aCnd_p ((a0.length : Int) > 2000) rfl (fun h => ?_) (fun h => ?_)
  · rw [if_pos h] at H
    obtain ⟨x7, hx7, H⟩ := bnd H
    try simp only [go_sem, ↓reduceIte, Nat.reduceEqDiff, Nat.reduceAdd, Nat.reduceMul, Nat.reduceLeDiff, Nat.reduceLT, Int.reduceEq, Int.toNat_natCast, aslice_lsub (lo := none) (hi := some (.int .i64 2000)) (g := cU) (fun _ => rfl) rfl rfl hx7]
    refine fx_alloc hF rfl fun b1 σ2 hF => ?_
    try simp only [go_sem, ↓reduceIte, Nat.reduceEqDiff, Nat.reduceAdd, Nat.reduceMul, Nat.reduceLeDiff, Nat.reduceLT, Int.reduceEq, Int.toNat_natCast, hF.at 0 rfl]
    have e := pur H; subst e
    exact gRet (vs := [.ptr b1 0]) (by first | (simp only [go_sem, ↓reduceIte, Nat.reduceEqDiff, Nat.reduceAdd, Nat.reduceMul, Nat.reduceLeDiff, Nat.reduceLT, Int.reduceEq, Int.toNat_natCast, hF.at 0 rfl]; done) | rfl | (simp only [go_sem, ↓reduceIte, Nat.reduceEqDiff, Nat.reduceAdd, Nat.reduceMul, Nat.reduceLeDiff, Nat.reduceLT, Int.reduceEq, Int.toNat_natCast, hF.at 0 rfl]; rfl)) (Wk.refl _ _) ⟨_, _, rfl, hX, hF.pick [0] [] (by decide) (by decide)⟩
  · rw [if_neg h] at H
    try simp only [go_sem, ↓reduceIte, Nat.reduceEqDiff, Nat.reduceAdd, Nat.reduceMul, Nat.reduceLeDiff, Nat.reduceLT, Int.reduceEq, Int.toNat_natCast]
    refine fx_alloc hF rfl fun b3 σ4 hF => ?_
    try simp only [go_sem, ↓reduceIte, Nat.reduceEqDiff, Nat.reduceAdd, Nat.reduceMul, Nat.reduceLeDiff, Nat.reduceLT, Int.reduceEq, Int.toNat_natCast, hF.at 0 rfl]
    have e := pur H; subst e
    exact gRet (vs := [.ptr b3 0]) (by first | (simp only [go_sem, ↓reduceIte, Nat.reduceEqDiff, Nat.reduceAdd, Nat.reduceMul, Nat.reduceLeDiff, Nat.reduceLT, Int.reduceEq, Int.toNat_natCast, hF.at 0 rfl]; done) | rfl | (simp only [go_sem, ↓reduceIte, Nat.reduceEqDiff, Nat.reduceAdd, Nat.reduceMul, Nat.reduceLeDiff, Nat.reduceLT, Int.reduceEq, Int.toNat_natCast, hF.at 0 rfl]; rfl)) (Wk.refl _ _) ⟨_, _, rfl, hX, hF.pick [0] [] (by decide) (by decide)⟩
theorem spec_l15Rd_pick_ok : ∀ (a1 : Int) (c0 : Rdr) r, spec_l15Rd_pick a1 c0 = some r → ∀ (e0 : Nat)  (σ : Sto), Pre σ [(e0, ⟨59, 2, [.sl false (rws cU c0.b), .int .i64 c0.p]⟩)] [] → Ctr Try.prog 33 [.ptr e0 0, .int .i64 a1] σ (fun r' σ' => ∃ (τ' : Sto), r' = .int .i64 r.1 ∧ Tau (strip σ []) [(e0, ⟨59, 2, [.sl false (rws cU r.2.b), .int .i64 r.2.p]⟩)] τ' ∧ Fx τ' σ' [] []) := by
  intro a1 c0 r H
  intro e0  σ hP
  unfold spec_l15Rd_pick at H
  refine ctr_of mixed Try.func33 rfl (by kernel_rfl) (rs := [.tmp 4]) rfl (by kernel_rfl) ?_
  obtain ⟨hF, hX⟩ := hP.start
  generalize strip σ [] = τ0 at hF hX ⊢
  try simp only [go_sem, ↓reduceIte, Nat.reduceEqDiff, Nat.reduceAdd, Nat.reduceMul, Nat.reduceLeDiff, Nat.reduceLT, Int.reduceEq, Int.toNat_natCast, hF.xat hX 0 rfl]
  refine fx_storeT hF hX 0 (cells' := [.sl false (rws cU c0.b), .int .i64 (IntKind.i64.wrap (c0.p + 1))]) rfl rfl rfl (by simp only [List.length_cons, List.length_nil]; decide) (by first | rfl | simp [splice_eq]) fun τ2 σ1 hF hX => ?_
  try simp only [go_sem, ↓reduceIte, Nat.reduceEqDiff, Nat.reduceAdd, Nat.reduceMul, Nat.reduceLeDiff, Nat.reduceLT, Int.reduceEq, Int.toNat_natCast, hF.xat hX 0 rfl]
  obtain ⟨x24, g3, H⟩ := bnd H
  refine aGd_cutN 6 18 24 (.bool x24) (aGd_introN (fun q4 => ?_) (fun q4 => ?_)) (fun J => ?_)
  · try simp only [go_sem, ↓reduceIte, Nat.reduceEqDiff, Nat.reduceAdd, Nat.reduceMul, Nat.reduceLeDiff, Nat.reduceLT, Int.reduceEq, Int.toNat_natCast, q4, hF.xat hX 0 rfl]
    refine cut_done 18 (by have e := pur g3; subst e; (first | rfl | (simp only [go_sem, ↓reduceIte, Nat.reduceEqDiff, Nat.reduceAdd, Nat.reduceMul, Nat.reduceLeDiff, Nat.reduceLT, Int.reduceEq, Int.toNat_natCast, q4]; done) | (simp only [go_sem, ↓reduceIte, Nat.reduceEqDiff, Nat.reduceAdd, Nat.reduceMul, Nat.reduceLeDiff, Nat.reduceLT, Int.reduceEq, Int.toNat_natCast, q4]; simp_all [upd_app]) | simp_all [upd_app])) ?_
    (repeat (first | refine agree_upd (by decide) ?_ | refine agree_low (by decide) ?_)) <;> (repeat (first | refine agree_updR (by decide) ?_ | refine agree_lowR (by decide) ?_)) <;> exact fun _ _ _ => rfl
  · try simp only [go_sem, ↓reduceIte, Nat.reduceEqDiff, Nat.reduceAdd, Nat.reduceMul, Nat.reduceLeDiff, Nat.reduceLT, Int.reduceEq, Int.toNat_natCast, q4, hF.xat hX 0 rfl]
    refine cut_done 18 (by have e := pur g3; subst e; (first | rfl | (simp only [go_sem, ↓reduceIte, Nat.reduceEqDiff, Nat.reduceAdd, Nat.reduceMul, Nat.reduceLeDiff, Nat.reduceLT, Int.reduceEq, Int.toNat_natCast, q4]; done) | (simp only [go_sem, ↓reduceIte, Nat.reduceEqDiff, Nat.reduceAdd, Nat.reduceMul, Nat.reduceLeDiff, Nat.reduceLT, Int.reduceEq, Int.toNat_natCast, q4]; simp_all [upd_app]) | simp_all [upd_app])) ?_
    (repeat (first | refine agree_upd (by decide) ?_ | refine agree_low (by decide) ?_)) <;> (repeat (first | refine agree_updR (by decide) ?_ | refine agree_lowR (by decide) ?_)) <;> exact fun _ _ _ => rfl
  try simp only [go_sem, ↓reduceIte, Nat.reduceEqDiff, Nat.reduceAdd, Nat.reduceMul, Nat.reduceLeDiff, Nat.reduceLT, Int.reduceEq, Int.toNat_natCast, hF.xat hX 0 rfl]
  refine aCnd_b x24 rfl (fun h => ?_) (fun h => ?_)
  · rw [if_pos h] at H
    try simp only [go_sem, ↓reduceIte, Nat.reduceEqDiff, Nat.reduceAdd, Nat.reduceMul, Nat.reduceLeDiff, Nat.reduceLT, Int.reduceEq, Int.toNat_natCast, hF.xat hX 0 rfl]
    have e := pur H; subst e
    exact gRet (vs := [.int .i64 0]) (by first | (simp only [go_sem, ↓reduceIte, Nat.reduceEqDiff, Nat.reduceAdd, Nat.reduceMul, Nat.reduceLeDiff, Nat.reduceLT, Int.reduceEq, Int.toNat_natCast, hF.xat hX 0 rfl]; done) | rfl | (simp only [go_sem, ↓reduceIte, Nat.reduceEqDiff, Nat.reduceAdd, Nat.reduceMul, Nat.reduceLeDiff, Nat.reduceLT, Int.reduceEq, Int.toNat_natCast, hF.xat hX 0 rfl]; rfl)) (hF.wk0 _) ⟨_, rfl, hX, Fx.self _⟩
  · rw [if_neg h] at H
    try simp only [go_sem, ↓reduceIte, Nat.reduceEqDiff, Nat.reduceAdd, Nat.reduceMul, Nat.reduceLeDiff, Nat.reduceLT, Int.reduceEq, Int.toNat_natCast, hF.xat hX 0 rfl]
    refine aCnd_p ((IntKind.i64.wrap ((IntKind.i64.wrap (c0.p + 1)) - 1)) < (c0.b.length : Int)) rfl (fun h => ?_) (fun h => ?_)
    · rw [if_pos h] at H
      obtain ⟨x42, hx42, H⟩ := bnd H
      obtain ⟨x46, hx46, H⟩ := bnd H
      try simp only [go_sem, ↓reduceIte, Nat.reduceEqDiff, Nat.reduceAdd, Nat.reduceMul, Nat.reduceLeDiff, Nat.reduceLT, Int.reduceEq, Int.toNat_natCast, hF.xat hX 0 rfl, aidx_idx (g := cU) (fun _ => rfl) hx42, abinI_irem hx46]
      have e := pur H; subst e
      exact gRet (vs := [.int .i64 x46]) (by first | (simp only [go_sem, ↓reduceIte, Nat.reduceEqDiff, Nat.reduceAdd, Nat.reduceMul, Nat.reduceLeDiff, Nat.reduceLT, Int.reduceEq, Int.toNat_natCast, hF.xat hX 0 rfl]; done) | rfl | (simp only [go_sem, ↓reduceIte, Nat.reduceEqDiff, Nat.reduceAdd, Nat.reduceMul, Nat.reduceLeDiff, Nat.reduceLT, Int.reduceEq, Int.toNat_natCast, hF.xat hX 0 rfl]; rfl)) (hF.wk0 _) ⟨_, rfl, hX, Fx.self _⟩
    · rw [if_neg h] at H
      try simp only [go_sem, ↓reduceIte, Nat.reduceEqDiff, Nat.reduceAdd, Nat.reduceMul, Nat.reduceLeDiff, Nat.reduceLT, Int.reduceEq, Int.toNat_natCast, hF.xat hX 0 rfl]
      refine draw_text E0 [.v, .v, .v, .v, .v, .v, .v, .v, .v, .v, .v, .v, .v, .v, .v, .v, .v, .v, .v, .v, .v, .v, .v, .v, .v, .v, .v, .v, .v, .v, .v, .v, .v, .v, .v, .v, .v, .v, .v, .v, .v, .v, .v, .v, .v, .v] (by kernel_rfl) ?_
      obtain ⟨x57, hx57, H⟩ := bnd H
      obtain ⟨x58, hx58, H⟩ := bnd H
      obtain ⟨x74, hx74, H⟩ := bnd H
      obtain ⟨x75, hx75, H⟩ := bnd H
      obtain ⟨x89, hx89, H⟩ := bnd H
      obtain ⟨x98, hx98, H⟩ := bnd H
      try simp only [go_sem, ↓reduceIte, Nat.reduceEqDiff, Nat.reduceAdd, Nat.reduceMul, Nat.reduceLeDiff, Nat.reduceLT, Int.reduceEq, Int.toNat_natCast, hF.xat hX 0 rfl, abinI_irem hx57, aidx_idx (g := cU) (fun _ => rfl) hx58, abinI_irem hx74, aidx_idx (g := cU) (fun _ => rfl) hx75, abinI_iquo hx89, abinI_irem hx98]
      have e := pur H; subst e
      exact gRet (vs := [.int .i64 x98]) (by first | (simp only [go_sem, ↓reduceIte, Nat.reduceEqDiff, Nat.reduceAdd, Nat.reduceMul, Nat.reduceLeDiff, Nat.reduceLT, Int.reduceEq, Int.toNat_natCast, hF.xat hX 0 rfl]; done) | rfl | (simp only [go_sem, ↓reduceIte, Nat.reduceEqDiff, Nat.reduceAdd, Nat.reduceMul, Nat.reduceLeDiff, Nat.reduceLT, Int.reduceEq, Int.toNat_natCast, hF.xat hX 0 rfl]; rfl)) (hF.wk0 _) ⟨_, rfl, hX, Fx.self _⟩
theorem spec_l1Skip_l0_ok : ∀ (a0 : ByteArray) (z0t_1 : Int) out, spec_l1Skip_l0 a0 z0t_1 = some out → ∀ c, loopAt Try.f57 0 = some c → ∀ (Q : AX → AS → Prop) (τ : Sto), (∀ (e0t_1 : Int), out = e0t_1 → ∀ (T : Nat → AV) (σ : Sto), T 1 = .int .i64 e0t_1 → T 4 = .int .i64 0 → Fx τ σ [] [] → Q (.ex 0) ⟨T, σ⟩) → True → ∀ (T : Nat → AV) (σ : Sto), T 0 = .str a0 → T 1 = .int .i64 z0t_1 → T 4 = .int .i64 0 → Fx τ σ [] [] → aLoop (acode Try.prog c) Q ⟨T, σ⟩ := by
  intro a0 z0t_1
  revert z0t_1
  refine spec_l1Skip_l0.partial_correctness a0 _ ?_
  intro spec_l1Skip_l0 IH z0t_1 out H c hc Q τ  hE hR T σ t0 t1 t4 hF
  obtain rfl := Option.some.inj ((rfl : loopAt Try.f57 0 = some _).symm.trans hc)
  refine aLoop_round ?_
  try simp only [go_sem, ↓reduceIte, Nat.reduceEqDiff, Nat.reduceAdd, Nat.reduceMul, Nat.reduceLeDiff, Nat.reduceLT, Int.reduceEq, Int.toNat_natCast, t0, t1, t4]
  obtain ⟨x14, g1, H⟩ := bnd H
  refine aGd_cutN 4 10 14 (.bool x14) (aGd_intro (fun q2 => ?_) (fun q2 => ?_)) (fun J => ?_)
  · rw [if_pos (of_decide_eq_true q2)] at g1
    obtain ⟨x12, hx12, g1⟩ := bnd g1
    try simp only [go_sem, ↓reduceIte, Nat.reduceEqDiff, Nat.reduceAdd, Nat.reduceMul, Nat.reduceLeDiff, Nat.reduceLT, Int.reduceEq, Int.toNat_natCast, t0, t1, t4, q2, aindex_sidx hx12]
    refine cut_done 10 (by have e := pur g1; subst e; (first | rfl | (simp only [go_sem, ↓reduceIte, Nat.reduceEqDiff, Nat.reduceAdd, Nat.reduceMul, Nat.reduceLeDiff, Nat.reduceLT, Int.reduceEq, Int.toNat_natCast, q2]; done) | (simp only [go_sem, ↓reduceIte, Nat.reduceEqDiff, Nat.reduceAdd, Nat.reduceMul, Nat.reduceLeDiff, Nat.reduceLT, Int.reduceEq, Int.toNat_natCast, q2]; simp_all [upd_app]) | simp_all [upd_app])) ?_
    (repeat (first | refine agree_upd (by decide) ?_ | refine agree_low (by decide) ?_)) <;> (repeat (first | refine agree_updR (by decide) ?_ | refine agree_lowR (by decide) ?_)) <;> exact fun _ _ _ => rfl
  · rw [if_neg (of_decide_eq_false q2)] at g1
    try simp only [go_sem, ↓reduceIte, Nat.reduceEqDiff, Nat.reduceAdd, Nat.reduceMul, Nat.reduceLeDiff, Nat.reduceLT, Int.reduceEq, Int.toNat_natCast, t0, t1, t4, q2]
    refine cut_done 10 (by have e := pur g1; subst e; (first | rfl | (simp only [go_sem, ↓reduceIte, Nat.reduceEqDiff, Nat.reduceAdd, Nat.reduceMul, Nat.reduceLeDiff, Nat.reduceLT, Int.reduceEq, Int.toNat_natCast, q2]; done) | (simp only [go_sem, ↓reduceIte, Nat.reduceEqDiff, Nat.reduceAdd, Nat.reduceMul, Nat.reduceLeDiff, Nat.reduceLT, Int.reduceEq, Int.toNat_natCast, q2]; simp_all [upd_app]) | simp_all [upd_app])) ?_
    (repeat (first | refine agree_upd (by decide) ?_ | refine agree_low (by decide) ?_)) <;> (repeat (first | refine agree_updR (by decide) ?_ | refine agree_lowR (by decide) ?_)) <;> exact fun _ _ _ => rfl
  try simp only [go_sem, ↓reduceIte, Nat.reduceEqDiff, Nat.reduceAdd, Nat.reduceMul, Nat.reduceLeDiff, Nat.reduceLT, Int.reduceEq, Int.toNat_natCast, t0, t1, t4]
  refine aCnd_b x14 rfl (fun h => ?_) (fun h => ?_)
  · rw [if_pos h] at H
    try simp only [go_sem, ↓reduceIte, Nat.reduceEqDiff, Nat.reduceAdd, Nat.reduceMul, Nat.reduceLeDiff, Nat.reduceLT, Int.reduceEq, Int.toNat_natCast, t0, t1, t4]
    exact IH  (IntKind.i64.wrap (z0t_1 + 1)) _ H _ rfl Q τ  hE hR _ _  (by first | (simp only [go_sem, ↓reduceIte, Nat.reduceEqDiff, Nat.reduceAdd, Nat.reduceMul, Nat.reduceLeDiff, Nat.reduceLT, Int.reduceEq, Int.toNat_natCast, t0, t1, t4]; done) | rfl | (simp only [go_sem, ↓reduceIte, Nat.reduceEqDiff, Nat.reduceAdd, Nat.reduceMul, Nat.reduceLeDiff, Nat.reduceLT, Int.reduceEq, Int.toNat_natCast, t0, t1, t4]; rfl)) (by first | (simp only [go_sem, ↓reduceIte, Nat.reduceEqDiff, Nat.reduceAdd, Nat.reduceMul, Nat.reduceLeDiff, Nat.reduceLT, Int.reduceEq, Int.toNat_natCast, t0, t1, t4]; done) | rfl | (simp only [go_sem, ↓reduceIte, Nat.reduceEqDiff, Nat.reduceAdd, Nat.reduceMul, Nat.reduceLeDiff, Nat.reduceLT, Int.reduceEq, Int.toNat_natCast, t0, t1, t4]; rfl)) (by first | (simp only [go_sem, ↓reduceIte, Nat.reduceEqDiff, Nat.reduceAdd, Nat.reduceMul, Nat.reduceLeDiff, Nat.reduceLT, Int.reduceEq, Int.toNat_natCast, t0, t1, t4]; done) | rfl | (simp only [go_sem, ↓reduceIte, Nat.reduceEqDiff, Nat.reduceAdd, Nat.reduceMul, Nat.reduceLeDiff, Nat.reduceLT, Int.reduceEq, Int.toNat_natCast, t0, t1, t4]; rfl)) hF
  · rw [if_neg h] at H
    try simp only [go_sem, ↓reduceIte, Nat.reduceEqDiff, Nat.reduceAdd, Nat.reduceMul, Nat.reduceLeDiff, Nat.reduceLT, Int.reduceEq, Int.toNat_natCast, t0, t1, t4]
    exact hE _ (pur H).symm _ _  (by first | (simp only [go_sem, ↓reduceIte, Nat.reduceEqDiff, Nat.reduceAdd, Nat.reduceMul, Nat.reduceLeDiff, Nat.reduceLT, Int.reduceEq, Int.toNat_natCast, t0, t1, t4]; done) | rfl | (simp only [go_sem, ↓reduceIte, Nat.reduceEqDiff, Nat.reduceAdd, Nat.reduceMul, Nat.reduceLeDiff, Nat.reduceLT, Int.reduceEq, Int.toNat_natCast, t0, t1, t4]; rfl)) (by first | (simp only [go_sem, ↓reduceIte, Nat.reduceEqDiff, Nat.reduceAdd, Nat.reduceMul, Nat.reduceLeDiff, Nat.reduceLT, Int.reduceEq, Int.toNat_natCast, t0, t1, t4]; done) | rfl | (simp only [go_sem, ↓reduceIte, Nat.reduceEqDiff, Nat.reduceAdd, Nat.reduceMul, Nat.reduceLeDiff, Nat.reduceLT, Int.reduceEq, Int.toNat_natCast, t0, t1, t4]; rfl)) hF
theorem spec_l1Skip_ok : ∀ (a0 : ByteArray) (a1 : Int) r, spec_l1Skip a0 a1 = some r → PCtr Try.prog 57 [.str a0, .int .i64 a1] (.int .i64 r) := by
  intro a0 a1 r H
  intro σ
  unfold spec_l1Skip at H
  refine ctr_of mixed Try.func57 rfl (by kernel_rfl) (rs := [.tmp 4]) rfl (by kernel_rfl) ?_
  have hF := Fx.refl σ
  have hX := Tau.none σ
  try simp only [go_sem, ↓reduceIte, Nat.reduceEqDiff, Nat.reduceAdd, Nat.reduceMul, Nat.reduceLeDiff, Nat.reduceLT, Int.reduceEq, Int.toNat_natCast]
  obtain ⟨o3, ho3, H⟩ := bnd H
  refine spec_l1Skip_l0_ok a0 a1 _ ho3 _ rfl _ _  ?_ ?_ _ _  (by first | (simp only [go_sem, ↓reduceIte, Nat.reduceEqDiff, Nat.reduceAdd, Nat.reduceMul, Nat.reduceLeDiff, Nat.reduceLT, Int.reduceEq, Int.toNat_natCast]; done) | rfl | (simp only [go_sem, ↓reduceIte, Nat.reduceEqDiff, Nat.reduceAdd, Nat.reduceMul, Nat.reduceLeDiff, Nat.reduceLT, Int.reduceEq, Int.toNat_natCast]; rfl)) (by first | (simp only [go_sem, ↓reduceIte, Nat.reduceEqDiff, Nat.reduceAdd, Nat.reduceMul, Nat.reduceLeDiff, Nat.reduceLT, Int.reduceEq, Int.toNat_natCast]; done) | rfl | (simp only [go_sem, ↓reduceIte, Nat.reduceEqDiff, Nat.reduceAdd, Nat.reduceMul, Nat.reduceLeDiff, Nat.reduceLT, Int.reduceEq, Int.toNat_natCast]; rfl)) (by first | (simp only [go_sem, ↓reduceIte, Nat.reduceEqDiff, Nat.reduceAdd, Nat.reduceMul, Nat.reduceLeDiff, Nat.reduceLT, Int.reduceEq, Int.toNat_natCast]; done) | rfl | (simp only [go_sem, ↓reduceIte, Nat.reduceEqDiff, Nat.reduceAdd, Nat.reduceMul, Nat.reduceLeDiff, Nat.reduceLT, Int.reduceEq, Int.toNat_natCast]; rfl)) hF
  · intro e4t_1 he T5 σ6 t1 t4 hF
    have he := he.symm
    subst he
    try simp only [go_sem, ↓reduceIte, Nat.reduceEqDiff, Nat.reduceAdd, Nat.reduceMul, Nat.reduceLeDiff, Nat.reduceLT, Int.reduceEq, Int.toNat_natCast, t1, t4]
    have e := pur H; subst e
    exact fx_ret (vs := [.int .i64 e4t_1]) (by first | (simp only [go_sem, ↓reduceIte, Nat.reduceEqDiff, Nat.reduceAdd, Nat.reduceMul, Nat.reduceLeDiff, Nat.reduceLT, Int.reduceEq, Int.toNat_natCast, t1, t4]; done) | rfl | (simp only [go_sem, ↓reduceIte, Nat.reduceEqDiff, Nat.reduceAdd, Nat.reduceMul, Nat.reduceLeDiff, Nat.reduceLT, Int.reduceEq, Int.toNat_natCast, t1, t4]; rfl)) (hF.wk0 _)
  · trivial
theorem spec_l1Word_l0_ok : ∀ (a0 : ByteArray) (z0t_1 : Int) out, spec_l1Word_l0 a0 z0t_1 = some out → ∀ c, loopAt Try.f60 0 = some c → ∀ (Q : AX → AS → Prop) (τ : Sto), (∀ (e0t_1 : Int), out = e0t_1 → ∀ (T : Nat → AV) (σ : Sto), T 1 = .int .i64 e0t_1 → T 4 = .int .i64 0 → Fx τ σ [] [] → Q (.ex 0) ⟨T, σ⟩) → True → ∀ (T : Nat → AV) (σ : Sto), T 0 = .str a0 → T 1 = .int .i64 z0t_1 → T 4 = .int .i64 0 → Fx τ σ [] [] → aLoop (acode Try.prog c) Q ⟨T, σ⟩ := by
  intro a0 z0t_1
  revert z0t_1
  refine spec_l1Word_l0.partial_correctness a0 _ ?_
  intro spec_l1Word_l0 IH z0t_1 out H c hc Q τ  hE hR T σ t0 t1 t4 hF
  obtain rfl := Option.some.inj ((rfl : loopAt Try.f60 0 = some _).symm.trans hc)
  refine aLoop_round ?_
  try simp only [go_sem, ↓reduceIte, Nat.reduceEqDiff, Nat.reduceAdd, Nat.reduceMul, Nat.reduceLeDiff, Nat.reduceLT, Int.reduceEq, Int.toNat_natCast, t0, t1, t4]
  obtain ⟨x14, g1, H⟩ := bnd H
  refine aGd_cutN 4 10 14 (.bool x14) (aGd_intro (fun q2 => ?_) (fun q2 => ?_)) (fun J => ?_)
  · rw [if_pos (of_decide_eq_true q2)] at g1
    obtain ⟨x12, hx12, g1⟩ := bnd g1
    try simp only [go_sem, ↓reduceIte, Nat.reduceEqDiff, Nat.reduceAdd, Nat.reduceMul, Nat.reduceLeDiff, Nat.reduceLT, Int.reduceEq, Int.toNat_natCast, t0, t1, t4, q2, aindex_sidx hx12]
    refine cut_done 10 (by have e := pur g1; subst e; (first | rfl | (simp only [go_sem, ↓reduceIte, Nat.reduceEqDiff, Nat.reduceAdd, Nat.reduceMul, Nat.reduceLeDiff, Nat.reduceLT, Int.reduceEq, Int.toNat_natCast, q2]; done) | (simp only [go_sem, ↓reduceIte, Nat.reduceEqDiff, Nat.reduceAdd, Nat.reduceMul, Nat.reduceLeDiff, Nat.reduceLT, Int.reduceEq, Int.toNat_natCast, q2]; simp_all [upd_app]) | simp_all [upd_app])) ?_
    (repeat (first | refine agree_upd (by decide) ?_ | refine agree_low (by decide) ?_)) <;> (repeat (first | refine agree_updR (by decide) ?_ | refine agree_lowR (by decide) ?_)) <;> exact fun _ _ _ => rfl
  · rw [if_neg (of_decide_eq_false q2)] at g1
    try simp only [go_sem, ↓reduceIte, Nat.reduceEqDiff, Nat.reduceAdd, Nat.reduceMul, Nat.reduceLeDiff, Nat.reduceLT, Int.reduceEq, Int.toNat_natCast, t0, t1, t4, q2]
    refine cut_done 10 (by have e := pur g1; subst e; (first | rfl | (simp only [go_sem, ↓reduceIte, Nat.reduceEqDiff, Nat.reduceAdd, Nat.reduceMul, Nat.reduceLeDiff, Nat.reduceLT, Int.reduceEq, Int.toNat_natCast, q2]; done) | (simp only [go_sem, ↓reduceIte, Nat.reduceEqDiff, Nat.reduceAdd, Nat.reduceMul, Nat.reduceLeDiff, Nat.reduceLT, Int.reduceEq, Int.toNat_natCast, q2]; simp_all [upd_app]) | simp_all [upd_app])) ?_
    (repeat (first | refine agree_upd (by decide) ?_ | refine agree_low (by decide) ?_)) <;> (repeat (first | refine agree_updR (by decide) ?_ | refine agree_lowR (by decide) ?_)) <;> exact fun _ _ _ => rfl
  try simp only [go_sem, ↓reduceIte, Nat.reduceEqDiff, Nat.reduceAdd, Nat.reduceMul, Nat.reduceLeDiff, Nat.reduceLT, Int.reduceEq, Int.toNat_natCast, t0, t1, t4]
  obtain ⟨x20, g3, H⟩ := bnd H
  refine aGd_cutN 4 16 20 (.bool x20) (aGd_intro (fun q4 => ?_) (fun q4 => ?_)) (fun J => ?_)
  · rw [if_pos (q4)] at g3
    obtain ⟨x18, hx18, g3⟩ := bnd g3
    try simp only [go_sem, ↓reduceIte, Nat.reduceEqDiff, Nat.reduceAdd, Nat.reduceMul, Nat.reduceLeDiff, Nat.reduceLT, Int.reduceEq, Int.toNat_natCast, t0, t1, t4, q4, aindex_sidx hx18]
    refine cut_done 16 (by have e := pur g3; subst e; (first | rfl | (simp only [go_sem, ↓reduceIte, Nat.reduceEqDiff, Nat.reduceAdd, Nat.reduceMul, Nat.reduceLeDiff, Nat.reduceLT, Int.reduceEq, Int.toNat_natCast, q4]; done) | (simp only [go_sem, ↓reduceIte, Nat.reduceEqDiff, Nat.reduceAdd, Nat.reduceMul, Nat.reduceLeDiff, Nat.reduceLT, Int.reduceEq, Int.toNat_natCast, q4]; simp_all [upd_app]) | simp_all [upd_app])) ?_
    (repeat (first | refine agree_upd (by decide) ?_ | refine agree_low (by decide) ?_)) <;> (repeat (first | refine agree_updR (by decide) ?_ | refine agree_lowR (by decide) ?_)) <;> exact fun _ _ _ => rfl
  · rw [if_neg (b_f q4)] at g3
    try simp only [go_sem, ↓reduceIte, Nat.reduceEqDiff, Nat.reduceAdd, Nat.reduceMul, Nat.reduceLeDiff, Nat.reduceLT, Int.reduceEq, Int.toNat_natCast, t0, t1, t4, q4]
    refine cut_done 16 (by have e := pur g3; subst e; (first | rfl | (simp only [go_sem, ↓reduceIte, Nat.reduceEqDiff, Nat.reduceAdd, Nat.reduceMul, Nat.reduceLeDiff, Nat.reduceLT, Int.reduceEq, Int.toNat_natCast, q4]; done) | (simp only [go_sem, ↓reduceIte, Nat.reduceEqDiff, Nat.reduceAdd, Nat.reduceMul, Nat.reduceLeDiff, Nat.reduceLT, Int.reduceEq, Int.toNat_natCast, q4]; simp_all [upd_app]) | simp_all [upd_app])) ?_
    (repeat (first | refine agree_upd (by decide) ?_ | refine agree_low (by decide) ?_)) <;> (repeat (first | refine agree_updR (by decide) ?_ | refine agree_lowR (by decide) ?_)) <;> exact fun _ _ _ => rfl
  try simp only [go_sem, ↓reduceIte, Nat.reduceEqDiff, Nat.reduceAdd, Nat.reduceMul, Nat.reduceLeDiff, Nat.reduceLT, Int.reduceEq, Int.toNat_natCast, t0, t1, t4]
  obtain ⟨x26, g5, H⟩ := bnd H
  refine aGd_cutN 4 22 26 (.bool x26) (aGd_intro (fun q6 => ?_) (fun q6 => ?_)) (fun J => ?_)
  · rw [if_pos (q6)] at g5
    obtain ⟨x24, hx24, g5⟩ := bnd g5
    try simp only [go_sem, ↓reduceIte, Nat.reduceEqDiff, Nat.reduceAdd, Nat.reduceMul, Nat.reduceLeDiff, Nat.reduceLT, Int.reduceEq, Int.toNat_natCast, t0, t1, t4, q6, aindex_sidx hx24]
    refine cut_done 22 (by have e := pur g5; subst e; (first | rfl | (simp only [go_sem, ↓reduceIte, Nat.reduceEqDiff, Nat.reduceAdd, Nat.reduceMul, Nat.reduceLeDiff, Nat.reduceLT, Int.reduceEq, Int.toNat_natCast, q6]; done) | (simp only [go_sem, ↓reduceIte, Nat.reduceEqDiff, Nat.reduceAdd, Nat.reduceMul, Nat.reduceLeDiff, Nat.reduceLT, Int.reduceEq, Int.toNat_natCast, q6]; simp_all [upd_app]) | simp_all [upd_app])) ?_
    (repeat (first | refine agree_upd (by decide) ?_ | refine agree_low (by decide) ?_)) <;> (repeat (first | refine agree_updR (by decide) ?_ | refine agree_lowR (by decide) ?_)) <;> exact fun _ _ _ => rfl
  · rw [if_neg (b_f q6)] at g5
    try simp only [go_sem, ↓reduceIte, Nat.reduceEqDiff, Nat.reduceAdd, Nat.reduceMul, Nat.reduceLeDiff, Nat.reduceLT, Int.reduceEq, Int.toNat_natCast, t0, t1, t4, q6]
    refine cut_done 22 (by have e := pur g5; subst e; (first | rfl | (simp only [go_sem, ↓reduceIte, Nat.reduceEqDiff, Nat.reduceAdd, Nat.reduceMul, Nat.reduceLeDiff, Nat.reduceLT, Int.reduceEq, Int.toNat_natCast, q6]; done) | (simp only [go_sem, ↓reduceIte, Nat.reduceEqDiff, Nat.reduceAdd, Nat.reduceMul, Nat.reduceLeDiff, Nat.reduceLT, Int.reduceEq, Int.toNat_natCast, q6]; simp_all [upd_app]) | simp_all [upd_app])) ?_
    (repeat (first | refine agree_upd (by decide) ?_ | refine agree_low (by decide) ?_)) <;> (repeat (first | refine agree_updR (by decide) ?_ | refine agree_lowR (by decide) ?_)) <;> exact fun _ _ _ => rfl
  try simp only [go_sem, ↓reduceIte, Nat.reduceEqDiff, Nat.reduceAdd, Nat.reduceMul, Nat.reduceLeDiff, Nat.reduceLT, Int.reduceEq, Int.toNat_natCast, t0, t1, t4]
  obtain ⟨x32, g7, H⟩ := bnd H
  refine aGd_cutN 4 28 32 (.bool x32) (aGd_intro (fun q8 => ?_) (fun q8 => ?_)) (fun J => ?_)
  · rw [if_pos (q8)] at g7
    obtain ⟨x30, hx30, g7⟩ := bnd g7
    try simp only [go_sem, ↓reduceIte, Nat.reduceEqDiff, Nat.reduceAdd, Nat.reduceMul, Nat.reduceLeDiff, Nat.reduceLT, Int.reduceEq, Int.toNat_natCast, t0, t1, t4, q8, aindex_sidx hx30]
    refine cut_done 28 (by have e := pur g7; subst e; (first | rfl | (simp only [go_sem, ↓reduceIte, Nat.reduceEqDiff, Nat.reduceAdd, Nat.reduceMul, Nat.reduceLeDiff, Nat.reduceLT, Int.reduceEq, Int.toNat_natCast, q8]; done) | (simp only [go_sem, ↓reduceIte, Nat.reduceEqDiff, Nat.reduceAdd, Nat.reduceMul, Nat.reduceLeDiff, Nat.reduceLT, Int.reduceEq, Int.toNat_natCast, q8]; simp_all [upd_app]) | simp_all [upd_app])) ?_
    (repeat (first | refine agree_upd (by decide) ?_ | refine agree_low (by decide) ?_)) <;> (repeat (first | refine agree_updR (by decide) ?_ | refine agree_lowR (by decide) ?_)) <;> exact fun _ _ _ => rfl
  · rw [if_neg (b_f q8)] at g7
    try simp only [go_sem, ↓reduceIte, Nat.reduceEqDiff, Nat.reduceAdd, Nat.reduceMul, Nat.reduceLeDiff, Nat.reduceLT, Int.reduceEq, Int.toNat_natCast, t0, t1, t4, q8]
    refine cut_done 28 (by have e := pur g7; subst e; (first | rfl | (simp only [go_sem, ↓reduceIte, Nat.reduceEqDiff, Nat.reduceAdd, Nat.reduceMul, Nat.reduceLeDiff, Nat.reduceLT, Int.reduceEq, Int.toNat_natCast, q8]; done) | (simp only [go_sem, ↓reduceIte, Nat.reduceEqDiff, Nat.reduceAdd, Nat.reduceMul, Nat.reduceLeDiff, Nat.reduceLT, Int.reduceEq, Int.toNat_natCast, q8]; simp_all [upd_app]) | simp_all [upd_app])) ?_
    (repeat (first | refine agree_upd (by decide) ?_ | refine agree_low (by decide) ?_)) <;> (repeat (first | refine agree_updR (by decide) ?_ | refine agree_lowR (by decide) ?_)) <;> exact fun _ _ _ => rfl
  try simp only [go_sem, ↓reduceIte, Nat.reduceEqDiff, Nat.reduceAdd, Nat.reduceMul, Nat.reduceLeDiff, Nat.reduceLT, Int.reduceEq, Int.toNat_natCast, t0, t1, t4]
  refine aCnd_b x32 rfl (fun h => ?_) (fun h => ?_)
  · rw [if_pos h] at H
    try simp only [go_sem, ↓reduceIte, Nat.reduceEqDiff, Nat.reduceAdd, Nat.reduceMul, Nat.reduceLeDiff, Nat.reduceLT, Int.reduceEq, Int.toNat_natCast, t0, t1, t4]
    exact IH  (IntKind.i64.wrap (z0t_1 + 1)) _ H _ rfl Q τ  hE hR _ _  (by first | (simp only [go_sem, ↓reduceIte, Nat.reduceEqDiff, Nat.reduceAdd, Nat.reduceMul, Nat.reduceLeDiff, Nat.reduceLT, Int.reduceEq, Int.toNat_natCast, t0, t1, t4]; done) | rfl | (simp only [go_sem, ↓reduceIte, Nat.reduceEqDiff, Nat.reduceAdd, Nat.reduceMul, Nat.reduceLeDiff, Nat.reduceLT, Int.reduceEq, Int.toNat_natCast, t0, t1, t4]; rfl)) (by first | (simp only [go_sem, ↓reduceIte, Nat.reduceEqDiff, Nat.reduceAdd, Nat.reduceMul, Nat.reduceLeDiff, Nat.reduceLT, Int.reduceEq, Int.toNat_natCast, t0, t1, t4]; done) | rfl | (simp only [go_sem, ↓reduceIte, Nat.reduceEqDiff, Nat.reduceAdd, Nat.reduceMul, Nat.reduceLeDiff, Nat.reduceLT, Int.reduceEq, Int.toNat_natCast, t0, t1, t4]; rfl)) (by first | (simp only [go_sem, ↓reduceIte, Nat.reduceEqDiff, Nat.reduceAdd, Nat.reduceMul, Nat.reduceLeDiff, Nat.reduceLT, Int.reduceEq, Int.toNat_natCast, t0, t1, t4]; done) | rfl | (simp only [go_sem, ↓reduceIte, Nat.reduceEqDiff, Nat.reduceAdd, Nat.reduceMul, Nat.reduceLeDiff, Nat.reduceLT, Int.reduceEq, Int.toNat_natCast, t0, t1, t4]; rfl)) hF
  · rw [if_neg h] at H
    try simp only [go_sem, ↓reduceIte, Nat.reduceEqDiff, Nat.reduceAdd, Nat.reduceMul, Nat.reduceLeDiff, Nat.reduceLT, Int.reduceEq, Int.toNat_natCast, t0, t1, t4]
    exact hE _ (pur H).symm _ _  (by first | (simp only [go_sem, ↓reduceIte, Nat.reduceEqDiff, Nat.reduceAdd, Nat.reduceMul, Nat.reduceLeDiff, Nat.reduceLT, Int.reduceEq, Int.toNat_natCast, t0, t1, t4]; done) | rfl | (simp only [go_sem, ↓reduceIte, Nat.reduceEqDiff, Nat.reduceAdd, Nat.reduceMul, Nat.reduceLeDiff, Nat.reduceLT, Int.reduceEq, Int.toNat_natCast, t0, t1, t4]; rfl)) (by first | (simp only [go_sem, ↓reduceIte, Nat.reduceEqDiff, Nat.reduceAdd, Nat.reduceMul, Nat.reduceLeDiff, Nat.reduceLT, Int.reduceEq, Int.toNat_natCast, t0, t1, t4]; done) | rfl | (simp only [go_sem, ↓reduceIte, Nat.reduceEqDiff, Nat.reduceAdd, Nat.reduceMul, Nat.reduceLeDiff, Nat.reduceLT, Int.reduceEq, Int.toNat_natCast, t0, t1, t4]; rfl)) hF
theorem spec_l1Word_ok : ∀ (a0 : ByteArray) (a1 : Int) r, spec_l1Word a0 a1 = some r → PCtr Try.prog 60 [.str a0, .int .i64 a1] (.int .i64 r) := by
  intro a0 a1 r H
  intro σ
  unfold spec_l1Word at H
  refine ctr_of mixed Try.func60 rfl (by kernel_rfl) (rs := [.tmp 4]) rfl (by kernel_rfl) ?_
  have hF := Fx.refl σ
  have hX := Tau.none σ
  try simp only [go_sem, ↓reduceIte, Nat.reduceEqDiff, Nat.reduceAdd, Nat.reduceMul, Nat.reduceLeDiff, Nat.reduceLT, Int.reduceEq, Int.toNat_natCast]
  obtain ⟨o9, ho9, H⟩ := bnd H
  refine spec_l1Word_l0_ok a0 a1 _ ho9 _ rfl _ _  ?_ ?_ _ _  (by first | (simp only [go_sem, ↓reduceIte, Nat.reduceEqDiff, Nat.reduceAdd, Nat.reduceMul, Nat.reduceLeDiff, Nat.reduceLT, Int.reduceEq, Int.toNat_natCast]; done) | rfl | (simp only [go_sem, ↓reduceIte, Nat.reduceEqDiff, Nat.reduceAdd, Nat.reduceMul, Nat.reduceLeDiff, Nat.reduceLT, Int.reduceEq, Int.toNat_natCast]; rfl)) (by first | (simp only [go_sem, ↓reduceIte, Nat.reduceEqDiff, Nat.reduceAdd, Nat.reduceMul, Nat.reduceLeDiff, Nat.reduceLT, Int.reduceEq, Int.toNat_natCast]; done) | rfl | (simp only [go_sem, ↓reduceIte, Nat.reduceEqDiff, Nat.reduceAdd, Nat.reduceMul, Nat.reduceLeDiff, Nat.reduceLT, Int.reduceEq, Int.toNat_natCast]; rfl)) (by first | (simp only [go_sem, ↓reduceIte, Nat.reduceEqDiff, Nat.reduceAdd, Nat.reduceMul, Nat.reduceLeDiff, Nat.reduceLT, Int.reduceEq, Int.toNat_natCast]; done) | rfl | (simp only [go_sem, ↓reduceIte, Nat.reduceEqDiff, Nat.reduceAdd, Nat.reduceMul, Nat.reduceLeDiff, Nat.reduceLT, Int.reduceEq, Int.toNat_natCast]; rfl)) hF
  · intro e10t_1 he T11 σ12 t1 t4 hF
    have he := he.symm
    subst he
    try simp only [go_sem, ↓reduceIte, Nat.reduceEqDiff, Nat.reduceAdd, Nat.reduceMul, Nat.reduceLeDiff, Nat.reduceLT, Int.reduceEq, Int.toNat_natCast, t1, t4]
    have e := pur H; subst e
    exact fx_ret (vs := [.int .i64 e10t_1]) (by first | (simp only [go_sem, ↓reduceIte, Nat.reduceEqDiff, Nat.reduceAdd, Nat.reduceMul, Nat.reduceLeDiff, Nat.reduceLT, Int.reduceEq, Int.toNat_natCast, t1, t4]; done) | rfl | (simp only [go_sem, ↓reduceIte, Nat.reduceEqDiff, Nat.reduceAdd, Nat.reduceMul, Nat.reduceLeDiff, Nat.reduceLT, Int.reduceEq, Int.toNat_natCast, t1, t4]; rfl)) (hF.wk0 _)
  · trivial
theorem spec_l15Num_l0_ok : ∀ (x14 : Bool) (y3t_0 : ByteArray) (z0t_5 : Int) (z0t_6 : Int) out, spec_l15Num_l0 x14 y3t_0 z0t_5 z0t_6 = some out → ∀ c, loopAt Try.f61 0 = some c → ∀ (Q : AX → AS → Prop) (τ : Sto), (∀ (e0t_5 : Int), out = Sum.inr e0t_5 → ∀ (T : Nat → AV) (σ : Sto), T 2 = .int .i64 0 → T 3 = .bool false → T 4 = .bool x14 → T 5 = .int .i64 e0t_5 → Fx τ σ [] [] → Q (.ex 0) ⟨T, σ⟩) → (∀ r, out = Sum.inl r → ∀ s', aRet Try.prog [.tmp 2, .tmp 3] (fun r' σ' => r' = .tup [.int .i64 r.1, .bool r.2] ∧ σ' = τ) s' → Q .ret s') → ∀ (T : Nat → AV) (σ : Sto), T 0 = .str y3t_0 → T 2 = .int .i64 0 → T 3 = .bool false → T 4 = .bool x14 → T 5 = .int .i64 z0t_5 → T 6 = .int .i64 z0t_6 → Fx τ σ [] [] → aLoop (acode Try.prog c) Q ⟨T, σ⟩ := by
  intro x14 y3t_0 z0t_5 z0t_6
  revert z0t_5 z0t_6
  refine spec_l15Num_l0.partial_correctness x14 y3t_0 _ ?_
  intro spec_l15Num_l0 IH z0t_5 z0t_6 out H c hc Q τ  hE hR T σ t0 t2 t3 t4 t5 t6 hF
  obtain rfl := Option.some.inj ((rfl : loopAt Try.f61 0 = some _).symm.trans hc)
  refine aLoop_round ?_
  try simp only [go_sem, ↓reduceIte, Nat.reduceEqDiff, Nat.reduceAdd, Nat.reduceMul, Nat.reduceLeDiff, Nat.reduceLT, Int.reduceEq, Int.toNat_natCast, t0, t2, t3, t4, t5, t6]
  refine aCnd_p (z0t_6 < (y3t_0.size : Int)) rfl (fun h => ?_) (fun h => ?_)
  · rw [if_pos h] at H
    obtain ⟨x47, hx47, H⟩ := bnd H
    try simp only [go_sem, ↓reduceIte, Nat.reduceEqDiff, Nat.reduceAdd, Nat.reduceMul, Nat.reduceLeDiff, Nat.reduceLT, Int.reduceEq, Int.toNat_natCast, t0, t2, t3, t4, t5, t6, aindex_sidx hx47]
    obtain ⟨x54, g16, H⟩ := bnd H
    refine aGd_cutN 4 50 54 (.bool x54) (aGd_introN (fun q17 => ?_) (fun q17 => ?_)) (fun J => ?_)
    · rw [if_neg (of_decide_eq_false q17)] at g16
      obtain ⟨x52, hx52, g16⟩ := bnd g16
      try simp only [go_sem, ↓reduceIte, Nat.reduceEqDiff, Nat.reduceAdd, Nat.reduceMul, Nat.reduceLeDiff, Nat.reduceLT, Int.reduceEq, Int.toNat_natCast, t0, t2, t3, t4, t5, t6, q17, aindex_sidx hx52]
      refine cut_done 50 (by have e := pur g16; subst e; (first | rfl | (simp only [go_sem, ↓reduceIte, Nat.reduceEqDiff, Nat.reduceAdd, Nat.reduceMul, Nat.reduceLeDiff, Nat.reduceLT, Int.reduceEq, Int.toNat_natCast, q17]; done) | (simp only [go_sem, ↓reduceIte, Nat.reduceEqDiff, Nat.reduceAdd, Nat.reduceMul, Nat.reduceLeDiff, Nat.reduceLT, Int.reduceEq, Int.toNat_natCast, q17]; simp_all [upd_app]) | simp_all [upd_app])) ?_
      (repeat (first | refine agree_upd (by decide) ?_ | refine agree_low (by decide) ?_)) <;> (repeat (first | refine agree_updR (by decide) ?_ | refine agree_lowR (by decide) ?_)) <;> exact fun _ _ _ => rfl
    · rw [if_pos (of_decide_eq_true q17)] at g16
      try simp only [go_sem, ↓reduceIte, Nat.reduceEqDiff, Nat.reduceAdd, Nat.reduceMul, Nat.reduceLeDiff, Nat.reduceLT, Int.reduceEq, Int.toNat_natCast, t0, t2, t3, t4, t5, t6, q17]
      refine cut_done 50 (by have e := pur g16; subst e; (first | rfl | (simp only [go_sem, ↓reduceIte, Nat.reduceEqDiff, Nat.reduceAdd, Nat.reduceMul, Nat.reduceLeDiff, Nat.reduceLT, Int.reduceEq, Int.toNat_natCast, q17]; done) | (simp only [go_sem, ↓reduceIte, Nat.reduceEqDiff, Nat.reduceAdd, Nat.reduceMul, Nat.reduceLeDiff, Nat.reduceLT, Int.reduceEq, Int.toNat_natCast, q17]; simp_all [upd_app]) | simp_all [upd_app])) ?_
      (repeat (first | refine agree_upd (by decide) ?_ | refine agree_low (by decide) ?_)) <;> (repeat (first | refine agree_updR (by decide) ?_ | refine agree_lowR (by decide) ?_)) <;> exact fun _ _ _ => rfl
    try simp only [go_sem, ↓reduceIte, Nat.reduceEqDiff, Nat.reduceAdd, Nat.reduceMul, Nat.reduceLeDiff, Nat.reduceLT, Int.reduceEq, Int.toNat_natCast, t0, t2, t3, t4, t5, t6]
    refine aCnd_b x54 rfl (fun h => ?_) (fun h => ?_)
    · rw [if_pos h] at H
      try simp only [go_sem, ↓reduceIte, Nat.reduceEqDiff, Nat.reduceAdd, Nat.reduceMul, Nat.reduceLeDiff, Nat.reduceLT, Int.reduceEq, Int.toNat_natCast, t0, t2, t3, t4, t5, t6]
      exact hR _ (pur H).symm _ (fx_ret (vs := [.int .i64 0, .bool false]) (by first | (simp only [go_sem, ↓reduceIte, Nat.reduceEqDiff, Nat.reduceAdd, Nat.reduceMul, Nat.reduceLeDiff, Nat.reduceLT, Int.reduceEq, Int.toNat_natCast, t0, t2, t3, t4, t5, t6]; done) | rfl | (simp only [go_sem, ↓reduceIte, Nat.reduceEqDiff, Nat.reduceAdd, Nat.reduceMul, Nat.reduceLeDiff, Nat.reduceLT, Int.reduceEq, Int.toNat_natCast, t0, t2, t3, t4, t5, t6]; rfl)) (Wk.tup hF.sub (.cons (hF.wk0 _) (fun h => by first | exact h | rfl) (.cons (hF.wk0 _) (fun h => by first | exact h | rfl) .nil))))
    · rw [if_neg h] at H
      obtain ⟨x59, hx59, H⟩ := bnd H
      try simp only [go_sem, ↓reduceIte, Nat.reduceEqDiff, Nat.reduceAdd, Nat.reduceMul, Nat.reduceLeDiff, Nat.reduceLT, Int.reduceEq, Int.toNat_natCast, t0, t2, t3, t4, t5, t6, aindex_sidx hx59]
      exact IH  (IntKind.i64.wrap ((IntKind.i64.wrap (z0t_5 * 10)) + (IntKind.i64.wrap (IntKind.u8.wrap (x59 - 48))))) (IntKind.i64.wrap (z0t_6 + 1)) _ H _ rfl Q τ  hE hR _ _  (by first | (simp only [go_sem, ↓reduceIte, Nat.reduceEqDiff, Nat.reduceAdd, Nat.reduceMul, Nat.reduceLeDiff, Nat.reduceLT, Int.reduceEq, Int.toNat_natCast, t0, t2, t3, t4, t5, t6]; done) | rfl | (simp only [go_sem, ↓reduceIte, Nat.reduceEqDiff, Nat.reduceAdd, Nat.reduceMul, Nat.reduceLeDiff, Nat.reduceLT, Int.reduceEq, Int.toNat_natCast, t0, t2, t3, t4, t5, t6]; rfl)) (by first | (simp only [go_sem, ↓reduceIte, Nat.reduceEqDiff, Nat.reduceAdd, Nat.reduceMul, Nat.reduceLeDiff, Nat.reduceLT, Int.reduceEq, Int.toNat_natCast, t0, t2, t3, t4, t5, t6]; done) | rfl | (simp only [go_sem, ↓reduceIte, Nat.reduceEqDiff, Nat.reduceAdd, Nat.reduceMul, Nat.reduceLeDiff, Nat.reduceLT, Int.reduceEq, Int.toNat_natCast, t0, t2, t3, t4, t5, t6]; rfl)) (by first | (simp only [go_sem, ↓reduceIte, Nat.reduceEqDiff, Nat.reduceAdd, Nat.reduceMul, Nat.reduceLeDiff, Nat.reduceLT, Int.reduceEq, Int.toNat_natCast, t0, t2, t3, t4, t5, t6]; done) | rfl | (simp only [go_sem, ↓reduceIte, Nat.reduceEqDiff, Nat.reduceAdd, Nat.reduceMul, Nat.reduceLeDiff, Nat.reduceLT, Int.reduceEq, Int.toNat_natCast, t0, t2, t3, t4, t5, t6]; rfl)) (by first | (simp only [go_sem, ↓reduceIte, Nat.reduceEqDiff, Nat.reduceAdd, Nat.reduceMul, Nat.reduceLeDiff, Nat.reduceLT, Int.reduceEq, Int.toNat_natCast, t0, t2, t3, t4, t5, t6]; done) | rfl | (simp only [go_sem, ↓reduceIte, Nat.reduceEqDiff, Nat.reduceAdd, Nat.reduceMul, Nat.reduceLeDiff, Nat.reduceLT, Int.reduceEq, Int.toNat_natCast, t0, t2, t3, t4, t5, t6]; rfl)) (by first | (simp only [go_sem, ↓reduceIte, Nat.reduceEqDiff, Nat.reduceAdd, Nat.reduceMul, Nat.reduceLeDiff, Nat.reduceLT, Int.reduceEq, Int.toNat_natCast, t0, t2, t3, t4, t5, t6]; done) | rfl | (simp only [go_sem, ↓reduceIte, Nat.reduceEqDiff, Nat.reduceAdd, Nat.reduceMul, Nat.reduceLeDiff, Nat.reduceLT, Int.reduceEq, Int.toNat_natCast, t0, t2, t3, t4, t5, t6]; rfl)) (by first | (simp only [go_sem, ↓reduceIte, Nat.reduceEqDiff, Nat.reduceAdd, Nat.reduceMul, Nat.reduceLeDiff, Nat.reduceLT, Int.reduceEq, Int.toNat_natCast, t0, t2, t3, t4, t5, t6]; done) | rfl | (simp only [go_sem, ↓reduceIte, Nat.reduceEqDiff, Nat.reduceAdd, Nat.reduceMul, Nat.reduceLeDiff, Nat.reduceLT, Int.reduceEq, Int.toNat_natCast, t0, t2, t3, t4, t5, t6]; rfl)) hF
  · rw [if_neg h] at H
    try simp only [go_sem, ↓reduceIte, Nat.reduceEqDiff, Nat.reduceAdd, Nat.reduceMul, Nat.reduceLeDiff, Nat.reduceLT, Int.reduceEq, Int.toNat_natCast, t0, t2, t3, t4, t5, t6]
    exact hE _ (pur H).symm _ _  (by first | (simp only [go_sem, ↓reduceIte, Nat.reduceEqDiff, Nat.reduceAdd, Nat.reduceMul, Nat.reduceLeDiff, Nat.reduceLT, Int.reduceEq, Int.toNat_natCast, t0, t2, t3, t4, t5, t6]; done) | rfl | (simp only [go_sem, ↓reduceIte, Nat.reduceEqDiff, Nat.reduceAdd, Nat.reduceMul, Nat.reduceLeDiff, Nat.reduceLT, Int.reduceEq, Int.toNat_natCast, t0, t2, t3, t4, t5, t6]; rfl)) (by first | (simp only [go_sem, ↓reduceIte, Nat.reduceEqDiff, Nat.reduceAdd, Nat.reduceMul, Nat.reduceLeDiff, Nat.reduceLT, Int.reduceEq, Int.toNat_natCast, t0, t2, t3, t4, t5, t6]; done) | rfl | (simp only [go_sem, ↓reduceIte, Nat.reduceEqDiff, Nat.reduceAdd, Nat.reduceMul, Nat.reduceLeDiff, Nat.reduceLT, Int.reduceEq, Int.toNat_natCast, t0, t2, t3, t4, t5, t6]; rfl)) (by first | (simp only [go_sem, ↓reduceIte, Nat.reduceEqDiff, Nat.reduceAdd, Nat.reduceMul, Nat.reduceLeDiff, Nat.reduceLT, Int.reduceEq, Int.toNat_natCast, t0, t2, t3, t4, t5, t6]; done) | rfl | (simp only [go_sem, ↓reduceIte, Nat.reduceEqDiff, Nat.reduceAdd, Nat.reduceMul, Nat.reduceLeDiff, Nat.reduceLT, Int.reduceEq, Int.toNat_natCast, t0, t2, t3, t4, t5, t6]; rfl)) (by first | (simp only [go_sem, ↓reduceIte, Nat.reduceEqDiff, Nat.reduceAdd, Nat.reduceMul, Nat.reduceLeDiff, Nat.reduceLT, Int.reduceEq, Int.toNat_natCast, t0, t2, t3, t4, t5, t6]; done) | rfl | (simp only [go_sem, ↓reduceIte, Nat.reduceEqDiff, Nat.reduceAdd, Nat.reduceMul, Nat.reduceLeDiff, Nat.reduceLT, Int.reduceEq, Int.toNat_natCast, t0, t2, t3, t4, t5, t6]; rfl)) hF
theorem spec_l15Num_ok : ∀ (a0 : ByteArray) r, spec_l15Num a0 = some r → PCtr Try.prog 61 [.str a0] (.tup [.int .i64 r.1, .bool r.2]) := by
  intro a0 r H
  intro σ
  unfold spec_l15Num at H
  refine ctr_of mixed Try.func61 rfl (by kernel_rfl) (rs := [.tmp 2, .tmp 3]) rfl (by kernel_rfl) ?_
  have hF := Fx.refl σ
  have hX := Tau.none σ
  try simp only [go_sem, ↓reduceIte, Nat.reduceEqDiff, Nat.reduceAdd, Nat.reduceMul, Nat.reduceLeDiff, Nat.reduceLT, Int.reduceEq, Int.toNat_natCast]
  obtain ⟨x14, g1, H⟩ := bnd H
  refine aGd_cutN 3 11 14 (.bool x14) (aGd_intro (fun q2 => ?_) (fun q2 => ?_)) (fun J => ?_)
  · rw [if_pos (of_decide_eq_true q2)] at g1
    obtain ⟨x12, hx12, g1⟩ := bnd g1
    try simp only [go_sem, ↓reduceIte, Nat.reduceEqDiff, Nat.reduceAdd, Nat.reduceMul, Nat.reduceLeDiff, Nat.reduceLT, Int.reduceEq, Int.toNat_natCast, q2, aindex_sidx hx12]
    refine cut_done 11 (by have e := pur g1; subst e; (first | rfl | (simp only [go_sem, ↓reduceIte, Nat.reduceEqDiff, Nat.reduceAdd, Nat.reduceMul, Nat.reduceLeDiff, Nat.reduceLT, Int.reduceEq, Int.toNat_natCast, q2]; done) | (simp only [go_sem, ↓reduceIte, Nat.reduceEqDiff, Nat.reduceAdd, Nat.reduceMul, Nat.reduceLeDiff, Nat.reduceLT, Int.reduceEq, Int.toNat_natCast, q2]; simp_all [upd_app]) | simp_all [upd_app])) ?_
    (repeat (first | refine agree_upd (by decide) ?_ | refine agree_low (by decide) ?_)) <;> (repeat (first | refine agree_updR (by decide) ?_ | refine agree_lowR (by decide) ?_)) <;> exact fun _ _ _ => rfl
  · rw [if_neg (of_decide_eq_false q2)] at g1
    try simp only [go_sem, ↓reduceIte, Nat.reduceEqDiff, Nat.reduceAdd, Nat.reduceMul, Nat.reduceLeDiff, Nat.reduceLT, Int.reduceEq, Int.toNat_natCast, q2]
    refine cut_done 11 (by have e := pur g1; subst e; (first | rfl | (simp only [go_sem, ↓reduceIte, Nat.reduceEqDiff, Nat.reduceAdd, Nat.reduceMul, Nat.reduceLeDiff, Nat.reduceLT, Int.reduceEq, Int.toNat_natCast, q2]; done) | (simp only [go_sem, ↓reduceIte, Nat.reduceEqDiff, Nat.reduceAdd, Nat.reduceMul, Nat.reduceLeDiff, Nat.reduceLT, Int.reduceEq, Int.toNat_natCast, q2]; simp_all [upd_app]) | simp_all [upd_app])) ?_
    (repeat (first | refine agree_upd (by decide) ?_ | refine agree_low (by decide) ?_)) <;> (repeat (first | refine agree_updR (by decide) ?_ | refine agree_lowR (by decide) ?_)) <;> exact fun _ _ _ => rfl
  try simp only [go_sem, ↓reduceIte, Nat.reduceEqDiff, Nat.reduceAdd, Nat.reduceMul, Nat.reduceLeDiff, Nat.reduceLT, Int.reduceEq, Int.toNat_natCast]
  obtain ⟨y3t_0, j4, H⟩ := bnd H
  refine aCnd_join (fun s' => ∃ (T : Nat → AV) (σ1 : Sto), s' = ⟨T, σ1⟩ ∧ T 0 = .str y3t_0 ∧ T 2 = .int .i64 0 ∧ T 3 = .bool false ∧ T 4 = .bool x14 ∧ Fx σ σ1 [] []) (aCnd_b x14 rfl (fun h => ?_) (fun h => ?_)) ?_
  · rw [if_pos h] at j4
    obtain ⟨x17, hx17, j4⟩ := bnd j4
    try simp only [go_sem, ↓reduceIte, Nat.reduceEqDiff, Nat.reduceAdd, Nat.reduceMul, Nat.reduceLeDiff, Nat.reduceLT, Int.reduceEq, Int.toNat_natCast, aslice_ssub (lo := some (.int .i64 1)) (hi := none) rfl rfl hx17]
    have e := pur j4
    subst e
    exact ⟨_, _, rfl, (by first | (simp only [go_sem, ↓reduceIte, Nat.reduceEqDiff, Nat.reduceAdd, Nat.reduceMul, Nat.reduceLeDiff, Nat.reduceLT, Int.reduceEq, Int.toNat_natCast]; done) | rfl | (simp only [go_sem, ↓reduceIte, Nat.reduceEqDiff, Nat.reduceAdd, Nat.reduceMul, Nat.reduceLeDiff, Nat.reduceLT, Int.reduceEq, Int.toNat_natCast]; rfl)), (by first | (simp only [go_sem, ↓reduceIte, Nat.reduceEqDiff, Nat.reduceAdd, Nat.reduceMul, Nat.reduceLeDiff, Nat.reduceLT, Int.reduceEq, Int.toNat_natCast]; done) | rfl | (simp only [go_sem, ↓reduceIte, Nat.reduceEqDiff, Nat.reduceAdd, Nat.reduceMul, Nat.reduceLeDiff, Nat.reduceLT, Int.reduceEq, Int.toNat_natCast]; rfl)), (by first | (simp only [go_sem, ↓reduceIte, Nat.reduceEqDiff, Nat.reduceAdd, Nat.reduceMul, Nat.reduceLeDiff, Nat.reduceLT, Int.reduceEq, Int.toNat_natCast]; done) | rfl | (simp only [go_sem, ↓reduceIte, Nat.reduceEqDiff, Nat.reduceAdd, Nat.reduceMul, Nat.reduceLeDiff, Nat.reduceLT, Int.reduceEq, Int.toNat_natCast]; rfl)), (by first | (simp only [go_sem, ↓reduceIte, Nat.reduceEqDiff, Nat.reduceAdd, Nat.reduceMul, Nat.reduceLeDiff, Nat.reduceLT, Int.reduceEq, Int.toNat_natCast]; done) | rfl | (simp only [go_sem, ↓reduceIte, Nat.reduceEqDiff, Nat.reduceAdd, Nat.reduceMul, Nat.reduceLeDiff, Nat.reduceLT, Int.reduceEq, Int.toNat_natCast]; rfl)), hF⟩
  · rw [if_neg h] at j4
    try simp only [go_sem, ↓reduceIte, Nat.reduceEqDiff, Nat.reduceAdd, Nat.reduceMul, Nat.reduceLeDiff, Nat.reduceLT, Int.reduceEq, Int.toNat_natCast]
    have e := pur j4
    subst e
    exact ⟨_, _, rfl, (by first | (simp only [go_sem, ↓reduceIte, Nat.reduceEqDiff, Nat.reduceAdd, Nat.reduceMul, Nat.reduceLeDiff, Nat.reduceLT, Int.reduceEq, Int.toNat_natCast]; done) | rfl | (simp only [go_sem, ↓reduceIte, Nat.reduceEqDiff, Nat.reduceAdd, Nat.reduceMul, Nat.reduceLeDiff, Nat.reduceLT, Int.reduceEq, Int.toNat_natCast]; rfl)), (by first | (simp only [go_sem, ↓reduceIte, Nat.reduceEqDiff, Nat.reduceAdd, Nat.reduceMul, Nat.reduceLeDiff, Nat.reduceLT, Int.reduceEq, Int.toNat_natCast]; done) | rfl | (simp only [go_sem, ↓reduceIte, Nat.reduceEqDiff, Nat.reduceAdd, Nat.reduceMul, Nat.reduceLeDiff, Nat.reduceLT, Int.reduceEq, Int.toNat_natCast]; rfl)), (by first | (simp only [go_sem, ↓reduceIte, Nat.reduceEqDiff, Nat.reduceAdd, Nat.reduceMul, Nat.reduceLeDiff, Nat.reduceLT, Int.reduceEq, Int.toNat_natCast]; done) | rfl | (simp only [go_sem, ↓reduceIte, Nat.reduceEqDiff, Nat.reduceAdd, Nat.reduceMul, Nat.reduceLeDiff, Nat.reduceLT, Int.reduceEq, Int.toNat_natCast]; rfl)), (by first | (simp only [go_sem, ↓reduceIte, Nat.reduceEqDiff, Nat.reduceAdd, Nat.reduceMul, Nat.reduceLeDiff, Nat.reduceLT, Int.reduceEq, Int.toNat_natCast]; done) | rfl | (simp only [go_sem, ↓reduceIte, Nat.reduceEqDiff, Nat.reduceAdd, Nat.reduceMul, Nat.reduceLeDiff, Nat.reduceLT, Int.reduceEq, Int.toNat_natCast]; rfl)), hF⟩
  · rintro s' ⟨T5, σ6, rfl, t0, t2, t3, t4, hF⟩
    try simp only [go_sem, ↓reduceIte, Nat.reduceEqDiff, Nat.reduceAdd, Nat.reduceMul, Nat.reduceLeDiff, Nat.reduceLT, Int.reduceEq, Int.toNat_natCast, t0, t2, t3, t4]
    obtain ⟨x25, g8, H⟩ := bnd H
    refine aGd_cutN 3 22 25 (.bool x25) (aGd_introN (fun q9 => ?_) (fun q9 => ?_)) (fun J => ?_)
    · try simp only [go_sem, ↓reduceIte, Nat.reduceEqDiff, Nat.reduceAdd, Nat.reduceMul, Nat.reduceLeDiff, Nat.reduceLT, Int.reduceEq, Int.toNat_natCast, t0, t2, t3, t4, q9]
      refine cut_done 22 (by have e := pur g8; subst e; (first | rfl | (simp only [go_sem, ↓reduceIte, Nat.reduceEqDiff, Nat.reduceAdd, Nat.reduceMul, Nat.reduceLeDiff, Nat.reduceLT, Int.reduceEq, Int.toNat_natCast, q9]; done) | (simp only [go_sem, ↓reduceIte, Nat.reduceEqDiff, Nat.reduceAdd, Nat.reduceMul, Nat.reduceLeDiff, Nat.reduceLT, Int.reduceEq, Int.toNat_natCast, q9]; simp_all [upd_app]) | simp_all [upd_app])) ?_
      (repeat (first | refine agree_upd (by decide) ?_ | refine agree_low (by decide) ?_)) <;> (repeat (first | refine agree_updR (by decide) ?_ | refine agree_lowR (by decide) ?_)) <;> exact fun _ _ _ => rfl
    · try simp only [go_sem, ↓reduceIte, Nat.reduceEqDiff, Nat.reduceAdd, Nat.reduceMul, Nat.reduceLeDiff, Nat.reduceLT, Int.reduceEq, Int.toNat_natCast, t0, t2, t3, t4, q9]
      refine cut_done 22 (by have e := pur g8; subst e; (first | rfl | (simp only [go_sem, ↓reduceIte, Nat.reduceEqDiff, Nat.reduceAdd, Nat.reduceMul, Nat.reduceLeDiff, Nat.reduceLT, Int.reduceEq, Int.toNat_natCast, q9]; done) | (simp only [go_sem, ↓reduceIte, Nat.reduceEqDiff, Nat.reduceAdd, Nat.reduceMul, Nat.reduceLeDiff, Nat.reduceLT, Int.reduceEq, Int.toNat_natCast, q9]; simp_all [upd_app]) | simp_all [upd_app])) ?_
      (repeat (first | refine agree_upd (by decide) ?_ | refine agree_low (by decide) ?_)) <;> (repeat (first | refine agree_updR (by decide) ?_ | refine agree_lowR (by decide) ?_)) <;> exact fun _ _ _ => rfl
    try simp only [go_sem, ↓reduceIte, Nat.reduceEqDiff, Nat.reduceAdd, Nat.reduceMul, Nat.reduceLeDiff, Nat.reduceLT, Int.reduceEq, Int.toNat_natCast, t0, t2, t3, t4]
    obtain ⟨x38, g10, H⟩ := bnd H
    refine aGd_cutN 11 27 38 (.bool x38) (aGd_introN (fun q11 => ?_) (fun q11 => ?_)) (fun J => ?_)
    · rw [if_neg (b_f q11)] at g10
      obtain ⟨x28, hx28, g10⟩ := bnd g10
      try simp only [go_sem, ↓reduceIte, Nat.reduceEqDiff, Nat.reduceAdd, Nat.reduceMul, Nat.reduceLeDiff, Nat.reduceLT, Int.reduceEq, Int.toNat_natCast, t0, t2, t3, t4, q11, aindex_sidx hx28]
      obtain ⟨x37, g12, g10⟩ := bnd g10
      refine aGd_cutN 6 31 37 (.bool x37) (aGd_intro (fun q13 => ?_) (fun q13 => ?_)) (fun J => ?_)
      · rw [if_pos (of_decide_eq_true q13)] at g12
        try simp only [go_sem, ↓reduceIte, Nat.reduceEqDiff, Nat.reduceAdd, Nat.reduceMul, Nat.reduceLeDiff, Nat.reduceLT, Int.reduceEq, Int.toNat_natCast, t0, t2, t3, t4, q11, q13]
        obtain ⟨x36, g14, g12⟩ := bnd g12
        refine aGd_cutN 1 35 36 (.bool x36) (aGd_introN (fun q15 => ?_) (fun q15 => ?_)) (fun J => ?_)
        · try simp only [go_sem, ↓reduceIte, Nat.reduceEqDiff, Nat.reduceAdd, Nat.reduceMul, Nat.reduceLeDiff, Nat.reduceLT, Int.reduceEq, Int.toNat_natCast, t0, t2, t3, t4, q11, q13, q15]
          refine cut_done 35 (by have e := pur g14; subst e; (first | rfl | (simp only [go_sem, ↓reduceIte, Nat.reduceEqDiff, Nat.reduceAdd, Nat.reduceMul, Nat.reduceLeDiff, Nat.reduceLT, Int.reduceEq, Int.toNat_natCast, q11, q13, q15]; done) | (simp only [go_sem, ↓reduceIte, Nat.reduceEqDiff, Nat.reduceAdd, Nat.reduceMul, Nat.reduceLeDiff, Nat.reduceLT, Int.reduceEq, Int.toNat_natCast, q11, q13, q15]; simp_all [upd_app]) | simp_all [upd_app])) ?_
          (repeat (first | refine agree_upd (by decide) ?_ | refine agree_low (by decide) ?_)) <;> (repeat (first | refine agree_updR (by decide) ?_ | refine agree_lowR (by decide) ?_)) <;> exact fun _ _ _ => rfl
        · try simp only [go_sem, ↓reduceIte, Nat.reduceEqDiff, Nat.reduceAdd, Nat.reduceMul, Nat.reduceLeDiff, Nat.reduceLT, Int.reduceEq, Int.toNat_natCast, t0, t2, t3, t4, q11, q13, q15]
          refine cut_done 35 (by have e := pur g14; subst e; (first | rfl | (simp only [go_sem, ↓reduceIte, Nat.reduceEqDiff, Nat.reduceAdd, Nat.reduceMul, Nat.reduceLeDiff, Nat.reduceLT, Int.reduceEq, Int.toNat_natCast, q11, q13, q15]; done) | (simp only [go_sem, ↓reduceIte, Nat.reduceEqDiff, Nat.reduceAdd, Nat.reduceMul, Nat.reduceLeDiff, Nat.reduceLT, Int.reduceEq, Int.toNat_natCast, q11, q13, q15]; simp_all [upd_app]) | simp_all [upd_app])) ?_
          (repeat (first | refine agree_upd (by decide) ?_ | refine agree_low (by decide) ?_)) <;> (repeat (first | refine agree_updR (by decide) ?_ | refine agree_lowR (by decide) ?_)) <;> exact fun _ _ _ => rfl
        try simp only [go_sem, ↓reduceIte, Nat.reduceEqDiff, Nat.reduceAdd, Nat.reduceMul, Nat.reduceLeDiff, Nat.reduceLT, Int.reduceEq, Int.toNat_natCast, t0, t2, t3, t4, q11, q13]
        refine cut_done 31 (by have e := pur g12; subst e; (first | rfl | (simp only [go_sem, ↓reduceIte, Nat.reduceEqDiff, Nat.reduceAdd, Nat.reduceMul, Nat.reduceLeDiff, Nat.reduceLT, Int.reduceEq, Int.toNat_natCast, q11, q13]; done) | (simp only [go_sem, ↓reduceIte, Nat.reduceEqDiff, Nat.reduceAdd, Nat.reduceMul, Nat.reduceLeDiff, Nat.reduceLT, Int.reduceEq, Int.toNat_natCast, q11, q13]; simp_all [upd_app]) | simp_all [upd_app])) ?_
        (repeat (first | refine agree_upd (by decide) ?_ | refine agree_low (by decide) ?_)) <;> (repeat (first | refine agree_updR (by decide) ?_ | refine agree_lowR (by decide) ?_)) <;> exact fun _ _ _ => rfl
      · rw [if_neg (of_decide_eq_false q13)] at g12
        try simp only [go_sem, ↓reduceIte, Nat.reduceEqDiff, Nat.reduceAdd, Nat.reduceMul, Nat.reduceLeDiff, Nat.reduceLT, Int.reduceEq, Int.toNat_natCast, t0, t2, t3, t4, q11, q13]
        refine cut_done 31 (by have e := pur g12; subst e; (first | rfl | (simp only [go_sem, ↓reduceIte, Nat.reduceEqDiff, Nat.reduceAdd, Nat.reduceMul, Nat.reduceLeDiff, Nat.reduceLT, Int.reduceEq, Int.toNat_natCast, q11, q13]; done) | (simp only [go_sem, ↓reduceIte, Nat.reduceEqDiff, Nat.reduceAdd, Nat.reduceMul, Nat.reduceLeDiff, Nat.reduceLT, Int.reduceEq, Int.toNat_natCast, q11, q13]; simp_all [upd_app]) | simp_all [upd_app])) ?_
        (repeat (first | refine agree_upd (by decide) ?_ | refine agree_low (by decide) ?_)) <;> (repeat (first | refine agree_updR (by decide) ?_ | refine agree_lowR (by decide) ?_)) <;> exact fun _ _ _ => rfl
      try simp only [go_sem, ↓reduceIte, Nat.reduceEqDiff, Nat.reduceAdd, Nat.reduceMul, Nat.reduceLeDiff, Nat.reduceLT, Int.reduceEq, Int.toNat_natCast, t0, t2, t3, t4, q11]
      refine cut_done 27 (by have e := pur g10; subst e; (first | rfl | (simp only [go_sem, ↓reduceIte, Nat.reduceEqDiff, Nat.reduceAdd, Nat.reduceMul, Nat.reduceLeDiff, Nat.reduceLT, Int.reduceEq, Int.toNat_natCast, q11]; done) | (simp only [go_sem, ↓reduceIte, Nat.reduceEqDiff, Nat.reduceAdd, Nat.reduceMul, Nat.reduceLeDiff, Nat.reduceLT, Int.reduceEq, Int.toNat_natCast, q11]; simp_all [upd_app]) | simp_all [upd_app])) ?_
      (repeat (first | refine agree_upd (by decide) ?_ | refine agree_low (by decide) ?_)) <;> (repeat (first | refine agree_updR (by decide) ?_ | refine agree_lowR (by decide) ?_)) <;> exact fun _ _ _ => rfl
    · rw [if_pos (q11)] at g10
      try simp only [go_sem, ↓reduceIte, Nat.reduceEqDiff, Nat.reduceAdd, Nat.reduceMul, Nat.reduceLeDiff, Nat.reduceLT, Int.reduceEq, Int.toNat_natCast, t0, t2, t3, t4, q11]
      refine cut_done 27 (by have e := pur g10; subst e; (first | rfl | (simp only [go_sem, ↓reduceIte, Nat.reduceEqDiff, Nat.reduceAdd, Nat.reduceMul, Nat.reduceLeDiff, Nat.reduceLT, Int.reduceEq, Int.toNat_natCast, q11]; done) | (simp only [go_sem, ↓reduceIte, Nat.reduceEqDiff, Nat.reduceAdd, Nat.reduceMul, Nat.reduceLeDiff, Nat.reduceLT, Int.reduceEq, Int.toNat_natCast, q11]; simp_all [upd_app]) | simp_all [upd_app])) ?_
      (repeat (first | refine agree_upd (by decide) ?_ | refine agree_low (by decide) ?_)) <;> (repeat (first | refine agree_updR (by decide) ?_ | refine agree_lowR (by decide) ?_)) <;> exact fun _ _ _ => rfl
    try simp only [go_sem, ↓reduceIte, Nat.reduceEqDiff, Nat.reduceAdd, Nat.reduceMul, Nat.reduceLeDiff, Nat.reduceLT, Int.reduceEq, Int.toNat_natCast, t0, t2, t3, t4]
    refine aCnd_b x38 rfl (fun h => ?_) (fun h => ?_)
    · rw [if_pos h] at H
      try simp only [go_sem, ↓reduceIte, Nat.reduceEqDiff, Nat.reduceAdd, Nat.reduceMul, Nat.reduceLeDiff, Nat.reduceLT, Int.reduceEq, Int.toNat_natCast, t0, t2, t3, t4]
      have e := pur H; subst e
      exact fx_ret (vs := [.int .i64 0, .bool false]) (by first | (simp only [go_sem, ↓reduceIte, Nat.reduceEqDiff, Nat.reduceAdd, Nat.reduceMul, Nat.reduceLeDiff, Nat.reduceLT, Int.reduceEq, Int.toNat_natCast, t0, t2, t3, t4]; done) | rfl | (simp only [go_sem, ↓reduceIte, Nat.reduceEqDiff, Nat.reduceAdd, Nat.reduceMul, Nat.reduceLeDiff, Nat.reduceLT, Int.reduceEq, Int.toNat_natCast, t0, t2, t3, t4]; rfl)) (Wk.tup hF.sub (.cons (hF.wk0 _) (fun h => by first | exact h | rfl) (.cons (hF.wk0 _) (fun h => by first | exact h | rfl) .nil)))
    · rw [if_neg h] at H
      try simp only [go_sem, ↓reduceIte, Nat.reduceEqDiff, Nat.reduceAdd, Nat.reduceMul, Nat.reduceLeDiff, Nat.reduceLT, Int.reduceEq, Int.toNat_natCast, t0, t2, t3, t4]
      obtain ⟨o18, ho18, H⟩ := bnd H
      refine spec_l15Num_l0_ok x14 y3t_0 0 0 _ ho18 _ rfl _ _  ?_ ?_ _ _  (by first | (simp only [go_sem, ↓reduceIte, Nat.reduceEqDiff, Nat.reduceAdd, Nat.reduceMul, Nat.reduceLeDiff, Nat.reduceLT, Int.reduceEq, Int.toNat_natCast, t0, t2, t3, t4]; done) | rfl | (simp only [go_sem, ↓reduceIte, Nat.reduceEqDiff, Nat.reduceAdd, Nat.reduceMul, Nat.reduceLeDiff, Nat.reduceLT, Int.reduceEq, Int.toNat_natCast, t0, t2, t3, t4]; rfl)) (by first | (simp only [go_sem, ↓reduceIte, Nat.reduceEqDiff, Nat.reduceAdd, Nat.reduceMul, Nat.reduceLeDiff, Nat.reduceLT, Int.reduceEq, Int.toNat_natCast, t0, t2, t3, t4]; done) | rfl | (simp only [go_sem, ↓reduceIte, Nat.reduceEqDiff, Nat.reduceAdd, Nat.reduceMul, Nat.reduceLeDiff, Nat.reduceLT, Int.reduceEq, Int.toNat_natCast, t0, t2, t3, t4]; rfl)) (by first | (simp only [go_sem, ↓reduceIte, Nat.reduceEqDiff, Nat.reduceAdd, Nat.reduceMul, Nat.reduceLeDiff, Nat.reduceLT, Int.reduceEq, Int.toNat_natCast, t0, t2, t3, t4]; done) | rfl | (simp only [go_sem, ↓reduceIte, Nat.reduceEqDiff, Nat.reduceAdd, Nat.reduceMul, Nat.reduceLeDiff, Nat.reduceLT, Int.reduceEq, Int.toNat_natCast, t0, t2, t3, t4]; rfl)) (by first | (simp only [go_sem, ↓reduceIte, Nat.reduceEqDiff, Nat.reduceAdd, Nat.reduceMul, Nat.reduceLeDiff, Nat.reduceLT, Int.reduceEq, Int.toNat_natCast, t0, t2, t3, t4]; done) | rfl | (simp only [go_sem, ↓reduceIte, Nat.reduceEqDiff, Nat.reduceAdd, Nat.reduceMul, Nat.reduceLeDiff, Nat.reduceLT, Int.reduceEq, Int.toNat_natCast, t0, t2, t3, t4]; rfl)) (by first | (simp only [go_sem, ↓reduceIte, Nat.reduceEqDiff, Nat.reduceAdd, Nat.reduceMul, Nat.reduceLeDiff, Nat.reduceLT, Int.reduceEq, Int.toNat_natCast, t0, t2, t3, t4]; done) | rfl | (simp only [go_sem, ↓reduceIte, Nat.reduceEqDiff, Nat.reduceAdd, Nat.reduceMul, Nat.reduceLeDiff, Nat.reduceLT, Int.reduceEq, Int.toNat_natCast, t0, t2, t3, t4]; rfl)) (by first | (simp only [go_sem, ↓reduceIte, Nat.reduceEqDiff, Nat.reduceAdd, Nat.reduceMul, Nat.reduceLeDiff, Nat.reduceLT, Int.reduceEq, Int.toNat_natCast, t0, t2, t3, t4]; done) | rfl | (simp only [go_sem, ↓reduceIte, Nat.reduceEqDiff, Nat.reduceAdd, Nat.reduceMul, Nat.reduceLeDiff, Nat.reduceLT, Int.reduceEq, Int.toNat_natCast, t0, t2, t3, t4]; rfl)) hF
      · intro e19t_5 he T20 σ21 t2 t3 t4 t5 hF
        have he := he.symm
        subst he
        dsimp only at H
        try simp only [go_sem, ↓reduceIte, Nat.reduceEqDiff, Nat.reduceAdd, Nat.reduceMul, Nat.reduceLeDiff, Nat.reduceLT, Int.reduceEq, Int.toNat_natCast, t2, t3, t4, t5]
        refine aCnd_b x14 rfl (fun h => ?_) (fun h => ?_)
        · rw [if_pos h] at H
          try simp only [go_sem, ↓reduceIte, Nat.reduceEqDiff, Nat.reduceAdd, Nat.reduceMul, Nat.reduceLeDiff, Nat.reduceLT, Int.reduceEq, Int.toNat_natCast, t2, t3, t4, t5]
          have e := pur H; subst e
          exact fx_ret (vs := [.int .i64 (IntKind.i64.wrap (0 - e19t_5)), .bool true]) (by first | (simp only [go_sem, ↓reduceIte, Nat.reduceEqDiff, Nat.reduceAdd, Nat.reduceMul, Nat.reduceLeDiff, Nat.reduceLT, Int.reduceEq, Int.toNat_natCast, t2, t3, t4, t5]; done) | rfl | (simp only [go_sem, ↓reduceIte, Nat.reduceEqDiff, Nat.reduceAdd, Nat.reduceMul, Nat.reduceLeDiff, Nat.reduceLT, Int.reduceEq, Int.toNat_natCast, t2, t3, t4, t5]; rfl)) (Wk.tup hF.sub (.cons (hF.wk0 _) (fun h => by first | exact h | rfl) (.cons (hF.wk0 _) (fun h => by first | exact h | rfl) .nil)))
        · rw [if_neg h] at H
          try simp only [go_sem, ↓reduceIte, Nat.reduceEqDiff, Nat.reduceAdd, Nat.reduceMul, Nat.reduceLeDiff, Nat.reduceLT, Int.reduceEq, Int.toNat_natCast, t2, t3, t4, t5]
          have e := pur H; subst e
          exact fx_ret (vs := [.int .i64 e19t_5, .bool true]) (by first | (simp only [go_sem, ↓reduceIte, Nat.reduceEqDiff, Nat.reduceAdd, Nat.reduceMul, Nat.reduceLeDiff, Nat.reduceLT, Int.reduceEq, Int.toNat_natCast, t2, t3, t4, t5]; done) | rfl | (simp only [go_sem, ↓reduceIte, Nat.reduceEqDiff, Nat.reduceAdd, Nat.reduceMul, Nat.reduceLeDiff, Nat.reduceLT, Int.reduceEq, Int.toNat_natCast, t2, t3, t4, t5]; rfl)) (Wk.tup hF.sub (.cons (hF.wk0 _) (fun h => by first | exact h | rfl) (.cons (hF.wk0 _) (fun h => by first | exact h | rfl) .nil)))
      · intro r hr s' hs
        subst hr
        have e := pur H; subst e
        first | exact hs | (try simp only [Fm.cells_eq] at hs ⊢; exact hs)
theorem spec_l15Cut_l0_ok : ∀ (a0 : ByteArray) (a1 : Int) (z0o_0 : List ByteArray) (z0t_6 : Int) (z0t_7 : Int) out, spec_l15Cut_l0 a0 a1 z0o_0 z0t_6 z0t_7 = some out → ∀ c, loopAt Try.f63 0 = some c → ∀ (Q : AX → AS → Prop) (τ : Sto), (∀ (e0o_0 : List ByteArray), out = e0o_0 → ∀ (T : Nat → AV) (σ : Sto) (e0v0 : AV), T 4 = .nilsl → T 5 = e0v0 → Fx τ σ [] [⟨e0v0, 9, 1, rws cS e0o_0⟩] → Q (.ex 0) ⟨T, σ⟩) → True → ∀ (T : Nat → AV) (σ : Sto) (z0v0 : AV), T 0 = .str a0 → T 1 = .int .u8 a1 → T 4 = .nilsl → T 5 = z0v0 → T 6 = .int .i64 z0t_6 → T 7 = .int .i64 z0t_7 → Fx τ σ [] [⟨z0v0, 9, 1, rws cS z0o_0⟩] → aLoop (acode Try.prog c) Q ⟨T, σ⟩ := by
  intro a0 a1 z0o_0 z0t_6 z0t_7
  revert z0o_0 z0t_6 z0t_7
  refine spec_l15Cut_l0.partial_correctness a0 a1 _ ?_
  intro spec_l15Cut_l0 IH z0o_0 z0t_6 z0t_7 out H c hc Q τ  hE hR T σ z0v0 t0 t1 t4 t5 t6 t7 hF
  obtain rfl := Option.some.inj ((rfl : loopAt Try.f63 0 = some _).symm.trans hc)
  refine aLoop_round ?_
  try simp only [go_sem, ↓reduceIte, Nat.reduceEqDiff, Nat.reduceAdd, Nat.reduceMul, Nat.reduceLeDiff, Nat.reduceLT, Int.reduceEq, Int.toNat_natCast, t0, t1, t4, t5, t6, t7, hF.cells 0 rfl, hF.len 0 rfl]
  refine aCnd_p (z0t_7 ≤ (a0.size : Int)) rfl (fun h => ?_) (fun h => ?_)
  · rw [if_pos h] at H
    try simp only [go_sem, ↓reduceIte, Nat.reduceEqDiff, Nat.reduceAdd, Nat.reduceMul, Nat.reduceLeDiff, Nat.reduceLT, Int.reduceEq, Int.toNat_natCast, t0, t1, t4, t5, t6, t7, hF.cells 0 rfl, hF.len 0 rfl]
    obtain ⟨x25, g1, H⟩ := bnd H
    refine aGd_cutN 5 20 25 (.bool x25) (aGd_introN (fun q2 => ?_) (fun q2 => ?_)) (fun J => ?_)
    · rw [if_neg (of_decide_eq_false q2)] at g1
      obtain ⟨x22, hx22, g1⟩ := bnd g1
      try simp only [go_sem, ↓reduceIte, Nat.reduceEqDiff, Nat.reduceAdd, Nat.reduceMul, Nat.reduceLeDiff, Nat.reduceLT, Int.reduceEq, Int.toNat_natCast, t0, t1, t4, t5, t6, t7, q2, hF.cells 0 rfl, hF.len 0 rfl, aindex_sidx hx22]
      refine cut_done 20 (by have e := pur g1; subst e; (first | rfl | (simp only [go_sem, ↓reduceIte, Nat.reduceEqDiff, Nat.reduceAdd, Nat.reduceMul, Nat.reduceLeDiff, Nat.reduceLT, Int.reduceEq, Int.toNat_natCast, q2]; done) | (simp only [go_sem, ↓reduceIte, Nat.reduceEqDiff, Nat.reduceAdd, Nat.reduceMul, Nat.reduceLeDiff, Nat.reduceLT, Int.reduceEq, Int.toNat_natCast, q2]; simp_all [upd_app]) | simp_all [upd_app])) ?_
      (repeat (first | refine agree_upd (by decide) ?_ | refine agree_low (by decide) ?_)) <;> (repeat (first | refine agree_updR (by decide) ?_ | refine agree_lowR (by decide) ?_)) <;> exact fun _ _ _ => rfl
    · rw [if_pos (of_decide_eq_true q2)] at g1
      try simp only [go_sem, ↓reduceIte, Nat.reduceEqDiff, Nat.reduceAdd, Nat.reduceMul, Nat.reduceLeDiff, Nat.reduceLT, Int.reduceEq, Int.toNat_natCast, t0, t1, t4, t5, t6, t7, q2, hF.cells 0 rfl, hF.len 0 rfl]
      refine cut_done 20 (by have e := pur g1; subst e; (first | rfl | (simp only [go_sem, ↓reduceIte, Nat.reduceEqDiff, Nat.reduceAdd, Nat.reduceMul, Nat.reduceLeDiff, Nat.reduceLT, Int.reduceEq, Int.toNat_natCast, q2]; done) | (simp only [go_sem, ↓reduceIte, Nat.reduceEqDiff, Nat.reduceAdd, Nat.reduceMul, Nat.reduceLeDiff, Nat.reduceLT, Int.reduceEq, Int.toNat_natCast, q2]; simp_all [upd_app]) | simp_all [upd_app])) ?_
      (repeat (first | refine agree_upd (by decide) ?_ | refine agree_low (by decide) ?_)) <;> (repeat (first | refine agree_updR (by decide) ?_ | refine agree_lowR (by decide) ?_)) <;> exact fun _ _ _ => rfl
    try simp only [go_sem, ↓reduceIte, Nat.reduceEqDiff, Nat.reduceAdd, Nat.reduceMul, Nat.reduceLeDiff, Nat.reduceLT, Int.reduceEq, Int.toNat_natCast, t0, t1, t4, t5, t6, t7, hF.cells 0 rfl, hF.len 0 rfl]
    refine aCnd_b x25 rfl (fun h => ?_) (fun h => ?_)
    · rw [if_pos h] at H
      obtain ⟨x30, hx30, H⟩ := bnd H
      try simp only [go_sem, ↓reduceIte, Nat.reduceEqDiff, Nat.reduceAdd, Nat.reduceMul, Nat.reduceLeDiff, Nat.reduceLT, Int.reduceEq, Int.toNat_natCast, t0, t1, t4, t5, t6, t7, hF.cells 0 rfl, hF.len 0 rfl, aslice_ssub (lo := some (.int .i64 z0t_6)) (hi := some (.int .i64 z0t_7)) rfl rfl hx30]
      obtain ⟨x32, hx32, H⟩ := bnd H
      refine fx_app hF 0 (g := cS) (xs := z0o_0) (ys := [x30]) rfl (by decide) (by decide) (RdL.of (c := true) (fun _ => rfl) (by first | rfl | simp only [rws_cons, rws_nil, cI, cU, cS, cL])) hx32 fun v3 σ4 hF => ?_
      try simp only [go_sem, ↓reduceIte, Nat.reduceEqDiff, Nat.reduceAdd, Nat.reduceMul, Nat.reduceLeDiff, Nat.reduceLT, Int.reduceEq, Int.toNat_natCast, t0, t1, t4, t5, t6, t7, hF.cells 0 rfl, hF.len 0 rfl]
      exact IH  x32 (IntKind.i64.wrap (z0t_7 + 1)) (IntKind.i64.wrap (z0t_7 + 1)) _ H _ rfl Q τ  hE hR _ _ v3 (by first | (simp only [go_sem, ↓reduceIte, Nat.reduceEqDiff, Nat.reduceAdd, Nat.reduceMul, Nat.reduceLeDiff, Nat.reduceLT, Int.reduceEq, Int.toNat_natCast, t0, t1, t4, t5, t6, t7, hF.cells 0 rfl, hF.len 0 rfl]; done) | rfl | (simp only [go_sem, ↓reduceIte, Nat.reduceEqDiff, Nat.reduceAdd, Nat.reduceMul, Nat.reduceLeDiff, Nat.reduceLT, Int.reduceEq, Int.toNat_natCast, t0, t1, t4, t5, t6, t7, hF.cells 0 rfl, hF.len 0 rfl]; rfl)) (by first | (simp only [go_sem, ↓reduceIte, Nat.reduceEqDiff, Nat.reduceAdd, Nat.reduceMul, Nat.reduceLeDiff, Nat.reduceLT, Int.reduceEq, Int.toNat_natCast, t0, t1, t4, t5, t6, t7, hF.cells 0 rfl, hF.len 0 rfl]; done) | rfl | (simp only [go_sem, ↓reduceIte, Nat.reduceEqDiff, Nat.reduceAdd, Nat.reduceMul, Nat.reduceLeDiff, Nat.reduceLT, Int.reduceEq, Int.toNat_natCast, t0, t1, t4, t5, t6, t7, hF.cells 0 rfl, hF.len 0 rfl]; rfl)) (by first | (simp only [go_sem, ↓reduceIte, Nat.reduceEqDiff, Nat.reduceAdd, Nat.reduceMul, Nat.reduceLeDiff, Nat.reduceLT, Int.reduceEq, Int.toNat_natCast, t0, t1, t4, t5, t6, t7, hF.cells 0 rfl, hF.len 0 rfl]; done) | rfl | (simp only [go_sem, ↓reduceIte, Nat.reduceEqDiff, Nat.reduceAdd, Nat.reduceMul, Nat.reduceLeDiff, Nat.reduceLT, Int.reduceEq, Int.toNat_natCast, t0, t1, t4, t5, t6, t7, hF.cells 0 rfl, hF.len 0 rfl]; rfl)) (by first | (simp only [go_sem, ↓reduceIte, Nat.reduceEqDiff, Nat.reduceAdd, Nat.reduceMul, Nat.reduceLeDiff, Nat.reduceLT, Int.reduceEq, Int.toNat_natCast, t0, t1, t4, t5, t6, t7, hF.cells 0 rfl, hF.len 0 rfl]; done) | rfl | (simp only [go_sem, ↓reduceIte, Nat.reduceEqDiff, Nat.reduceAdd, Nat.reduceMul, Nat.reduceLeDiff, Nat.reduceLT, Int.reduceEq, Int.toNat_natCast, t0, t1, t4, t5, t6, t7, hF.cells 0 rfl, hF.len 0 rfl]; rfl)) (by first | (simp only [go_sem, ↓reduceIte, Nat.reduceEqDiff, Nat.reduceAdd, Nat.reduceMul, Nat.reduceLeDiff, Nat.reduceLT, Int.reduceEq, Int.toNat_natCast, t0, t1, t4, t5, t6, t7, hF.cells 0 rfl, hF.len 0 rfl]; done) | rfl | (simp only [go_sem, ↓reduceIte, Nat.reduceEqDiff, Nat.reduceAdd, Nat.reduceMul, Nat.reduceLeDiff, Nat.reduceLT, Int.reduceEq, Int.toNat_natCast, t0, t1, t4, t5, t6, t7, hF.cells 0 rfl, hF.len 0 rfl]; rfl)) (by first | (simp only [go_sem, ↓reduceIte, Nat.reduceEqDiff, Nat.reduceAdd, Nat.reduceMul, Nat.reduceLeDiff, Nat.reduceLT, Int.reduceEq, Int.toNat_natCast, t0, t1, t4, t5, t6, t7, hF.cells 0 rfl, hF.len 0 rfl]; done) | rfl | (simp only [go_sem, ↓reduceIte, Nat.reduceEqDiff, Nat.reduceAdd, Nat.reduceMul, Nat.reduceLeDiff, Nat.reduceLT, Int.reduceEq, Int.toNat_natCast, t0, t1, t4, t5, t6, t7, hF.cells 0 rfl, hF.len 0 rfl]; rfl)) hF
    · rw [if_neg h] at H
      try simp only [go_sem, ↓reduceIte, Nat.reduceEqDiff, Nat.reduceAdd, Nat.reduceMul, Nat.reduceLeDiff, Nat.reduceLT, Int.reduceEq, Int.toNat_natCast, t0, t1, t4, t5, t6, t7, hF.cells 0 rfl, hF.len 0 rfl]
      exact IH  z0o_0 z0t_6 (IntKind.i64.wrap (z0t_7 + 1)) _ H _ rfl Q τ  hE hR _ _ z0v0 (by first | (simp only [go_sem, ↓reduceIte, Nat.reduceEqDiff, Nat.reduceAdd, Nat.reduceMul, Nat.reduceLeDiff, Nat.reduceLT, Int.reduceEq, Int.toNat_natCast, t0, t1, t4, t5, t6, t7, hF.cells 0 rfl, hF.len 0 rfl]; done) | rfl | (simp only [go_sem, ↓reduceIte, Nat.reduceEqDiff, Nat.reduceAdd, Nat.reduceMul, Nat.reduceLeDiff, Nat.reduceLT, Int.reduceEq, Int.toNat_natCast, t0, t1, t4, t5, t6, t7, hF.cells 0 rfl, hF.len 0 rfl]; rfl)) (by first | (simp only [go_sem, ↓reduceIte, Nat.reduceEqDiff, Nat.reduceAdd, Nat.reduceMul, Nat.reduceLeDiff, Nat.reduceLT, Int.reduceEq, Int.toNat_natCast, t0, t1, t4, t5, t6, t7, hF.cells 0 rfl, hF.len 0 rfl]; done) | rfl | (simp only [go_sem, ↓reduceIte, Nat.reduceEqDiff, Nat.reduceAdd, Nat.reduceMul, Nat.reduceLeDiff, Nat.reduceLT, Int.reduceEq, Int.toNat_natCast, t0, t1, t4, t5, t6, t7, hF.cells 0 rfl, hF.len 0 rfl]; rfl)) (by first | (simp only [go_sem, ↓reduceIte, Nat.reduceEqDiff, Nat.reduceAdd, Nat.reduceMul, Nat.reduceLeDiff, Nat.reduceLT, Int.reduceEq, Int.toNat_natCast, t0, t1, t4, t5, t6, t7, hF.cells 0 rfl, hF.len 0 rfl]; done) | rfl | (simp only [go_sem, ↓reduceIte, Nat.reduceEqDiff, Nat.reduceAdd, Nat.reduceMul, Nat.reduceLeDiff, Nat.reduceLT, Int.reduceEq, Int.toNat_natCast, t0, t1, t4, t5, t6, t7, hF.cells 0 rfl, hF.len 0 rfl]; rfl)) (by first | (simp only [go_sem, ↓reduceIte, Nat.reduceEqDiff, Nat.reduceAdd, Nat.reduceMul, Nat.reduceLeDiff, Nat.reduceLT, Int.reduceEq, Int.toNat_natCast, t0, t1, t4, t5, t6, t7, hF.cells 0 rfl, hF.len 0 rfl]; done) | rfl | (simp only [go_sem, ↓reduceIte, Nat.reduceEqDiff, Nat.reduceAdd, Nat.reduceMul, Nat.reduceLeDiff, Nat.reduceLT, Int.reduceEq, Int.toNat_natCast, t0, t1, t4, t5, t6, t7, hF.cells 0 rfl, hF.len 0 rfl]; rfl)) (by first | (simp only [go_sem, ↓reduceIte, Nat.reduceEqDiff, Nat.reduceAdd, Nat.reduceMul, Nat.reduceLeDiff, Nat.reduceLT, Int.reduceEq, Int.toNat_natCast, t0, t1, t4, t5, t6, t7, hF.cells 0 rfl, hF.len 0 rfl]; done) | rfl | (simp only [go_sem, ↓reduceIte, Nat.reduceEqDiff, Nat.reduceAdd, Nat.reduceMul, Nat.reduceLeDiff, Nat.reduceLT, Int.reduceEq, Int.toNat_natCast, t0, t1, t4, t5, t6, t7, hF.cells 0 rfl, hF.len 0 rfl]; rfl)) (by first | (simp only [go_sem, ↓reduceIte, Nat.reduceEqDiff, Nat.reduceAdd, Nat.reduceMul, Nat.reduceLeDiff, Nat.reduceLT, Int.reduceEq, Int.toNat_natCast, t0, t1, t4, t5, t6, t7, hF.cells 0 rfl, hF.len 0 rfl]; done) | rfl | (simp only [go_sem, ↓reduceIte, Nat.reduceEqDiff, Nat.reduceAdd, Nat.reduceMul, Nat.reduceLeDiff, Nat.reduceLT, Int.reduceEq, Int.toNat_natCast, t0, t1, t4, t5, t6, t7, hF.cells 0 rfl, hF.len 0 rfl]; rfl)) hF
  · rw [if_neg h] at H
    try simp only [go_sem, ↓reduceIte, Nat.reduceEqDiff, Nat.reduceAdd, Nat.reduceMul, Nat.reduceLeDiff, Nat.reduceLT, Int.reduceEq, Int.toNat_natCast, t0, t1, t4, t5, t6, t7, hF.cells 0 rfl, hF.len 0 rfl]
    exact hE _ (pur H).symm _ _ z0v0 (by first | (simp only [go_sem, ↓reduceIte, Nat.reduceEqDiff, Nat.reduceAdd, Nat.reduceMul, Nat.reduceLeDiff, Nat.reduceLT, Int.reduceEq, Int.toNat_natCast, t0, t1, t4, t5, t6, t7, hF.cells 0 rfl, hF.len 0 rfl]; done) | rfl | (simp only [go_sem, ↓reduceIte, Nat.reduceEqDiff, Nat.reduceAdd, Nat.reduceMul, Nat.reduceLeDiff, Nat.reduceLT, Int.reduceEq, Int.toNat_natCast, t0, t1, t4, t5, t6, t7, hF.cells 0 rfl, hF.len 0 rfl]; rfl)) (by first | (simp only [go_sem, ↓reduceIte, Nat.reduceEqDiff, Nat.reduceAdd, Nat.reduceMul, Nat.reduceLeDiff, Nat.reduceLT, Int.reduceEq, Int.toNat_natCast, t0, t1, t4, t5, t6, t7, hF.cells 0 rfl, hF.len 0 rfl]; done) | rfl | (simp only [go_sem, ↓reduceIte, Nat.reduceEqDiff, Nat.reduceAdd, Nat.reduceMul, Nat.reduceLeDiff, Nat.reduceLT, Int.reduceEq, Int.toNat_natCast, t0, t1, t4, t5, t6, t7, hF.cells 0 rfl, hF.len 0 rfl]; rfl)) hF
theorem spec_l15Cut_ok : ∀ (a0 : ByteArray) (a1 : Int) r, spec_l15Cut a0 a1 = some r → PCtr Try.prog 63 [.str a0, .int .u8 a1] (.sl false (rws cS r)) := by
  intro a0 a1 r H
  intro σ
  unfold spec_l15Cut at H
  refine ctr_of mixed Try.func63 rfl (by kernel_rfl) (rs := [.tmp 4]) rfl (by kernel_rfl) ?_
  have hF := Fx.refl σ
  have hX := Tau.none σ
  have hF := hF.lit 9 1 (rws cS []) rfl
  try simp only [go_sem, ↓reduceIte, Nat.reduceEqDiff, Nat.reduceAdd, Nat.reduceMul, Nat.reduceLeDiff, Nat.reduceLT, Int.reduceEq, Int.toNat_natCast, hF.cells 0 rfl, hF.len 0 rfl]
  obtain ⟨o5, ho5, H⟩ := bnd H
  refine spec_l15Cut_l0_ok a0 a1 [] 0 0 _ ho5 _ rfl _ _  ?_ ?_ _ _ (.sl true (rws cS [])) (by first | (simp only [go_sem, ↓reduceIte, Nat.reduceEqDiff, Nat.reduceAdd, Nat.reduceMul, Nat.reduceLeDiff, Nat.reduceLT, Int.reduceEq, Int.toNat_natCast, hF.cells 0 rfl, hF.len 0 rfl]; done) | rfl | (simp only [go_sem, ↓reduceIte, Nat.reduceEqDiff, Nat.reduceAdd, Nat.reduceMul, Nat.reduceLeDiff, Nat.reduceLT, Int.reduceEq, Int.toNat_natCast, hF.cells 0 rfl, hF.len 0 rfl]; rfl)) (by first | (simp only [go_sem, ↓reduceIte, Nat.reduceEqDiff, Nat.reduceAdd, Nat.reduceMul, Nat.reduceLeDiff, Nat.reduceLT, Int.reduceEq, Int.toNat_natCast, hF.cells 0 rfl, hF.len 0 rfl]; done) | rfl | (simp only [go_sem, ↓reduceIte, Nat.reduceEqDiff, Nat.reduceAdd, Nat.reduceMul, Nat.reduceLeDiff, Nat.reduceLT, Int.reduceEq, Int.toNat_natCast, hF.cells 0 rfl, hF.len 0 rfl]; rfl)) (by first | (simp only [go_sem, ↓reduceIte, Nat.reduceEqDiff, Nat.reduceAdd, Nat.reduceMul, Nat.reduceLeDiff, Nat.reduceLT, Int.reduceEq, Int.toNat_natCast, hF.cells 0 rfl, hF.len 0 rfl]; done) | rfl | (simp only [go_sem, ↓reduceIte, Nat.reduceEqDiff, Nat.reduceAdd, Nat.reduceMul, Nat.reduceLeDiff, Nat.reduceLT, Int.reduceEq, Int.toNat_natCast, hF.cells 0 rfl, hF.len 0 rfl]; rfl)) (by first | (simp only [go_sem, ↓reduceIte, Nat.reduceEqDiff, Nat.reduceAdd, Nat.reduceMul, Nat.reduceLeDiff, Nat.reduceLT, Int.reduceEq, Int.toNat_natCast, hF.cells 0 rfl, hF.len 0 rfl]; done) | rfl | (simp only [go_sem, ↓reduceIte, Nat.reduceEqDiff, Nat.reduceAdd, Nat.reduceMul, Nat.reduceLeDiff, Nat.reduceLT, Int.reduceEq, Int.toNat_natCast, hF.cells 0 rfl, hF.len 0 rfl]; rfl)) (by first | (simp only [go_sem, ↓reduceIte, Nat.reduceEqDiff, Nat.reduceAdd, Nat.reduceMul, Nat.reduceLeDiff, Nat.reduceLT, Int.reduceEq, Int.toNat_natCast, hF.cells 0 rfl, hF.len 0 rfl]; done) | rfl | (simp only [go_sem, ↓reduceIte, Nat.reduceEqDiff, Nat.reduceAdd, Nat.reduceMul, Nat.reduceLeDiff, Nat.reduceLT, Int.reduceEq, Int.toNat_natCast, hF.cells 0 rfl, hF.len 0 rfl]; rfl)) (by first | (simp only [go_sem, ↓reduceIte, Nat.reduceEqDiff, Nat.reduceAdd, Nat.reduceMul, Nat.reduceLeDiff, Nat.reduceLT, Int.reduceEq, Int.toNat_natCast, hF.cells 0 rfl, hF.len 0 rfl]; done) | rfl | (simp only [go_sem, ↓reduceIte, Nat.reduceEqDiff, Nat.reduceAdd, Nat.reduceMul, Nat.reduceLeDiff, Nat.reduceLT, Int.reduceEq, Int.toNat_natCast, hF.cells 0 rfl, hF.len 0 rfl]; rfl)) hF
  · intro e6o_0 he T7 σ8 e6v0 t4 t5 hF
    have he := he.symm
    subst he
    try simp only [go_sem, ↓reduceIte, Nat.reduceEqDiff, Nat.reduceAdd, Nat.reduceMul, Nat.reduceLeDiff, Nat.reduceLT, Int.reduceEq, Int.toNat_natCast, t4, t5, hF.cells 0 rfl, hF.len 0 rfl]
    have e := pur H; subst e
    exact fx_ret (vs := [e6v0]) (by first | (simp only [go_sem, ↓reduceIte, Nat.reduceEqDiff, Nat.reduceAdd, Nat.reduceMul, Nat.reduceLeDiff, Nat.reduceLT, Int.reduceEq, Int.toNat_natCast, t4, t5, hF.cells 0 rfl, hF.len 0 rfl]; done) | rfl | (simp only [go_sem, ↓reduceIte, Nat.reduceEqDiff, Nat.reduceAdd, Nat.reduceMul, Nat.reduceLeDiff, Nat.reduceLT, Int.reduceEq, Int.toNat_natCast, t4, t5, hF.cells 0 rfl, hF.len 0 rfl]; rfl)) (hF.wk 0 rfl)
  · trivial
theorem spec_l1Sets_l0_ok : ∀ (a0 : ByteArray) (a1 : Int) (z0t_7 : Int) out, spec_l1Sets_l0 a0 a1 z0t_7 = some out → ∀ c, loopAt Try.f62 0 = some c → ∀ (Q : AX → AS → Prop) (τ : Sto), (∀ (e0t_7 : Int), out = e0t_7 → ∀ (T : Nat → AV) (σ : Sto), T 0 = .str a0 → T 1 = .int .i64 a1 → T 4 = .nilsl → T 5 = .int .i64 0 → T 6 = .sl true (rws cI []) → T 7 = .int .i64 e0t_7 → Fx τ σ [] [] → Q (.ex 0) ⟨T, σ⟩) → True → ∀ (T : Nat → AV) (σ : Sto), T 0 = .str a0 → T 1 = .int .i64 a1 → T 4 = .nilsl → T 5 = .int .i64 0 → T 6 = .sl true (rws cI []) → T 7 = .int .i64 z0t_7 → Fx τ σ [] [] → aLoop (acode Try.prog c) Q ⟨T, σ⟩ := by
  intro a0 a1 z0t_7
  revert z0t_7
  refine spec_l1Sets_l0.partial_correctness a0 a1 _ ?_
  intro spec_l1Sets_l0 IH z0t_7 out H c hc Q τ  hE hR T σ t0 t1 t4 t5 t6 t7 hF
  obtain rfl := Option.some.inj ((rfl : loopAt Try.f62 0 = some _).symm.trans hc)
  refine aLoop_round ?_
  try simp only [go_sem, ↓reduceIte, Nat.reduceEqDiff, Nat.reduceAdd, Nat.reduceMul, Nat.reduceLeDiff, Nat.reduceLT, Int.reduceEq, Int.toNat_natCast, t0, t1, t4, t5, t6, t7]
  obtain ⟨x35, g3, H⟩ := bnd H
  refine aGd_cutN 4 31 35 (.bool x35) (aGd_intro (fun q4 => ?_) (fun q4 => ?_)) (fun J => ?_)
  · rw [if_pos (of_decide_eq_true q4)] at g3
    obtain ⟨x33, hx33, g3⟩ := bnd g3
    try simp only [go_sem, ↓reduceIte, Nat.reduceEqDiff, Nat.reduceAdd, Nat.reduceMul, Nat.reduceLeDiff, Nat.reduceLT, Int.reduceEq, Int.toNat_natCast, t0, t1, t4, t5, t6, t7, q4, aindex_sidx hx33]
    refine cut_done 31 (by have e := pur g3; subst e; (first | rfl | (simp only [go_sem, ↓reduceIte, Nat.reduceEqDiff, Nat.reduceAdd, Nat.reduceMul, Nat.reduceLeDiff, Nat.reduceLT, Int.reduceEq, Int.toNat_natCast, q4]; done) | (simp only [go_sem, ↓reduceIte, Nat.reduceEqDiff, Nat.reduceAdd, Nat.reduceMul, Nat.reduceLeDiff, Nat.reduceLT, Int.reduceEq, Int.toNat_natCast, q4]; simp_all [upd_app]) | simp_all [upd_app])) ?_
    (repeat (first | refine agree_upd (by decide) ?_ | refine agree_low (by decide) ?_)) <;> (repeat (first | refine agree_updR (by decide) ?_ | refine agree_lowR (by decide) ?_)) <;> exact fun _ _ _ => rfl
  · rw [if_neg (of_decide_eq_false q4)] at g3
    try simp only [go_sem, ↓reduceIte, Nat.reduceEqDiff, Nat.reduceAdd, Nat.reduceMul, Nat.reduceLeDiff, Nat.reduceLT, Int.reduceEq, Int.toNat_natCast, t0, t1, t4, t5, t6, t7, q4]
    refine cut_done 31 (by have e := pur g3; subst e; (first | rfl | (simp only [go_sem, ↓reduceIte, Nat.reduceEqDiff, Nat.reduceAdd, Nat.reduceMul, Nat.reduceLeDiff, Nat.reduceLT, Int.reduceEq, Int.toNat_natCast, q4]; done) | (simp only [go_sem, ↓reduceIte, Nat.reduceEqDiff, Nat.reduceAdd, Nat.reduceMul, Nat.reduceLeDiff, Nat.reduceLT, Int.reduceEq, Int.toNat_natCast, q4]; simp_all [upd_app]) | simp_all [upd_app])) ?_
    (repeat (first | refine agree_upd (by decide) ?_ | refine agree_low (by decide) ?_)) <;> (repeat (first | refine agree_updR (by decide) ?_ | refine agree_lowR (by decide) ?_)) <;> exact fun _ _ _ => rfl
  try simp only [go_sem, ↓reduceIte, Nat.reduceEqDiff, Nat.reduceAdd, Nat.reduceMul, Nat.reduceLeDiff, Nat.reduceLT, Int.reduceEq, Int.toNat_natCast, t0, t1, t4, t5, t6, t7]
  refine aCnd_b x35 rfl (fun h => ?_) (fun h => ?_)
  · rw [if_pos h] at H
    try simp only [go_sem, ↓reduceIte, Nat.reduceEqDiff, Nat.reduceAdd, Nat.reduceMul, Nat.reduceLeDiff, Nat.reduceLT, Int.reduceEq, Int.toNat_natCast, t0, t1, t4, t5, t6, t7]
    exact IH  (IntKind.i64.wrap (z0t_7 + 1)) _ H _ rfl Q τ  hE hR _ _  (by first | (simp only [go_sem, ↓reduceIte, Nat.reduceEqDiff, Nat.reduceAdd, Nat.reduceMul, Nat.reduceLeDiff, Nat.reduceLT, Int.reduceEq, Int.toNat_natCast, t0, t1, t4, t5, t6, t7]; done) | rfl | (simp only [go_sem, ↓reduceIte, Nat.reduceEqDiff, Nat.reduceAdd, Nat.reduceMul, Nat.reduceLeDiff, Nat.reduceLT, Int.reduceEq, Int.toNat_natCast, t0, t1, t4, t5, t6, t7]; rfl)) (by first | (simp only [go_sem, ↓reduceIte, Nat.reduceEqDiff, Nat.reduceAdd, Nat.reduceMul, Nat.reduceLeDiff, Nat.reduceLT, Int.reduceEq, Int.toNat_natCast, t0, t1, t4, t5, t6, t7]; done) | rfl | (simp only [go_sem, ↓reduceIte, Nat.reduceEqDiff, Nat.reduceAdd, Nat.reduceMul, Nat.reduceLeDiff, Nat.reduceLT, Int.reduceEq, Int.toNat_natCast, t0, t1, t4, t5, t6, t7]; rfl)) (by first | (simp only [go_sem, ↓reduceIte, Nat.reduceEqDiff, Nat.reduceAdd, Nat.reduceMul, Nat.reduceLeDiff, Nat.reduceLT, Int.reduceEq, Int.toNat_natCast, t0, t1, t4, t5, t6, t7]; done) | rfl | (simp only [go_sem, ↓reduceIte, Nat.reduceEqDiff, Nat.reduceAdd, Nat.reduceMul, Nat.reduceLeDiff, Nat.reduceLT, Int.reduceEq, Int.toNat_natCast, t0, t1, t4, t5, t6, t7]; rfl)) (by first | (simp only [go_sem, ↓reduceIte, Nat.reduceEqDiff, Nat.reduceAdd, Nat.reduceMul, Nat.reduceLeDiff, Nat.reduceLT, Int.reduceEq, Int.toNat_natCast, t0, t1, t4, t5, t6, t7]; done) | rfl | (simp only [go_sem, ↓reduceIte, Nat.reduceEqDiff, Nat.reduceAdd, Nat.reduceMul, Nat.reduceLeDiff, Nat.reduceLT, Int.reduceEq, Int.toNat_natCast, t0, t1, t4, t5, t6, t7]; rfl)) (by first | (simp only [go_sem, ↓reduceIte, Nat.reduceEqDiff, Nat.reduceAdd, Nat.reduceMul, Nat.reduceLeDiff, Nat.reduceLT, Int.reduceEq, Int.toNat_natCast, t0, t1, t4, t5, t6, t7]; done) | rfl | (simp only [go_sem, ↓reduceIte, Nat.reduceEqDiff, Nat.reduceAdd, Nat.reduceMul, Nat.reduceLeDiff, Nat.reduceLT, Int.reduceEq, Int.toNat_natCast, t0, t1, t4, t5, t6, t7]; rfl)) (by first | (simp only [go_sem, ↓reduceIte, Nat.reduceEqDiff, Nat.reduceAdd, Nat.reduceMul, Nat.reduceLeDiff, Nat.reduceLT, Int.reduceEq, Int.toNat_natCast, t0, t1, t4, t5, t6, t7]; done) | rfl | (simp only [go_sem, ↓reduceIte, Nat.reduceEqDiff, Nat.reduceAdd, Nat.reduceMul, Nat.reduceLeDiff, Nat.reduceLT, Int.reduceEq, Int.toNat_natCast, t0, t1, t4, t5, t6, t7]; rfl)) hF
  · rw [if_neg h] at H
    try simp only [go_sem, ↓reduceIte, Nat.reduceEqDiff, Nat.reduceAdd, Nat.reduceMul, Nat.reduceLeDiff, Nat.reduceLT, Int.reduceEq, Int.toNat_natCast, t0, t1, t4, t5, t6, t7]
    exact hE _ (pur H).symm _ _  (by first | (simp only [go_sem, ↓reduceIte, Nat.reduceEqDiff, Nat.reduceAdd, Nat.reduceMul, Nat.reduceLeDiff, Nat.reduceLT, Int.reduceEq, Int.toNat_natCast, t0, t1, t4, t5, t6, t7]; done) | rfl | (simp only [go_sem, ↓reduceIte, Nat.reduceEqDiff, Nat.reduceAdd, Nat.reduceMul, Nat.reduceLeDiff, Nat.reduceLT, Int.reduceEq, Int.toNat_natCast, t0, t1, t4, t5, t6, t7]; rfl)) (by first | (simp only [go_sem, ↓reduceIte, Nat.reduceEqDiff, Nat.reduceAdd, Nat.reduceMul, Nat.reduceLeDiff, Nat.reduceLT, Int.reduceEq, Int.toNat_natCast, t0, t1, t4, t5, t6, t7]; done) | rfl | (simp only [go_sem, ↓reduceIte, Nat.reduceEqDiff, Nat.reduceAdd, Nat.reduceMul, Nat.reduceLeDiff, Nat.reduceLT, Int.reduceEq, Int.toNat_natCast, t0, t1, t4, t5, t6, t7]; rfl)) (by first | (simp only [go_sem, ↓reduceIte, Nat.reduceEqDiff, Nat.reduceAdd, Nat.reduceMul, Nat.reduceLeDiff, Nat.reduceLT, Int.reduceEq, Int.toNat_natCast, t0, t1, t4, t5, t6, t7]; done) | rfl | (simp only [go_sem, ↓reduceIte, Nat.reduceEqDiff, Nat.reduceAdd, Nat.reduceMul, Nat.reduceLeDiff, Nat.reduceLT, Int.reduceEq, Int.toNat_natCast, t0, t1, t4, t5, t6, t7]; rfl)) (by first | (simp only [go_sem, ↓reduceIte, Nat.reduceEqDiff, Nat.reduceAdd, Nat.reduceMul, Nat.reduceLeDiff, Nat.reduceLT, Int.reduceEq, Int.toNat_natCast, t0, t1, t4, t5, t6, t7]; done) | rfl | (simp only [go_sem, ↓reduceIte, Nat.reduceEqDiff, Nat.reduceAdd, Nat.reduceMul, Nat.reduceLeDiff, Nat.reduceLT, Int.reduceEq, Int.toNat_natCast, t0, t1, t4, t5, t6, t7]; rfl)) (by first | (simp only [go_sem, ↓reduceIte, Nat.reduceEqDiff, Nat.reduceAdd, Nat.reduceMul, Nat.reduceLeDiff, Nat.reduceLT, Int.reduceEq, Int.toNat_natCast, t0, t1, t4, t5, t6, t7]; done) | rfl | (simp only [go_sem, ↓reduceIte, Nat.reduceEqDiff, Nat.reduceAdd, Nat.reduceMul, Nat.reduceLeDiff, Nat.reduceLT, Int.reduceEq, Int.toNat_natCast, t0, t1, t4, t5, t6, t7]; rfl)) (by first | (simp only [go_sem, ↓reduceIte, Nat.reduceEqDiff, Nat.reduceAdd, Nat.reduceMul, Nat.reduceLeDiff, Nat.reduceLT, Int.reduceEq, Int.toNat_natCast, t0, t1, t4, t5, t6, t7]; done) | rfl | (simp only [go_sem, ↓reduceIte, Nat.reduceEqDiff, Nat.reduceAdd, Nat.reduceMul, Nat.reduceLeDiff, Nat.reduceLT, Int.reduceEq, Int.toNat_natCast, t0, t1, t4, t5, t6, t7]; rfl)) hF
theorem spec_l1Sets_l1_ok : ∀ (e6t_7 : Int) (x48 : List ByteArray) (z1o_0 : List Int) (z1t_9 : Int) out, spec_l1Sets_l1 e6t_7 x48 z1o_0 z1t_9 = some out → ∀ c, loopAt Try.f62 1 = some c → ∀ (Q : AX → AS → Prop) (τ : Sto), (∀ (e1o_0 : List Int), out = Sum.inr e1o_0 → ∀ (T : Nat → AV) (σ : Sto) (e1v0 : AV), T 4 = .nilsl → T 5 = .int .i64 0 → T 6 = e1v0 → T 7 = .int .i64 e6t_7 → Fx τ σ [] [⟨e1v0, 3, 1, rws cI e1o_0⟩] → Q (.ex 2) ⟨T, σ⟩) → (∀ r, out = Sum.inl r → ∀ s', aRet Try.prog [.tmp 4, .tmp 5] (fun r' σ' => r' = .tup [.sl false (rws cI r.1), .int .i64 r.2] ∧ σ' = τ) s' → Q .ret s') → ∀ (T : Nat → AV) (σ : Sto) (z1v0 : AV), T 4 = .nilsl → T 5 = .int .i64 0 → T 6 = z1v0 → T 7 = .int .i64 e6t_7 → T 8 = .sl false (rws cS x48) → T 9 = .int .i64 z1t_9 → Fx τ σ [] [⟨z1v0, 3, 1, rws cI z1o_0⟩] → aLoop (acode Try.prog c) Q ⟨T, σ⟩ := by
  intro e6t_7 x48 z1o_0 z1t_9
  revert z1o_0 z1t_9
  refine spec_l1Sets_l1.partial_correctness e6t_7 x48 _ ?_
  intro spec_l1Sets_l1 IH z1o_0 z1t_9 out H c hc Q τ  hE hR T σ z1v0 t4 t5 t6 t7 t8 t9 hF
  obtain rfl := Option.some.inj ((rfl : loopAt Try.f62 1 = some _).symm.trans hc)
  refine aLoop_round ?_
  try simp only [go_sem, ↓reduceIte, Nat.reduceEqDiff, Nat.reduceAdd, Nat.reduceMul, Nat.reduceLeDiff, Nat.reduceLT, Int.reduceEq, Int.toNat_natCast, t4, t5, t6, t7, t8, t9, hF.cells 0 rfl, hF.len 0 rfl]
  obtain ⟨x56, g10, H⟩ := bnd H
  refine aGd_cutN 2 54 56 (.bool x56) (aGd_intro (fun q11 => ?_) (fun q11 => ?_)) (fun J => ?_)
  · try simp only [go_sem, ↓reduceIte, Nat.reduceEqDiff, Nat.reduceAdd, Nat.reduceMul, Nat.reduceLeDiff, Nat.reduceLT, Int.reduceEq, Int.toNat_natCast, t4, t5, t6, t7, t8, t9, q11, hF.cells 0 rfl, hF.len 0 rfl]
    refine cut_done 54 (by have e := pur g10; subst e; (first | rfl | (simp only [go_sem, ↓reduceIte, Nat.reduceEqDiff, Nat.reduceAdd, Nat.reduceMul, Nat.reduceLeDiff, Nat.reduceLT, Int.reduceEq, Int.toNat_natCast, q11]; done) | (simp only [go_sem, ↓reduceIte, Nat.reduceEqDiff, Nat.reduceAdd, Nat.reduceMul, Nat.reduceLeDiff, Nat.reduceLT, Int.reduceEq, Int.toNat_natCast, q11]; simp_all [upd_app]) | simp_all [upd_app])) ?_
    (repeat (first | refine agree_upd (by decide) ?_ | refine agree_low (by decide) ?_)) <;> (repeat (first | refine agree_updR (by decide) ?_ | refine agree_lowR (by decide) ?_)) <;> exact fun _ _ _ => rfl
  · try simp only [go_sem, ↓reduceIte, Nat.reduceEqDiff, Nat.reduceAdd, Nat.reduceMul, Nat.reduceLeDiff, Nat.reduceLT, Int.reduceEq, Int.toNat_natCast, t4, t5, t6, t7, t8, t9, q11, hF.cells 0 rfl, hF.len 0 rfl]
    refine cut_done 54 (by have e := pur g10; subst e; (first | rfl | (simp only [go_sem, ↓reduceIte, Nat.reduceEqDiff, Nat.reduceAdd, Nat.reduceMul, Nat.reduceLeDiff, Nat.reduceLT, Int.reduceEq, Int.toNat_natCast, q11]; done) | (simp only [go_sem, ↓reduceIte, Nat.reduceEqDiff, Nat.reduceAdd, Nat.reduceMul, Nat.reduceLeDiff, Nat.reduceLT, Int.reduceEq, Int.toNat_natCast, q11]; simp_all [upd_app]) | simp_all [upd_app])) ?_
    (repeat (first | refine agree_upd (by decide) ?_ | refine agree_low (by decide) ?_)) <;> (repeat (first | refine agree_updR (by decide) ?_ | refine agree_lowR (by decide) ?_)) <;> exact fun _ _ _ => rfl
  try simp only [go_sem, ↓reduceIte, Nat.reduceEqDiff, Nat.reduceAdd, Nat.reduceMul, Nat.reduceLeDiff, Nat.reduceLT, Int.reduceEq, Int.toNat_natCast, t4, t5, t6, t7, t8, t9, hF.cells 0 rfl, hF.len 0 rfl]
  refine aCnd_b x56 rfl (fun h => ?_) (fun h => ?_)
  · rw [if_pos h] at H
    obtain ⟨x62, hx62, H⟩ := bnd H
    try simp only [go_sem, ↓reduceIte, Nat.reduceEqDiff, Nat.reduceAdd, Nat.reduceMul, Nat.reduceLeDiff, Nat.reduceLT, Int.reduceEq, Int.toNat_natCast, t4, t5, t6, t7, t8, t9, hF.cells 0 rfl, hF.len 0 rfl, aidx_idx (g := cS) (fun _ => rfl) hx62]
    obtain ⟨x64, hx64, H⟩ := bnd H
    refine aCall_pure (spec_l15Num_ok x62 _ hx64) (WkVL.refl _) ?_
    try simp only [go_sem, ↓reduceIte, Nat.reduceEqDiff, Nat.reduceAdd, Nat.reduceMul, Nat.reduceLeDiff, Nat.reduceLT, Int.reduceEq, Int.toNat_natCast, t4, t5, t6, t7, t8, t9, hF.cells 0 rfl, hF.len 0 rfl]
    refine aCnd_b (!x64.2) rfl (fun h => ?_) (fun h => ?_)
    · rw [if_pos h] at H
      try simp only [go_sem, ↓reduceIte, Nat.reduceEqDiff, Nat.reduceAdd, Nat.reduceMul, Nat.reduceLeDiff, Nat.reduceLT, Int.reduceEq, Int.toNat_natCast, t4, t5, t6, t7, t8, t9, hF.cells 0 rfl, hF.len 0 rfl]
      exact hR _ (pur H).symm _ (fx_ret (vs := [z1v0, .int .i64 (-1)]) (by first | (simp only [go_sem, ↓reduceIte, Nat.reduceEqDiff, Nat.reduceAdd, Nat.reduceMul, Nat.reduceLeDiff, Nat.reduceLT, Int.reduceEq, Int.toNat_natCast, t4, t5, t6, t7, t8, t9, hF.cells 0 rfl, hF.len 0 rfl]; done) | rfl | (simp only [go_sem, ↓reduceIte, Nat.reduceEqDiff, Nat.reduceAdd, Nat.reduceMul, Nat.reduceLeDiff, Nat.reduceLT, Int.reduceEq, Int.toNat_natCast, t4, t5, t6, t7, t8, t9, hF.cells 0 rfl, hF.len 0 rfl]; rfl)) (Wk.tup hF.sub (.cons (hF.wk 0 rfl) (fun h => by first | exact h | rfl) (.cons (hF.wk0 _) (fun h => by first | exact h | rfl) .nil))))
    · rw [if_neg h] at H
      try simp only [go_sem, ↓reduceIte, Nat.reduceEqDiff, Nat.reduceAdd, Nat.reduceMul, Nat.reduceLeDiff, Nat.reduceLT, Int.reduceEq, Int.toNat_natCast, t4, t5, t6, t7, t8, t9, hF.cells 0 rfl, hF.len 0 rfl]
      obtain ⟨x73, hx73, H⟩ := bnd H
      refine fx_app hF 0 (g := cI) (xs := z1o_0) (ys := [x64.1]) rfl (by decide) (by decide) (RdL.of (c := true) (fun _ => rfl) (by first | rfl | simp only [rws_cons, rws_nil, cI, cU, cS, cL])) hx73 fun v12 σ13 hF => ?_
      try simp only [go_sem, ↓reduceIte, Nat.reduceEqDiff, Nat.reduceAdd, Nat.reduceMul, Nat.reduceLeDiff, Nat.reduceLT, Int.reduceEq, Int.toNat_natCast, t4, t5, t6, t7, t8, t9, hF.cells 0 rfl, hF.len 0 rfl]
      exact IH  x73 (IntKind.i64.wrap (z1t_9 + 1)) _ H _ rfl Q τ  hE hR _ _ v12 (by first | (simp only [go_sem, ↓reduceIte, Nat.reduceEqDiff, Nat.reduceAdd, Nat.reduceMul, Nat.reduceLeDiff, Nat.reduceLT, Int.reduceEq, Int.toNat_natCast, t4, t5, t6, t7, t8, t9, hF.cells 0 rfl, hF.len 0 rfl]; done) | rfl | (simp only [go_sem, ↓reduceIte, Nat.reduceEqDiff, Nat.reduceAdd, Nat.reduceMul, Nat.reduceLeDiff, Nat.reduceLT, Int.reduceEq, Int.toNat_natCast, t4, t5, t6, t7, t8, t9, hF.cells 0 rfl, hF.len 0 rfl]; rfl)) (by first | (simp only [go_sem, ↓reduceIte, Nat.reduceEqDiff, Nat.reduceAdd, Nat.reduceMul, Nat.reduceLeDiff, Nat.reduceLT, Int.reduceEq, Int.toNat_natCast, t4, t5, t6, t7, t8, t9, hF.cells 0 rfl, hF.len 0 rfl]; done) | rfl | (simp only [go_sem, ↓reduceIte, Nat.reduceEqDiff, Nat.reduceAdd, Nat.reduceMul, Nat.reduceLeDiff, Nat.reduceLT, Int.reduceEq, Int.toNat_natCast, t4, t5, t6, t7, t8, t9, hF.cells 0 rfl, hF.len 0 rfl]; rfl)) (by first | (simp only [go_sem, ↓reduceIte, Nat.reduceEqDiff, Nat.reduceAdd, Nat.reduceMul, Nat.reduceLeDiff, Nat.reduceLT, Int.reduceEq, Int.toNat_natCast, t4, t5, t6, t7, t8, t9, hF.cells 0 rfl, hF.len 0 rfl]; done) | rfl | (simp only [go_sem, ↓reduceIte, Nat.reduceEqDiff, Nat.reduceAdd, Nat.reduceMul, Nat.reduceLeDiff, Nat.reduceLT, Int.reduceEq, Int.toNat_natCast, t4, t5, t6, t7, t8, t9, hF.cells 0 rfl, hF.len 0 rfl]; rfl)) (by first | (simp only [go_sem, ↓reduceIte, Nat.reduceEqDiff, Nat.reduceAdd, Nat.reduceMul, Nat.reduceLeDiff, Nat.reduceLT, Int.reduceEq, Int.toNat_natCast, t4, t5, t6, t7, t8, t9, hF.cells 0 rfl, hF.len 0 rfl]; done) | rfl | (simp only [go_sem, ↓reduceIte, Nat.reduceEqDiff, Nat.reduceAdd, Nat.reduceMul, Nat.reduceLeDiff, Nat.reduceLT, Int.reduceEq, Int.toNat_natCast, t4, t5, t6, t7, t8, t9, hF.cells 0 rfl, hF.len 0 rfl]; rfl)) (by first | (simp only [go_sem, ↓reduceIte, Nat.reduceEqDiff, Nat.reduceAdd, Nat.reduceMul, Nat.reduceLeDiff, Nat.reduceLT, Int.reduceEq, Int.toNat_natCast, t4, t5, t6, t7, t8, t9, hF.cells 0 rfl, hF.len 0 rfl]; done) | rfl | (simp only [go_sem, ↓reduceIte, Nat.reduceEqDiff, Nat.reduceAdd, Nat.reduceMul, Nat.reduceLeDiff, Nat.reduceLT, Int.reduceEq, Int.toNat_natCast, t4, t5, t6, t7, t8, t9, hF.cells 0 rfl, hF.len 0 rfl]; rfl)) (by first | (simp only [go_sem, ↓reduceIte, Nat.reduceEqDiff, Nat.reduceAdd, Nat.reduceMul, Nat.reduceLeDiff, Nat.reduceLT, Int.reduceEq, Int.toNat_natCast, t4, t5, t6, t7, t8, t9, hF.cells 0 rfl, hF.len 0 rfl]; done) | rfl | (simp only [go_sem, ↓reduceIte, Nat.reduceEqDiff, Nat.reduceAdd, Nat.reduceMul, Nat.reduceLeDiff, Nat.reduceLT, Int.reduceEq, Int.toNat_natCast, t4, t5, t6, t7, t8, t9, hF.cells 0 rfl, hF.len 0 rfl]; rfl)) hF
  · rw [if_neg h] at H
    try simp only [go_sem, ↓reduceIte, Nat.reduceEqDiff, Nat.reduceAdd, Nat.reduceMul, Nat.reduceLeDiff, Nat.reduceLT, Int.reduceEq, Int.toNat_natCast, t4, t5, t6, t7, t8, t9, hF.cells 0 rfl, hF.len 0 rfl]
    exact hE _ (pur H).symm _ _ z1v0 (by first | (simp only [go_sem, ↓reduceIte, Nat.reduceEqDiff, Nat.reduceAdd, Nat.reduceMul, Nat.reduceLeDiff, Nat.reduceLT, Int.reduceEq, Int.toNat_natCast, t4, t5, t6, t7, t8, t9, hF.cells 0 rfl, hF.len 0 rfl]; done) | rfl | (simp only [go_sem, ↓reduceIte, Nat.reduceEqDiff, Nat.reduceAdd, Nat.reduceMul, Nat.reduceLeDiff, Nat.reduceLT, Int.reduceEq, Int.toNat_natCast, t4, t5, t6, t7, t8, t9, hF.cells 0 rfl, hF.len 0 rfl]; rfl)) (by first | (simp only [go_sem, ↓reduceIte, Nat.reduceEqDiff, Nat.reduceAdd, Nat.reduceMul, Nat.reduceLeDiff, Nat.reduceLT, Int.reduceEq, Int.toNat_natCast, t4, t5, t6, t7, t8, t9, hF.cells 0 rfl, hF.len 0 rfl]; done) | rfl | (simp only [go_sem, ↓reduceIte, Nat.reduceEqDiff, Nat.reduceAdd, Nat.reduceMul, Nat.reduceLeDiff, Nat.reduceLT, Int.reduceEq, Int.toNat_natCast, t4, t5, t6, t7, t8, t9, hF.cells 0 rfl, hF.len 0 rfl]; rfl)) (by first | (simp only [go_sem, ↓reduceIte, Nat.reduceEqDiff, Nat.reduceAdd, Nat.reduceMul, Nat.reduceLeDiff, Nat.reduceLT, Int.reduceEq, Int.toNat_natCast, t4, t5, t6, t7, t8, t9, hF.cells 0 rfl, hF.len 0 rfl]; done) | rfl | (simp only [go_sem, ↓reduceIte, Nat.reduceEqDiff, Nat.reduceAdd, Nat.reduceMul, Nat.reduceLeDiff, Nat.reduceLT, Int.reduceEq, Int.toNat_natCast, t4, t5, t6, t7, t8, t9, hF.cells 0 rfl, hF.len 0 rfl]; rfl)) (by first | (simp only [go_sem, ↓reduceIte, Nat.reduceEqDiff, Nat.reduceAdd, Nat.reduceMul, Nat.reduceLeDiff, Nat.reduceLT, Int.reduceEq, Int.toNat_natCast, t4, t5, t6, t7, t8, t9, hF.cells 0 rfl, hF.len 0 rfl]; done) | rfl | (simp only [go_sem, ↓reduceIte, Nat.reduceEqDiff, Nat.reduceAdd, Nat.reduceMul, Nat.reduceLeDiff, Nat.reduceLT, Int.reduceEq, Int.toNat_natCast, t4, t5, t6, t7, t8, t9, hF.cells 0 rfl, hF.len 0 rfl]; rfl)) hF
theorem spec_l1Sets_ok : ∀ (a0 : ByteArray) (a1 : Int) r, spec_l1Sets a0 a1 = some r → PCtr Try.prog 62 [.str a0, .int .i64 a1] (.tup [.sl false (rws cI r.1), .int .i64 r.2]) := by
  intro a0 a1 r H
  intro σ
  unfold spec_l1Sets at H
  refine ctr_of mixed Try.func62 rfl (by kernel_rfl) (rs := [.tmp 4, .tmp 5]) rfl (by kernel_rfl) ?_
  have hF := Fx.refl σ
  have hX := Tau.none σ
  try simp only [go_sem, ↓reduceIte, Nat.reduceEqDiff, Nat.reduceAdd, Nat.reduceMul, Nat.reduceLeDiff, Nat.reduceLT, Int.reduceEq, Int.toNat_natCast]
  obtain ⟨x22, g1, H⟩ := bnd H
  refine aGd_cutN 4 18 22 (.bool x22) (aGd_introN (fun q2 => ?_) (fun q2 => ?_)) (fun J => ?_)
  · rw [if_neg (of_decide_eq_false q2)] at g1
    obtain ⟨x20, hx20, g1⟩ := bnd g1
    try simp only [go_sem, ↓reduceIte, Nat.reduceEqDiff, Nat.reduceAdd, Nat.reduceMul, Nat.reduceLeDiff, Nat.reduceLT, Int.reduceEq, Int.toNat_natCast, q2, aindex_sidx hx20]
    refine cut_done 18 (by have e := pur g1; subst e; (first | rfl | (simp only [go_sem, ↓reduceIte, Nat.reduceEqDiff, Nat.reduceAdd, Nat.reduceMul, Nat.reduceLeDiff, Nat.reduceLT, Int.reduceEq, Int.toNat_natCast, q2]; done) | (simp only [go_sem, ↓reduceIte, Nat.reduceEqDiff, Nat.reduceAdd, Nat.reduceMul, Nat.reduceLeDiff, Nat.reduceLT, Int.reduceEq, Int.toNat_natCast, q2]; simp_all [upd_app]) | simp_all [upd_app])) ?_
    (repeat (first | refine agree_upd (by decide) ?_ | refine agree_low (by decide) ?_)) <;> (repeat (first | refine agree_updR (by decide) ?_ | refine agree_lowR (by decide) ?_)) <;> exact fun _ _ _ => rfl
  · rw [if_pos (of_decide_eq_true q2)] at g1
    try simp only [go_sem, ↓reduceIte, Nat.reduceEqDiff, Nat.reduceAdd, Nat.reduceMul, Nat.reduceLeDiff, Nat.reduceLT, Int.reduceEq, Int.toNat_natCast, q2]
    refine cut_done 18 (by have e := pur g1; subst e; (first | rfl | (simp only [go_sem, ↓reduceIte, Nat.reduceEqDiff, Nat.reduceAdd, Nat.reduceMul, Nat.reduceLeDiff, Nat.reduceLT, Int.reduceEq, Int.toNat_natCast, q2]; done) | (simp only [go_sem, ↓reduceIte, Nat.reduceEqDiff, Nat.reduceAdd, Nat.reduceMul, Nat.reduceLeDiff, Nat.reduceLT, Int.reduceEq, Int.toNat_natCast, q2]; simp_all [upd_app]) | simp_all [upd_app])) ?_
    (repeat (first | refine agree_upd (by decide) ?_ | refine agree_low (by decide) ?_)) <;> (repeat (first | refine agree_updR (by decide) ?_ | refine agree_lowR (by decide) ?_)) <;> exact fun _ _ _ => rfl
  try simp only [go_sem, ↓reduceIte, Nat.reduceEqDiff, Nat.reduceAdd, Nat.reduceMul, Nat.reduceLeDiff, Nat.reduceLT, Int.reduceEq, Int.toNat_natCast]
  refine aCnd_b x22 rfl (fun h => ?_) (fun h => ?_)
  · rw [if_pos h] at H
    try simp only [go_sem, ↓reduceIte, Nat.reduceEqDiff, Nat.reduceAdd, Nat.reduceMul, Nat.reduceLeDiff, Nat.reduceLT, Int.reduceEq, Int.toNat_natCast]
    have e := pur H; subst e
    exact fx_ret (vs := [.sl true (rws cI []), .int .i64 a1]) (by first | (simp only [go_sem, ↓reduceIte, Nat.reduceEqDiff, Nat.reduceAdd, Nat.reduceMul, Nat.reduceLeDiff, Nat.reduceLT, Int.reduceEq, Int.toNat_natCast]; done) | rfl | (simp only [go_sem, ↓reduceIte, Nat.reduceEqDiff, Nat.reduceAdd, Nat.reduceMul, Nat.reduceLeDiff, Nat.reduceLT, Int.reduceEq, Int.toNat_natCast]; rfl)) (Wk.tup hF.sub (.cons (Wk.val2 (.slT _) hF.sub) (fun h => by first | exact h | rfl) (.cons (hF.wk0 _) (fun h => by first | exact h | rfl) .nil)))
  · rw [if_neg h] at H
    try simp only [go_sem, ↓reduceIte, Nat.reduceEqDiff, Nat.reduceAdd, Nat.reduceMul, Nat.reduceLeDiff, Nat.reduceLT, Int.reduceEq, Int.toNat_natCast]
    obtain ⟨o5, ho5, H⟩ := bnd H
    refine spec_l1Sets_l0_ok a0 a1 a1 _ ho5 _ rfl _ _  ?_ ?_ _ _  (by first | (simp only [go_sem, ↓reduceIte, Nat.reduceEqDiff, Nat.reduceAdd, Nat.reduceMul, Nat.reduceLeDiff, Nat.reduceLT, Int.reduceEq, Int.toNat_natCast]; done) | rfl | (simp only [go_sem, ↓reduceIte, Nat.reduceEqDiff, Nat.reduceAdd, Nat.reduceMul, Nat.reduceLeDiff, Nat.reduceLT, Int.reduceEq, Int.toNat_natCast]; rfl)) (by first | (simp only [go_sem, ↓reduceIte, Nat.reduceEqDiff, Nat.reduceAdd, Nat.reduceMul, Nat.reduceLeDiff, Nat.reduceLT, Int.reduceEq, Int.toNat_natCast]; done) | rfl | (simp only [go_sem, ↓reduceIte, Nat.reduceEqDiff, Nat.reduceAdd, Nat.reduceMul, Nat.reduceLeDiff, Nat.reduceLT, Int.reduceEq, Int.toNat_natCast]; rfl)) (by first | (simp only [go_sem, ↓reduceIte, Nat.reduceEqDiff, Nat.reduceAdd, Nat.reduceMul, Nat.reduceLeDiff, Nat.reduceLT, Int.reduceEq, Int.toNat_natCast]; done) | rfl | (simp only [go_sem, ↓reduceIte, Nat.reduceEqDiff, Nat.reduceAdd, Nat.reduceMul, Nat.reduceLeDiff, Nat.reduceLT, Int.reduceEq, Int.toNat_natCast]; rfl)) (by first | (simp only [go_sem, ↓reduceIte, Nat.reduceEqDiff, Nat.reduceAdd, Nat.reduceMul, Nat.reduceLeDiff, Nat.reduceLT, Int.reduceEq, Int.toNat_natCast]; done) | rfl | (simp only [go_sem, ↓reduceIte, Nat.reduceEqDiff, Nat.reduceAdd, Nat.reduceMul, Nat.reduceLeDiff, Nat.reduceLT, Int.reduceEq, Int.toNat_natCast]; rfl)) (by first | (simp only [go_sem, ↓reduceIte, Nat.reduceEqDiff, Nat.reduceAdd, Nat.reduceMul, Nat.reduceLeDiff, Nat.reduceLT, Int.reduceEq, Int.toNat_natCast]; done) | rfl | (simp only [go_sem, ↓reduceIte, Nat.reduceEqDiff, Nat.reduceAdd, Nat.reduceMul, Nat.reduceLeDiff, Nat.reduceLT, Int.reduceEq, Int.toNat_natCast]; rfl)) (by first | (simp only [go_sem, ↓reduceIte, Nat.reduceEqDiff, Nat.reduceAdd, Nat.reduceMul, Nat.reduceLeDiff, Nat.reduceLT, Int.reduceEq, Int.toNat_natCast]; done) | rfl | (simp only [go_sem, ↓reduceIte, Nat.reduceEqDiff, Nat.reduceAdd, Nat.reduceMul, Nat.reduceLeDiff, Nat.reduceLT, Int.reduceEq, Int.toNat_natCast]; rfl)) hF
    · intro e6t_7 he T7 σ8 t0 t1 t4 t5 t6 t7 hF
      have he := he.symm
      subst he
      try simp only [go_sem, ↓reduceIte, Nat.reduceEqDiff, Nat.reduceAdd, Nat.reduceMul, Nat.reduceLeDiff, Nat.reduceLT, Int.reduceEq, Int.toNat_natCast, t0, t1, t4, t5, t6, t7]
      refine aCnd_p (e6t_7 = (a0.size : Int)) rfl (fun h => ?_) (fun h => ?_)
      · rw [if_pos h] at H
        try simp only [go_sem, ↓reduceIte, Nat.reduceEqDiff, Nat.reduceAdd, Nat.reduceMul, Nat.reduceLeDiff, Nat.reduceLT, Int.reduceEq, Int.toNat_natCast, t0, t1, t4, t5, t6, t7]
        have e := pur H; subst e
        exact fx_ret (vs := [.sl true (rws cI []), .int .i64 (-1)]) (by first | (simp only [go_sem, ↓reduceIte, Nat.reduceEqDiff, Nat.reduceAdd, Nat.reduceMul, Nat.reduceLeDiff, Nat.reduceLT, Int.reduceEq, Int.toNat_natCast, t0, t1, t4, t5, t6, t7]; done) | rfl | (simp only [go_sem, ↓reduceIte, Nat.reduceEqDiff, Nat.reduceAdd, Nat.reduceMul, Nat.reduceLeDiff, Nat.reduceLT, Int.reduceEq, Int.toNat_natCast, t0, t1, t4, t5, t6, t7]; rfl)) (Wk.tup hF.sub (.cons (Wk.val2 (.slT _) hF.sub) (fun h => by first | exact h | rfl) (.cons (hF.wk0 _) (fun h => by first | exact h | rfl) .nil)))
      · rw [if_neg h] at H
        obtain ⟨x47, hx47, H⟩ := bnd H
        try simp only [go_sem, ↓reduceIte, Nat.reduceEqDiff, Nat.reduceAdd, Nat.reduceMul, Nat.reduceLeDiff, Nat.reduceLT, Int.reduceEq, Int.toNat_natCast, t0, t1, t4, t5, t6, t7, aslice_ssub (lo := some (.int .i64 (IntKind.i64.wrap (a1 + 1)))) (hi := some (.int .i64 e6t_7)) rfl rfl hx47]
        obtain ⟨x48, hx48, H⟩ := bnd H
        refine aCall_pure (spec_l15Cut_ok x47 44 _ hx48) (WkVL.refl _) ?_
        have hF := hF.lit 3 1 (rws cI []) rfl
        try simp only [go_sem, ↓reduceIte, Nat.reduceEqDiff, Nat.reduceAdd, Nat.reduceMul, Nat.reduceLeDiff, Nat.reduceLT, Int.reduceEq, Int.toNat_natCast, t0, t1, t4, t5, t6, t7, hF.cells 0 rfl, hF.len 0 rfl]
        obtain ⟨o14, ho14, H⟩ := bnd H
        refine spec_l1Sets_l1_ok e6t_7 x48 [] 0 _ ho14 _ rfl _ _  ?_ ?_ _ _ (.sl true (rws cI [])) (by first | (simp only [go_sem, ↓reduceIte, Nat.reduceEqDiff, Nat.reduceAdd, Nat.reduceMul, Nat.reduceLeDiff, Nat.reduceLT, Int.reduceEq, Int.toNat_natCast, t0, t1, t4, t5, t6, t7, hF.cells 0 rfl, hF.len 0 rfl]; done) | rfl | (simp only [go_sem, ↓reduceIte, Nat.reduceEqDiff, Nat.reduceAdd, Nat.reduceMul, Nat.reduceLeDiff, Nat.reduceLT, Int.reduceEq, Int.toNat_natCast, t0, t1, t4, t5, t6, t7, hF.cells 0 rfl, hF.len 0 rfl]; rfl)) (by first | (simp only [go_sem, ↓reduceIte, Nat.reduceEqDiff, Nat.reduceAdd, Nat.reduceMul, Nat.reduceLeDiff, Nat.reduceLT, Int.reduceEq, Int.toNat_natCast, t0, t1, t4, t5, t6, t7, hF.cells 0 rfl, hF.len 0 rfl]; done) | rfl | (simp only [go_sem, ↓reduceIte, Nat.reduceEqDiff, Nat.reduceAdd, Nat.reduceMul, Nat.reduceLeDiff, Nat.reduceLT, Int.reduceEq, Int.toNat_natCast, t0, t1, t4, t5, t6, t7, hF.cells 0 rfl, hF.len 0 rfl]; rfl)) (by first | (simp only [go_sem, ↓reduceIte, Nat.reduceEqDiff, Nat.reduceAdd, Nat.reduceMul, Nat.reduceLeDiff, Nat.reduceLT, Int.reduceEq, Int.toNat_natCast, t0, t1, t4, t5, t6, t7, hF.cells 0 rfl, hF.len 0 rfl]; done) | rfl | (simp only [go_sem, ↓reduceIte, Nat.reduceEqDiff, Nat.reduceAdd, Nat.reduceMul, Nat.reduceLeDiff, Nat.reduceLT, Int.reduceEq, Int.toNat_natCast, t0, t1, t4, t5, t6, t7, hF.cells 0 rfl, hF.len 0 rfl]; rfl)) (by first | (simp only [go_sem, ↓reduceIte, Nat.reduceEqDiff, Nat.reduceAdd, Nat.reduceMul, Nat.reduceLeDiff, Nat.reduceLT, Int.reduceEq, Int.toNat_natCast, t0, t1, t4, t5, t6, t7, hF.cells 0 rfl, hF.len 0 rfl]; done) | rfl | (simp only [go_sem, ↓reduceIte, Nat.reduceEqDiff, Nat.reduceAdd, Nat.reduceMul, Nat.reduceLeDiff, Nat.reduceLT, Int.reduceEq, Int.toNat_natCast, t0, t1, t4, t5, t6, t7, hF.cells 0 rfl, hF.len 0 rfl]; rfl)) (by first | (simp only [go_sem, ↓reduceIte, Nat.reduceEqDiff, Nat.reduceAdd, Nat.reduceMul, Nat.reduceLeDiff, Nat.reduceLT, Int.reduceEq, Int.toNat_natCast, t0, t1, t4, t5, t6, t7, hF.cells 0 rfl, hF.len 0 rfl]; done) | rfl | (simp only [go_sem, ↓reduceIte, Nat.reduceEqDiff, Nat.reduceAdd, Nat.reduceMul, Nat.reduceLeDiff, Nat.reduceLT, Int.reduceEq, Int.toNat_natCast, t0, t1, t4, t5, t6, t7, hF.cells 0 rfl, hF.len 0 rfl]; rfl)) (by first | (simp only [go_sem, ↓reduceIte, Nat.reduceEqDiff, Nat.reduceAdd, Nat.reduceMul, Nat.reduceLeDiff, Nat.reduceLT, Int.reduceEq, Int.toNat_natCast, t0, t1, t4, t5, t6, t7, hF.cells 0 rfl, hF.len 0 rfl]; done) | rfl | (simp only [go_sem, ↓reduceIte, Nat.reduceEqDiff, Nat.reduceAdd, Nat.reduceMul, Nat.reduceLeDiff, Nat.reduceLT, Int.reduceEq, Int.toNat_natCast, t0, t1, t4, t5, t6, t7, hF.cells 0 rfl, hF.len 0 rfl]; rfl)) hF
        · intro e15o_0 he T16 σ17 e15v0 t4 t5 t6 t7 hF
          have he := he.symm
          subst he
          dsimp only at H
          try simp only [go_sem, ↓reduceIte, Nat.reduceEqDiff, Nat.reduceAdd, Nat.reduceMul, Nat.reduceLeDiff, Nat.reduceLT, Int.reduceEq, Int.toNat_natCast, t4, t5, t6, t7, hF.cells 0 rfl, hF.len 0 rfl]
          have e := pur H; subst e
          exact fx_ret (vs := [e15v0, .int .i64 (IntKind.i64.wrap (e6t_7 + 1))]) (by first | (simp only [go_sem, ↓reduceIte, Nat.reduceEqDiff, Nat.reduceAdd, Nat.reduceMul, Nat.reduceLeDiff, Nat.reduceLT, Int.reduceEq, Int.toNat_natCast, t4, t5, t6, t7, hF.cells 0 rfl, hF.len 0 rfl]; done) | rfl | (simp only [go_sem, ↓reduceIte, Nat.reduceEqDiff, Nat.reduceAdd, Nat.reduceMul, Nat.reduceLeDiff, Nat.reduceLT, Int.reduceEq, Int.toNat_natCast, t4, t5, t6, t7, hF.cells 0 rfl, hF.len 0 rfl]; rfl)) (Wk.tup hF.sub (.cons (hF.wk 0 rfl) (fun h => by first | exact h | rfl) (.cons (hF.wk0 _) (fun h => by first | exact h | rfl) .nil)))
        · intro r hr s' hs
          subst hr
          have e := pur H; subst e
          first | exact hs | (try simp only [Fm.cells_eq] at hs ⊢; exact hs)
    · trivial
theorem spec_l1Atom_ok : ∀ (a0 : ByteArray) (a1 : Int) r, spec_l1Atom a0 a1 = some r → PCtr Try.prog 59 [.str a0, .int .i64 a1] (.tup [.agg (Fm.cells r.1), .int .i64 r.2]) := by
  intro a0 a1 r H
  intro σ
  unfold spec_l1Atom at H
  refine ctr_of mixed Try.func59 rfl (by kernel_rfl) (rs := [.cell 4 26, .tmp 5]) rfl (by kernel_rfl) ?_
  have hF := Fx.refl σ
  have hX := Tau.none σ
  try simp only [go_sem, ↓reduceIte, Nat.reduceEqDiff, Nat.reduceAdd, Nat.reduceMul, Nat.reduceLeDiff, Nat.reduceLT, Int.reduceEq, Int.toNat_natCast]
  refine fx_alloc hF rfl fun b1 σ2 hF => ?_
  try simp only [go_sem, ↓reduceIte, Nat.reduceEqDiff, Nat.reduceAdd, Nat.reduceMul, Nat.reduceLeDiff, Nat.reduceLT, Int.reduceEq, Int.toNat_natCast, hF.at 0 rfl]
  obtain ⟨x14, hx14, H⟩ := bnd H
  refine aCall_pure (spec_l1Word_ok a0 a1 _ hx14) (WkVL.refl _) ?_
  obtain ⟨x18, hx18, H⟩ := bnd H
  try simp only [go_sem, ↓reduceIte, Nat.reduceEqDiff, Nat.reduceAdd, Nat.reduceMul, Nat.reduceLeDiff, Nat.reduceLT, Int.reduceEq, Int.toNat_natCast, hF.at 0 rfl, aslice_ssub (lo := some (.int .i64 a1)) (hi := some (.int .i64 x14)) rfl rfl hx18]
  obtain ⟨x21, hx21, H⟩ := bnd H
  refine aCall_pure (spec_l15Num_ok x18 _ hx21) (WkVL.refl _) ?_
  try simp only [go_sem, ↓reduceIte, Nat.reduceEqDiff, Nat.reduceAdd, Nat.reduceMul, Nat.reduceLeDiff, Nat.reduceLT, Int.reduceEq, Int.toNat_natCast, hF.at 0 rfl]
  refine aCnd_b x21.2 rfl (fun h => ?_) (fun h => ?_)
  · rw [if_pos h] at H
    try simp only [go_sem, ↓reduceIte, Nat.reduceEqDiff, Nat.reduceAdd, Nat.reduceMul, Nat.reduceLeDiff, Nat.reduceLT, Int.reduceEq, Int.toNat_natCast, hF.at 0 rfl]
    refine fx_store hF 0 (cells' := [.int .i64 2, .str (ByteArray.mk #[]), .int .i64 x21.1, .nilsl, .nilsl]) rfl rfl rfl (by simp only [List.length_cons, List.length_nil]; decide) (by first | rfl | simp [splice_eq]) fun σ3 hF => ?_
    try simp only [go_sem, ↓reduceIte, Nat.reduceEqDiff, Nat.reduceAdd, Nat.reduceMul, Nat.reduceLeDiff, Nat.reduceLT, Int.reduceEq, Int.toNat_natCast, hF.at 0 rfl]
    have e := pur H; subst e
    exact fx_ret (vs := [.agg [.int .i64 2, .str (ByteArray.mk #[]), .int .i64 x21.1, .nilsl, .nilsl], .int .i64 x14]) (by first | (simp only [go_sem, ↓reduceIte, Nat.reduceEqDiff, Nat.reduceAdd, Nat.reduceMul, Nat.reduceLeDiff, Nat.reduceLT, Int.reduceEq, Int.toNat_natCast, hF.at 0 rfl]; done) | rfl | (simp only [go_sem, ↓reduceIte, Nat.reduceEqDiff, Nat.reduceAdd, Nat.reduceMul, Nat.reduceLeDiff, Nat.reduceLT, Int.reduceEq, Int.toNat_natCast, hF.at 0 rfl]; rfl)) (Wk.tup hF.sub (.cons (by (try simp only [Fm.cells_eq]); exact Wk.agg hF.sub (.cons (hF.wk0 _) id (.cons (hF.wk0 _) id (.cons (hF.wk0 _) id (.cons (Wk.val2 .nilsl hF.sub) (fun _ => rfl) (.cons (Wk.val2 .nilsl hF.sub) (fun _ => rfl) .nil)))))) (fun h => by first | exact h | rfl) (.cons (hF.wk0 _) (fun h => by first | exact h | rfl) .nil)))
  · rw [if_neg h] at H
    try simp only [go_sem, ↓reduceIte, Nat.reduceEqDiff, Nat.reduceAdd, Nat.reduceMul, Nat.reduceLeDiff, Nat.reduceLT, Int.reduceEq, Int.toNat_natCast, hF.at 0 rfl]
    refine aCnd_p (x18 = (ByteArray.mk #[])) rfl (fun h => ?_) (fun h => ?_)
    · rw [if_pos h] at H
      try simp only [go_sem, ↓reduceIte, Nat.reduceEqDiff, Nat.reduceAdd, Nat.reduceMul, Nat.reduceLeDiff, Nat.reduceLT, Int.reduceEq, Int.toNat_natCast, hF.at 0 rfl]
      refine fx_store hF 0 (cells' := [.int .i64 0, .str (ByteArray.mk #[]), .int .i64 0, .nilsl, .nilsl]) rfl rfl rfl (by simp only [List.length_cons, List.length_nil]; decide) (by first | rfl | simp [splice_eq]) fun σ4 hF => ?_
      try simp only [go_sem, ↓reduceIte, Nat.reduceEqDiff, Nat.reduceAdd, Nat.reduceMul, Nat.reduceLeDiff, Nat.reduceLT, Int.reduceEq, Int.toNat_natCast, hF.at 0 rfl]
      have e := pur H; subst e
      exact fx_ret (vs := [.agg [.int .i64 0, .str (ByteArray.mk #[]), .int .i64 0, .nilsl, .nilsl], .int .i64 (-1)]) (by first | (simp only [go_sem, ↓reduceIte, Nat.reduceEqDiff, Nat.reduceAdd, Nat.reduceMul, Nat.reduceLeDiff, Nat.reduceLT, Int.reduceEq, Int.toNat_natCast, hF.at 0 rfl]; done) | rfl | (simp only [go_sem, ↓reduceIte, Nat.reduceEqDiff, Nat.reduceAdd, Nat.reduceMul, Nat.reduceLeDiff, Nat.reduceLT, Int.reduceEq, Int.toNat_natCast, hF.at 0 rfl]; rfl)) (Wk.tup hF.sub (.cons (by (try simp only [Fm.cells_eq]); exact Wk.agg hF.sub (.cons (hF.wk0 _) id (.cons (hF.wk0 _) id (.cons (hF.wk0 _) id (.cons (Wk.val2 .nilsl hF.sub) (fun _ => rfl) (.cons (Wk.val2 .nilsl hF.sub) (fun _ => rfl) .nil)))))) (fun h => by first | exact h | rfl) (.cons (hF.wk0 _) (fun h => by first | exact h | rfl) .nil)))
    · rw [if_neg h] at H
      try simp only [go_sem, ↓reduceIte, Nat.reduceEqDiff, Nat.reduceAdd, Nat.reduceMul, Nat.reduceLeDiff, Nat.reduceLT, Int.reduceEq, Int.toNat_natCast, hF.at 0 rfl]
      obtain ⟨x34, hx34, H⟩ := bnd H
      refine aCall_pure (spec_l1Sets_ok a0 x14 _ hx34) (WkVL.refl _) ?_
      try simp only [go_sem, ↓reduceIte, Nat.reduceEqDiff, Nat.reduceAdd, Nat.reduceMul, Nat.reduceLeDiff, Nat.reduceLT, Int.reduceEq, Int.toNat_natCast, hF.at 0 rfl]
      refine fx_store hF 0 (cells' := [.int .i64 1, .str x18, .int .i64 0, .sl false (rws cI x34.1), .nilsl]) rfl rfl rfl (by simp only [List.length_cons, List.length_nil]; decide) (by first | rfl | simp [splice_eq]) fun σ5 hF => ?_
      try simp only [go_sem, ↓reduceIte, Nat.reduceEqDiff, Nat.reduceAdd, Nat.reduceMul, Nat.reduceLeDiff, Nat.reduceLT, Int.reduceEq, Int.toNat_natCast, hF.at 0 rfl]
      have e := pur H; subst e
      exact fx_ret (vs := [.agg [.int .i64 1, .str x18, .int .i64 0, .sl false (rws cI x34.1), .nilsl], .int .i64 x34.2]) (by first | (simp only [go_sem, ↓reduceIte, Nat.reduceEqDiff, Nat.reduceAdd, Nat.reduceMul, Nat.reduceLeDiff, Nat.reduceLT, Int.reduceEq, Int.toNat_natCast, hF.at 0 rfl]; done) | rfl | (simp only [go_sem, ↓reduceIte, Nat.reduceEqDiff, Nat.reduceAdd, Nat.reduceMul, Nat.reduceLeDiff, Nat.reduceLT, Int.reduceEq, Int.toNat_natCast, hF.at 0 rfl]; rfl)) (Wk.tup hF.sub (.cons (by (try simp only [Fm.cells_eq]); exact Wk.agg hF.sub (.cons (hF.wk0 _) id (.cons (hF.wk0 _) id (.cons (hF.wk0 _) id (.cons (hF.wk0 _) id (.cons (Wk.val2 .nilsl hF.sub) (fun _ => rfl) .nil)))))) (fun h => by first | exact h | rfl) (.cons (hF.wk0 _) (fun h => by first | exact h | rfl) .nil)))
theorem spec_l1Read_ok : ∀ (a0 : ByteArray) (a1 : Int) (a2 : Int) r, spec_l1Read a0 a1 a2 = some r → PCtr Try.prog 56 [.str a0, .int .i64 a1, .int .i64 a2] (.tup [.agg (Fm.cells r.1), .int .i64 r.2]) := by
  intro a0 a1 a2
  revert a1 a2
  refine spec_l1Read.partial_correctness a0 (motive_1 := fun a1 a2 r => PCtr Try.prog 56 [.str a0, .int .i64 a1, .int .i64 a2] (.tup [.agg (Fm.cells r.1), .int .i64 r.2])) (motive_2 := fun a2 z0o_0 z0t_1 out => ∀ c, loopAt Try.f56 0 = some c → ∀ (Q : AX → AS → Prop) (τ : Sto) (b1 : Nat) (b7 : Nat), (∀ (e0o_0 : List Fm) (e0t_1 : Int), out = Sum.inr (e0o_0, e0t_1) → ∀ (T : Nat → AV) (σ : Sto) (e0v0 : AV), T 0 = .str a0 → T 1 = .int .i64 e0t_1 → T 6 = .ptr b1 0 → T 7 = .int .i64 0 → T 8 = .ptr b7 0 → Fx τ σ [(b7, ⟨26, 5, [.int .i64 3, .str (ByteArray.mk #[]), .int .i64 0, .nilsl, e0v0]⟩), (b1, ⟨26, 5, [.int .i64 0, .str (ByteArray.mk #[]), .int .i64 0, .nilsl, .nilsl]⟩)] [⟨e0v0, 26, 5, rws Fm.cells e0o_0⟩] → Q (.ex 0) ⟨T, σ⟩) → (∀ r, out = Sum.inl r → ∀ s', aRet Try.prog [.cell 6 26, .tmp 7] (fun r' σ' => r' = .tup [.agg (Fm.cells r.1), .int .i64 r.2] ∧ σ' = τ) s' → Q .ret s') → ∀ (T : Nat → AV) (σ : Sto) (z0v0 : AV), T 0 = .str a0 → T 1 = .int .i64 z0t_1 → T 2 = .int .i64 a2 → T 6 = .ptr b1 0 → T 7 = .int .i64 0 → T 8 = .ptr b7 0 → Fx τ σ [(b7, ⟨26, 5, [.int .i64 3, .str (ByteArray.mk #[]), .int .i64 0, .nilsl, z0v0]⟩), (b1, ⟨26, 5, [.int .i64 0, .str (ByteArray.mk #[]), .int .i64 0, .nilsl, .nilsl]⟩)] [⟨z0v0, 26, 5, rws Fm.cells z0o_0⟩] → aLoop (acode Try.prog c) Q ⟨T, σ⟩) ?_ ?_
  · intro spec_l1Read_l0 L0 a1 a2 r H
    intro σ
    refine ctr_of mixed Try.func56 rfl (by kernel_rfl) (rs := [.cell 6 26, .tmp 7]) rfl (by kernel_rfl) ?_
    have hF := Fx.refl σ
    have hX := Tau.none σ
    try simp only [go_sem, ↓reduceIte, Nat.reduceEqDiff, Nat.reduceAdd, Nat.reduceMul, Nat.reduceLeDiff, Nat.reduceLT, Int.reduceEq, Int.toNat_natCast]
    refine fx_alloc hF rfl fun b1 σ2 hF => ?_
    try simp only [go_sem, ↓reduceIte, Nat.reduceEqDiff, Nat.reduceAdd, Nat.reduceMul, Nat.reduceLeDiff, Nat.reduceLT, Int.reduceEq, Int.toNat_natCast, hF.at 0 rfl]
    obtain ⟨x13, hx13, H⟩ := bnd H
    refine aCall_pure (spec_l1Skip_ok a0 a1 _ hx13) (WkVL.refl _) ?_
    try simp only [go_sem, ↓reduceIte, Nat.reduceEqDiff, Nat.reduceAdd, Nat.reduceMul, Nat.reduceLeDiff, Nat.reduceLT, Int.reduceEq, Int.toNat_natCast, hF.at 0 rfl]
    obtain ⟨x21, g3, H⟩ := bnd H
    refine aGd_cutN 2 19 21 (.bool x21) (aGd_introN (fun q4 => ?_) (fun q4 => ?_)) (fun J => ?_)
    · try simp only [go_sem, ↓reduceIte, Nat.reduceEqDiff, Nat.reduceAdd, Nat.reduceMul, Nat.reduceLeDiff, Nat.reduceLT, Int.reduceEq, Int.toNat_natCast, q4, hF.at 0 rfl]
      refine cut_done 19 (by have e := pur g3; subst e; (first | rfl | (simp only [go_sem, ↓reduceIte, Nat.reduceEqDiff, Nat.reduceAdd, Nat.reduceMul, Nat.reduceLeDiff, Nat.reduceLT, Int.reduceEq, Int.toNat_natCast, q4]; done) | (simp only [go_sem, ↓reduceIte, Nat.reduceEqDiff, Nat.reduceAdd, Nat.reduceMul, Nat.reduceLeDiff, Nat.reduceLT, Int.reduceEq, Int.toNat_natCast, q4]; simp_all [upd_app]) | simp_all [upd_app])) ?_
      (repeat (first | refine agree_upd (by decide) ?_ | refine agree_low (by decide) ?_)) <;> (repeat (first | refine agree_updR (by decide) ?_ | refine agree_lowR (by decide) ?_)) <;> exact fun _ _ _ => rfl
    · try simp only [go_sem, ↓reduceIte, Nat.reduceEqDiff, Nat.reduceAdd, Nat.reduceMul, Nat.reduceLeDiff, Nat.reduceLT, Int.reduceEq, Int.toNat_natCast, q4, hF.at 0 rfl]
      refine cut_done 19 (by have e := pur g3; subst e; (first | rfl | (simp only [go_sem, ↓reduceIte, Nat.reduceEqDiff, Nat.reduceAdd, Nat.reduceMul, Nat.reduceLeDiff, Nat.reduceLT, Int.reduceEq, Int.toNat_natCast, q4]; done) | (simp only [go_sem, ↓reduceIte, Nat.reduceEqDiff, Nat.reduceAdd, Nat.reduceMul, Nat.reduceLeDiff, Nat.reduceLT, Int.reduceEq, Int.toNat_natCast, q4]; simp_all [upd_app]) | simp_all [upd_app])) ?_
      (repeat (first | refine agree_upd (by decide) ?_ | refine agree_low (by decide) ?_)) <;> (repeat (first | refine agree_updR (by decide) ?_ | refine agree_lowR (by decide) ?_)) <;> exact fun _ _ _ => rfl
    try simp only [go_sem, ↓reduceIte, Nat.reduceEqDiff, Nat.reduceAdd, Nat.reduceMul, Nat.reduceLeDiff, Nat.reduceLT, Int.reduceEq, Int.toNat_natCast, hF.at 0 rfl]
    refine aCnd_b x21 rfl (fun h => ?_) (fun h => ?_)
    · rw [if_pos h] at H
      try simp only [go_sem, ↓reduceIte, Nat.reduceEqDiff, Nat.reduceAdd, Nat.reduceMul, Nat.reduceLeDiff, Nat.reduceLT, Int.reduceEq, Int.toNat_natCast, hF.at 0 rfl]
      refine fx_store hF 0 (cells' := [.int .i64 0, .str (ByteArray.mk #[]), .int .i64 0, .nilsl, .nilsl]) rfl rfl rfl (by simp only [List.length_cons, List.length_nil]; decide) (by first | rfl | simp [splice_eq]) fun σ5 hF => ?_
      try simp only [go_sem, ↓reduceIte, Nat.reduceEqDiff, Nat.reduceAdd, Nat.reduceMul, Nat.reduceLeDiff, Nat.reduceLT, Int.reduceEq, Int.toNat_natCast, hF.at 0 rfl]
      have e := pur H; subst e
      exact fx_ret (vs := [.agg [.int .i64 0, .str (ByteArray.mk #[]), .int .i64 0, .nilsl, .nilsl], .int .i64 (-1)]) (by first | (simp only [go_sem, ↓reduceIte, Nat.reduceEqDiff, Nat.reduceAdd, Nat.reduceMul, Nat.reduceLeDiff, Nat.reduceLT, Int.reduceEq, Int.toNat_natCast, hF.at 0 rfl]; done) | rfl | (simp only [go_sem, ↓reduceIte, Nat.reduceEqDiff, Nat.reduceAdd, Nat.reduceMul, Nat.reduceLeDiff, Nat.reduceLT, Int.reduceEq, Int.toNat_natCast, hF.at 0 rfl]; rfl)) (Wk.tup hF.sub (.cons (by (try simp only [Fm.cells_eq]); exact Wk.agg hF.sub (.cons (hF.wk0 _) id (.cons (hF.wk0 _) id (.cons (hF.wk0 _) id (.cons (Wk.val2 .nilsl hF.sub) (fun _ => rfl) (.cons (Wk.val2 .nilsl hF.sub) (fun _ => rfl) .nil)))))) (fun h => by first | exact h | rfl) (.cons (hF.wk0 _) (fun h => by first | exact h | rfl) .nil)))
    · rw [if_neg h] at H
      obtain ⟨x25, hx25, H⟩ := bnd H
      try simp only [go_sem, ↓reduceIte, Nat.reduceEqDiff, Nat.reduceAdd, Nat.reduceMul, Nat.reduceLeDiff, Nat.reduceLT, Int.reduceEq, Int.toNat_natCast, hF.at 0 rfl, aindex_sidx hx25]
      refine aCnd_n (x25 = 40) rfl (fun h => ?_) (fun h => ?_)
      · rw [if_neg h] at H
        try simp only [go_sem, ↓reduceIte, Nat.reduceEqDiff, Nat.reduceAdd, Nat.reduceMul, Nat.reduceLeDiff, Nat.reduceLT, Int.reduceEq, Int.toNat_natCast, hF.at 0 rfl]
        obtain ⟨x29, hx29, H⟩ := bnd H
        refine aCall_pure (spec_l1Atom_ok a0 x13 _ hx29) (WkVL.refl _) ?_
        try simp only [go_sem, ↓reduceIte, Nat.reduceEqDiff, Nat.reduceAdd, Nat.reduceMul, Nat.reduceLeDiff, Nat.reduceLT, Int.reduceEq, Int.toNat_natCast, hF.at 0 rfl]
        refine fx_store hF 0 (cells' := [.int .i64 x29.1.kind, .str x29.1.name, .int .i64 x29.1.num, .sl false (rws cI x29.1.sc), .sl false (rws Fm.cells x29.1.kids)]) rfl rfl rfl (by simp only [List.length_cons, List.length_nil]; decide) (by first | rfl | simp [splice_eq]) fun σ6 hF => ?_
        try simp only [go_sem, ↓reduceIte, Nat.reduceEqDiff, Nat.reduceAdd, Nat.reduceMul, Nat.reduceLeDiff, Nat.reduceLT, Int.reduceEq, Int.toNat_natCast, hF.at 0 rfl]
        have e := pur H; subst e
        exact fx_ret (vs := [.agg [.int .i64 x29.1.kind, .str x29.1.name, .int .i64 x29.1.num, .sl false (rws cI x29.1.sc), .sl false (rws Fm.cells x29.1.kids)], .int .i64 x29.2]) (by first | (simp only [go_sem, ↓reduceIte, Nat.reduceEqDiff, Nat.reduceAdd, Nat.reduceMul, Nat.reduceLeDiff, Nat.reduceLT, Int.reduceEq, Int.toNat_natCast, hF.at 0 rfl]; done) | rfl | (simp only [go_sem, ↓reduceIte, Nat.reduceEqDiff, Nat.reduceAdd, Nat.reduceMul, Nat.reduceLeDiff, Nat.reduceLT, Int.reduceEq, Int.toNat_natCast, hF.at 0 rfl]; rfl)) (Wk.tup hF.sub (.cons (by (try simp only [Fm.cells_eq]); exact Wk.agg hF.sub (.cons (hF.wk0 _) id (.cons (hF.wk0 _) id (.cons (hF.wk0 _) id (.cons (hF.wk0 _) id (.cons (hF.wk0 _) id .nil)))))) (fun h => by first | exact h | rfl) (.cons (hF.wk0 _) (fun h => by first | exact h | rfl) .nil)))
      · rw [if_pos h] at H
        try simp only [go_sem, ↓reduceIte, Nat.reduceEqDiff, Nat.reduceAdd, Nat.reduceMul, Nat.reduceLeDiff, Nat.reduceLT, Int.reduceEq, Int.toNat_natCast, hF.at 0 rfl]
        refine fx_alloc hF rfl fun b7 σ8 hF => ?_
        try simp only [go_sem, ↓reduceIte, Nat.reduceEqDiff, Nat.reduceAdd, Nat.reduceMul, Nat.reduceLeDiff, Nat.reduceLT, Int.reduceEq, Int.toNat_natCast, hF.at 0 rfl, hF.at 1 rfl]
        refine fx_store hF 0 (cells' := [.int .i64 3, .str (ByteArray.mk #[]), .int .i64 0, .nilsl, .nilsl]) rfl rfl rfl (by simp only [List.length_cons, List.length_nil]; decide) (by first | rfl | simp [splice_eq]) fun σ9 hF => ?_
        try simp only [go_sem, ↓reduceIte, Nat.reduceEqDiff, Nat.reduceAdd, Nat.reduceMul, Nat.reduceLeDiff, Nat.reduceLT, Int.reduceEq, Int.toNat_natCast, hF.at 0 rfl, hF.at 1 rfl]
        obtain ⟨x36, hx36, H⟩ := bnd H
        refine aCall_pure (spec_l1Skip_ok a0 (IntKind.i64.wrap (x13 + 1)) _ hx36) (WkVL.refl _) ?_
        have hF := hF.nil 26 5
        try simp only [go_sem, ↓reduceIte, Nat.reduceEqDiff, Nat.reduceAdd, Nat.reduceMul, Nat.reduceLeDiff, Nat.reduceLT, Int.reduceEq, Int.toNat_natCast, hF.at 0 rfl, hF.at 1 rfl, hF.cells 0 rfl, hF.len 0 rfl]
        obtain ⟨o21, ho21, H⟩ := bnd H
        refine L0 a2 [] x36 _ ho21 _ rfl _ _ b1 b7 ?_ ?_ _ _ .nilsl (by first | (simp only [go_sem, ↓reduceIte, Nat.reduceEqDiff, Nat.reduceAdd, Nat.reduceMul, Nat.reduceLeDiff, Nat.reduceLT, Int.reduceEq, Int.toNat_natCast, hF.at 0 rfl, hF.at 1 rfl, hF.cells 0 rfl, hF.len 0 rfl]; done) | rfl | (simp only [go_sem, ↓reduceIte, Nat.reduceEqDiff, Nat.reduceAdd, Nat.reduceMul, Nat.reduceLeDiff, Nat.reduceLT, Int.reduceEq, Int.toNat_natCast, hF.at 0 rfl, hF.at 1 rfl, hF.cells 0 rfl, hF.len 0 rfl]; rfl)) (by first | (simp only [go_sem, ↓reduceIte, Nat.reduceEqDiff, Nat.reduceAdd, Nat.reduceMul, Nat.reduceLeDiff, Nat.reduceLT, Int.reduceEq, Int.toNat_natCast, hF.at 0 rfl, hF.at 1 rfl, hF.cells 0 rfl, hF.len 0 rfl]; done) | rfl | (simp only [go_sem, ↓reduceIte, Nat.reduceEqDiff, Nat.reduceAdd, Nat.reduceMul, Nat.reduceLeDiff, Nat.reduceLT, Int.reduceEq, Int.toNat_natCast, hF.at 0 rfl, hF.at 1 rfl, hF.cells 0 rfl, hF.len 0 rfl]; rfl)) (by first | (simp only [go_sem, ↓reduceIte, Nat.reduceEqDiff, Nat.reduceAdd, Nat.reduceMul, Nat.reduceLeDiff, Nat.reduceLT, Int.reduceEq, Int.toNat_natCast, hF.at 0 rfl, hF.at 1 rfl, hF.cells 0 rfl, hF.len 0 rfl]; done) | rfl | (simp only [go_sem, ↓reduceIte, Nat.reduceEqDiff, Nat.reduceAdd, Nat.reduceMul, Nat.reduceLeDiff, Nat.reduceLT, Int.reduceEq, Int.toNat_natCast, hF.at 0 rfl, hF.at 1 rfl, hF.cells 0 rfl, hF.len 0 rfl]; rfl)) (by first | (simp only [go_sem, ↓reduceIte, Nat.reduceEqDiff, Nat.reduceAdd, Nat.reduceMul, Nat.reduceLeDiff, Nat.reduceLT, Int.reduceEq, Int.toNat_natCast, hF.at 0 rfl, hF.at 1 rfl, hF.cells 0 rfl, hF.len 0 rfl]; done) | rfl | (simp only [go_sem, ↓reduceIte, Nat.reduceEqDiff, Nat.reduceAdd, Nat.reduceMul, Nat.reduceLeDiff, Nat.reduceLT, Int.reduceEq, Int.toNat_natCast, hF.at 0 rfl, hF.at 1 rfl, hF.cells 0 rfl, hF.len 0 rfl]; rfl)) (by first | (simp only [go_sem, ↓reduceIte, Nat.reduceEqDiff, Nat.reduceAdd, Nat.reduceMul, Nat.reduceLeDiff, Nat.reduceLT, Int.reduceEq, Int.toNat_natCast, hF.at 0 rfl, hF.at 1 rfl, hF.cells 0 rfl, hF.len 0 rfl]; done) | rfl | (simp only [go_sem, ↓reduceIte, Nat.reduceEqDiff, Nat.reduceAdd, Nat.reduceMul, Nat.reduceLeDiff, Nat.reduceLT, Int.reduceEq, Int.toNat_natCast, hF.at 0 rfl, hF.at 1 rfl, hF.cells 0 rfl, hF.len 0 rfl]; rfl)) (by first | (simp only [go_sem, ↓reduceIte, Nat.reduceEqDiff, Nat.reduceAdd, Nat.reduceMul, Nat.reduceLeDiff, Nat.reduceLT, Int.reduceEq, Int.toNat_natCast, hF.at 0 rfl, hF.at 1 rfl, hF.cells 0 rfl, hF.len 0 rfl]; done) | rfl | (simp only [go_sem, ↓reduceIte, Nat.reduceEqDiff, Nat.reduceAdd, Nat.reduceMul, Nat.reduceLeDiff, Nat.reduceLT, Int.reduceEq, Int.toNat_natCast, hF.at 0 rfl, hF.at 1 rfl, hF.cells 0 rfl, hF.len 0 rfl]; rfl)) hF
        · intro e22o_0 e22t_1 he T23 σ24 e22v0 t0 t1 t6 t7 t8 hF
          have he := he.symm
          subst he
          dsimp only at H
          try simp only [go_sem, ↓reduceIte, Nat.reduceEqDiff, Nat.reduceAdd, Nat.reduceMul, Nat.reduceLeDiff, Nat.reduceLT, Int.reduceEq, Int.toNat_natCast, t0, t1, t6, t7, t8, hF.at 0 rfl, hF.at 1 rfl, hF.cells 0 rfl, hF.len 0 rfl]
          obtain ⟨x82, g26, H⟩ := bnd H
          refine aGd_cutN 4 78 82 (.bool x82) (aGd_introN (fun q27 => ?_) (fun q27 => ?_)) (fun J => ?_)
          · rw [if_neg (of_decide_eq_false q27)] at g26
            obtain ⟨x80, hx80, g26⟩ := bnd g26
            try simp only [go_sem, ↓reduceIte, Nat.reduceEqDiff, Nat.reduceAdd, Nat.reduceMul, Nat.reduceLeDiff, Nat.reduceLT, Int.reduceEq, Int.toNat_natCast, t0, t1, t6, t7, t8, q27, hF.at 0 rfl, hF.at 1 rfl, hF.cells 0 rfl, hF.len 0 rfl, aindex_sidx hx80]
            refine cut_done 78 (by have e := pur g26; subst e; (first | rfl | (simp only [go_sem, ↓reduceIte, Nat.reduceEqDiff, Nat.reduceAdd, Nat.reduceMul, Nat.reduceLeDiff, Nat.reduceLT, Int.reduceEq, Int.toNat_natCast, q27]; done) | (simp only [go_sem, ↓reduceIte, Nat.reduceEqDiff, Nat.reduceAdd, Nat.reduceMul, Nat.reduceLeDiff, Nat.reduceLT, Int.reduceEq, Int.toNat_natCast, q27]; simp_all [upd_app]) | simp_all [upd_app])) ?_
            (repeat (first | refine agree_upd (by decide) ?_ | refine agree_low (by decide) ?_)) <;> (repeat (first | refine agree_updR (by decide) ?_ | refine agree_lowR (by decide) ?_)) <;> exact fun _ _ _ => rfl
          · rw [if_pos (of_decide_eq_true q27)] at g26
            try simp only [go_sem, ↓reduceIte, Nat.reduceEqDiff, Nat.reduceAdd, Nat.reduceMul, Nat.reduceLeDiff, Nat.reduceLT, Int.reduceEq, Int.toNat_natCast, t0, t1, t6, t7, t8, q27, hF.at 0 rfl, hF.at 1 rfl, hF.cells 0 rfl, hF.len 0 rfl]
            refine cut_done 78 (by have e := pur g26; subst e; (first | rfl | (simp only [go_sem, ↓reduceIte, Nat.reduceEqDiff, Nat.reduceAdd, Nat.reduceMul, Nat.reduceLeDiff, Nat.reduceLT, Int.reduceEq, Int.toNat_natCast, q27]; done) | (simp only [go_sem, ↓reduceIte, Nat.reduceEqDiff, Nat.reduceAdd, Nat.reduceMul, Nat.reduceLeDiff, Nat.reduceLT, Int.reduceEq, Int.toNat_natCast, q27]; simp_all [upd_app]) | simp_all [upd_app])) ?_
            (repeat (first | refine agree_upd (by decide) ?_ | refine agree_low (by decide) ?_)) <;> (repeat (first | refine agree_updR (by decide) ?_ | refine agree_lowR (by decide) ?_)) <;> exact fun _ _ _ => rfl
          try simp only [go_sem, ↓reduceIte, Nat.reduceEqDiff, Nat.reduceAdd, Nat.reduceMul, Nat.reduceLeDiff, Nat.reduceLT, Int.reduceEq, Int.toNat_natCast, t0, t1, t6, t7, t8, hF.at 0 rfl, hF.at 1 rfl, hF.cells 0 rfl, hF.len 0 rfl]
          refine aCnd_b x82 rfl (fun h => ?_) (fun h => ?_)
          · rw [if_pos h] at H
            try simp only [go_sem, ↓reduceIte, Nat.reduceEqDiff, Nat.reduceAdd, Nat.reduceMul, Nat.reduceLeDiff, Nat.reduceLT, Int.reduceEq, Int.toNat_natCast, t0, t1, t6, t7, t8, hF.at 0 rfl, hF.at 1 rfl, hF.cells 0 rfl, hF.len 0 rfl]
            refine fx_store hF 1 (cells' := [.int .i64 3, .str (ByteArray.mk #[]), .int .i64 0, .nilsl, e22v0]) rfl rfl rfl (by simp only [List.length_cons, List.length_nil]; decide) (by first | rfl | simp [splice_eq]) fun σ28 hF => ?_
            try simp only [go_sem, ↓reduceIte, Nat.reduceEqDiff, Nat.reduceAdd, Nat.reduceMul, Nat.reduceLeDiff, Nat.reduceLT, Int.reduceEq, Int.toNat_natCast, t0, t1, t6, t7, t8, hF.at 0 rfl, hF.at 1 rfl, hF.cells 0 rfl, hF.len 0 rfl]
            have e := pur H; subst e
            exact fx_ret (vs := [.agg [.int .i64 3, .str (ByteArray.mk #[]), .int .i64 0, .nilsl, e22v0], .int .i64 (-1)]) (by first | (simp only [go_sem, ↓reduceIte, Nat.reduceEqDiff, Nat.reduceAdd, Nat.reduceMul, Nat.reduceLeDiff, Nat.reduceLT, Int.reduceEq, Int.toNat_natCast, t0, t1, t6, t7, t8, hF.at 0 rfl, hF.at 1 rfl, hF.cells 0 rfl, hF.len 0 rfl]; done) | rfl | (simp only [go_sem, ↓reduceIte, Nat.reduceEqDiff, Nat.reduceAdd, Nat.reduceMul, Nat.reduceLeDiff, Nat.reduceLT, Int.reduceEq, Int.toNat_natCast, t0, t1, t6, t7, t8, hF.at 0 rfl, hF.at 1 rfl, hF.cells 0 rfl, hF.len 0 rfl]; rfl)) (Wk.tup hF.sub (.cons (by (try simp only [Fm.cells_eq]); exact Wk.agg hF.sub (.cons (hF.wk0 _) id (.cons (hF.wk0 _) id (.cons (hF.wk0 _) id (.cons (Wk.val2 .nilsl hF.sub) (fun _ => rfl) (.cons (hF.wk 0 rfl) (fun _ => rfl) .nil)))))) (fun h => by first | exact h | rfl) (.cons (hF.wk0 _) (fun h => by first | exact h | rfl) .nil)))
          · rw [if_neg h] at H
            try simp only [go_sem, ↓reduceIte, Nat.reduceEqDiff, Nat.reduceAdd, Nat.reduceMul, Nat.reduceLeDiff, Nat.reduceLT, Int.reduceEq, Int.toNat_natCast, t0, t1, t6, t7, t8, hF.at 0 rfl, hF.at 1 rfl, hF.cells 0 rfl, hF.len 0 rfl]
            refine fx_store hF 1 (cells' := [.int .i64 3, .str (ByteArray.mk #[]), .int .i64 0, .nilsl, e22v0]) rfl rfl rfl (by simp only [List.length_cons, List.length_nil]; decide) (by first | rfl | simp [splice_eq]) fun σ29 hF => ?_
            try simp only [go_sem, ↓reduceIte, Nat.reduceEqDiff, Nat.reduceAdd, Nat.reduceMul, Nat.reduceLeDiff, Nat.reduceLT, Int.reduceEq, Int.toNat_natCast, t0, t1, t6, t7, t8, hF.at 0 rfl, hF.at 1 rfl, hF.cells 0 rfl, hF.len 0 rfl]
            have e := pur H; subst e
            exact fx_ret (vs := [.agg [.int .i64 3, .str (ByteArray.mk #[]), .int .i64 0, .nilsl, e22v0], .int .i64 (IntKind.i64.wrap (e22t_1 + 1))]) (by first | (simp only [go_sem, ↓reduceIte, Nat.reduceEqDiff, Nat.reduceAdd, Nat.reduceMul, Nat.reduceLeDiff, Nat.reduceLT, Int.reduceEq, Int.toNat_natCast, t0, t1, t6, t7, t8, hF.at 0 rfl, hF.at 1 rfl, hF.cells 0 rfl, hF.len 0 rfl]; done) | rfl | (simp only [go_sem, ↓reduceIte, Nat.reduceEqDiff, Nat.reduceAdd, Nat.reduceMul, Nat.reduceLeDiff, Nat.reduceLT, Int.reduceEq, Int.toNat_natCast, t0, t1, t6, t7, t8, hF.at 0 rfl, hF.at 1 rfl, hF.cells 0 rfl, hF.len 0 rfl]; rfl)) (Wk.tup hF.sub (.cons (by (try simp only [Fm.cells_eq]); exact Wk.agg hF.sub (.cons (hF.wk0 _) id (.cons (hF.wk0 _) id (.cons (hF.wk0 _) id (.cons (Wk.val2 .nilsl hF.sub) (fun _ => rfl) (.cons (hF.wk 0 rfl) (fun _ => rfl) .nil)))))) (fun h => by first | exact h | rfl) (.cons (hF.wk0 _) (fun h => by first | exact h | rfl) .nil)))
        · intro r hr s' hs
          subst hr
          have e := pur H; subst e
          first | exact hs | (try simp only [Fm.cells_eq] at hs ⊢; exact hs)
  · intro spec_l1Read spec_l1Read_l0 C0 L0 a2 z0o_0 z0t_1 out H c hc Q τ b1 b7 hE hR T σ z0v0 t0 t1 t2 t6 t7 t8 hF
    obtain rfl := Option.some.inj ((rfl : loopAt Try.f56 0 = some _).symm.trans hc)
    refine aLoop_round ?_
    try simp only [go_sem, ↓reduceIte, Nat.reduceEqDiff, Nat.reduceAdd, Nat.reduceMul, Nat.reduceLeDiff, Nat.reduceLT, Int.reduceEq, Int.toNat_natCast, t0, t1, t2, t6, t7, t8, hF.at 0 rfl, hF.at 1 rfl, hF.cells 0 rfl, hF.len 0 rfl]
    obtain ⟨x46, g10, H⟩ := bnd H
    refine aGd_cutN 4 42 46 (.bool x46) (aGd_intro (fun q11 => ?_) (fun q11 => ?_)) (fun J => ?_)
    · rw [if_pos (of_decide_eq_true q11)] at g10
      obtain ⟨x44, hx44, g10⟩ := bnd g10
      try simp only [go_sem, ↓reduceIte, Nat.reduceEqDiff, Nat.reduceAdd, Nat.reduceMul, Nat.reduceLeDiff, Nat.reduceLT, Int.reduceEq, Int.toNat_natCast, t0, t1, t2, t6, t7, t8, q11, hF.at 0 rfl, hF.at 1 rfl, hF.cells 0 rfl, hF.len 0 rfl, aindex_sidx hx44]
      refine cut_done 42 (by have e := pur g10; subst e; (first | rfl | (simp only [go_sem, ↓reduceIte, Nat.reduceEqDiff, Nat.reduceAdd, Nat.reduceMul, Nat.reduceLeDiff, Nat.reduceLT, Int.reduceEq, Int.toNat_natCast, q11]; done) | (simp only [go_sem, ↓reduceIte, Nat.reduceEqDiff, Nat.reduceAdd, Nat.reduceMul, Nat.reduceLeDiff, Nat.reduceLT, Int.reduceEq, Int.toNat_natCast, q11]; simp_all [upd_app]) | simp_all [upd_app])) ?_
      (repeat (first | refine agree_upd (by decide) ?_ | refine agree_low (by decide) ?_)) <;> (repeat (first | refine agree_updR (by decide) ?_ | refine agree_lowR (by decide) ?_)) <;> exact fun _ _ _ => rfl
    · rw [if_neg (of_decide_eq_false q11)] at g10
      try simp only [go_sem, ↓reduceIte, Nat.reduceEqDiff, Nat.reduceAdd, Nat.reduceMul, Nat.reduceLeDiff, Nat.reduceLT, Int.reduceEq, Int.toNat_natCast, t0, t1, t2, t6, t7, t8, q11, hF.at 0 rfl, hF.at 1 rfl, hF.cells 0 rfl, hF.len 0 rfl]
      refine cut_done 42 (by have e := pur g10; subst e; (first | rfl | (simp only [go_sem, ↓reduceIte, Nat.reduceEqDiff, Nat.reduceAdd, Nat.reduceMul, Nat.reduceLeDiff, Nat.reduceLT, Int.reduceEq, Int.toNat_natCast, q11]; done) | (simp only [go_sem, ↓reduceIte, Nat.reduceEqDiff, Nat.reduceAdd, Nat.reduceMul, Nat.reduceLeDiff, Nat.reduceLT, Int.reduceEq, Int.toNat_natCast, q11]; simp_all [upd_app]) | simp_all [upd_app])) ?_
      (repeat (first | refine agree_upd (by decide) ?_ | refine agree_low (by decide) ?_)) <;> (repeat (first | refine agree_updR (by decide) ?_ | refine agree_lowR (by decide) ?_)) <;> exact fun _ _ _ => rfl
    try simp only [go_sem, ↓reduceIte, Nat.reduceEqDiff, Nat.reduceAdd, Nat.reduceMul, Nat.reduceLeDiff, Nat.reduceLT, Int.reduceEq, Int.toNat_natCast, t0, t1, t2, t6, t7, t8, hF.at 0 rfl, hF.at 1 rfl, hF.cells 0 rfl, hF.len 0 rfl]
    obtain ⟨x52, g12, H⟩ := bnd H
    refine aGd_cutN 4 48 52 (.bool x52) (aGd_intro (fun q13 => ?_) (fun q13 => ?_)) (fun J => ?_)
    · try simp only [go_sem, ↓reduceIte, Nat.reduceEqDiff, Nat.reduceAdd, Nat.reduceMul, Nat.reduceLeDiff, Nat.reduceLT, Int.reduceEq, Int.toNat_natCast, t0, t1, t2, t6, t7, t8, q13, hF.at 0 rfl, hF.at 1 rfl, hF.cells 0 rfl, hF.len 0 rfl]
      refine cut_done 48 (by have e := pur g12; subst e; (first | rfl | (simp only [go_sem, ↓reduceIte, Nat.reduceEqDiff, Nat.reduceAdd, Nat.reduceMul, Nat.reduceLeDiff, Nat.reduceLT, Int.reduceEq, Int.toNat_natCast, q13]; done) | (simp only [go_sem, ↓reduceIte, Nat.reduceEqDiff, Nat.reduceAdd, Nat.reduceMul, Nat.reduceLeDiff, Nat.reduceLT, Int.reduceEq, Int.toNat_natCast, q13]; simp_all [upd_app]) | simp_all [upd_app])) ?_
      (repeat (first | refine agree_upd (by decide) ?_ | refine agree_low (by decide) ?_)) <;> (repeat (first | refine agree_updR (by decide) ?_ | refine agree_lowR (by decide) ?_)) <;> exact fun _ _ _ => rfl
    · try simp only [go_sem, ↓reduceIte, Nat.reduceEqDiff, Nat.reduceAdd, Nat.reduceMul, Nat.reduceLeDiff, Nat.reduceLT, Int.reduceEq, Int.toNat_natCast, t0, t1, t2, t6, t7, t8, q13, hF.at 0 rfl, hF.at 1 rfl, hF.cells 0 rfl, hF.len 0 rfl]
      refine cut_done 48 (by have e := pur g12; subst e; (first | rfl | (simp only [go_sem, ↓reduceIte, Nat.reduceEqDiff, Nat.reduceAdd, Nat.reduceMul, Nat.reduceLeDiff, Nat.reduceLT, Int.reduceEq, Int.toNat_natCast, q13]; done) | (simp only [go_sem, ↓reduceIte, Nat.reduceEqDiff, Nat.reduceAdd, Nat.reduceMul, Nat.reduceLeDiff, Nat.reduceLT, Int.reduceEq, Int.toNat_natCast, q13]; simp_all [upd_app]) | simp_all [upd_app])) ?_
      (repeat (first | refine agree_upd (by decide) ?_ | refine agree_low (by decide) ?_)) <;> (repeat (first | refine agree_updR (by decide) ?_ | refine agree_lowR (by decide) ?_)) <;> exact fun _ _ _ => rfl
    try simp only [go_sem, ↓reduceIte, Nat.reduceEqDiff, Nat.reduceAdd, Nat.reduceMul, Nat.reduceLeDiff, Nat.reduceLT, Int.reduceEq, Int.toNat_natCast, t0, t1, t2, t6, t7, t8, hF.at 0 rfl, hF.at 1 rfl, hF.cells 0 rfl, hF.len 0 rfl]
    refine aCnd_b x52 rfl (fun h => ?_) (fun h => ?_)
    · rw [if_pos h] at H
      try simp only [go_sem, ↓reduceIte, Nat.reduceEqDiff, Nat.reduceAdd, Nat.reduceMul, Nat.reduceLeDiff, Nat.reduceLT, Int.reduceEq, Int.toNat_natCast, t0, t1, t2, t6, t7, t8, hF.at 0 rfl, hF.at 1 rfl, hF.cells 0 rfl, hF.len 0 rfl]
      obtain ⟨x58, hx58, H⟩ := bnd H
      refine aCall_pure (C0 z0t_1 (IntKind.i64.wrap (a2 - 1)) _ hx58) (WkVL.refl _) ?_
      try simp only [go_sem, ↓reduceIte, Nat.reduceEqDiff, Nat.reduceAdd, Nat.reduceMul, Nat.reduceLeDiff, Nat.reduceLT, Int.reduceEq, Int.toNat_natCast, t0, t1, t2, t6, t7, t8, hF.at 0 rfl, hF.at 1 rfl, hF.cells 0 rfl, hF.len 0 rfl]
      refine fx_alloc hF rfl fun b14 σ15 hF => ?_
      try simp only [go_sem, ↓reduceIte, Nat.reduceEqDiff, Nat.reduceAdd, Nat.reduceMul, Nat.reduceLeDiff, Nat.reduceLT, Int.reduceEq, Int.toNat_natCast, t0, t1, t2, t6, t7, t8, hF.at 0 rfl, hF.at 1 rfl, hF.at 2 rfl, hF.cells 0 rfl, hF.len 0 rfl]
      refine fx_store hF 0 (cells' := [.int .i64 x58.1.kind, .str x58.1.name, .int .i64 x58.1.num, .sl false (rws cI x58.1.sc), .sl false (rws Fm.cells x58.1.kids)]) rfl rfl rfl (by simp only [List.length_cons, List.length_nil]; decide) (by first | rfl | simp [splice_eq]) fun σ16 hF => ?_
      try simp only [go_sem, ↓reduceIte, Nat.reduceEqDiff, Nat.reduceAdd, Nat.reduceMul, Nat.reduceLeDiff, Nat.reduceLT, Int.reduceEq, Int.toNat_natCast, t0, t1, t2, t6, t7, t8, hF.at 0 rfl, hF.at 1 rfl, hF.at 2 rfl, hF.cells 0 rfl, hF.len 0 rfl]
      refine aCnd_p (x58.2 < 0) rfl (fun h => ?_) (fun h => ?_)
      · rw [if_pos h] at H
        try simp only [go_sem, ↓reduceIte, Nat.reduceEqDiff, Nat.reduceAdd, Nat.reduceMul, Nat.reduceLeDiff, Nat.reduceLT, Int.reduceEq, Int.toNat_natCast, t0, t1, t2, t6, t7, t8, hF.at 0 rfl, hF.at 1 rfl, hF.at 2 rfl, hF.cells 0 rfl, hF.len 0 rfl]
        refine fx_store hF 2 (cells' := [.int .i64 3, .str (ByteArray.mk #[]), .int .i64 0, .nilsl, z0v0]) rfl rfl rfl (by simp only [List.length_cons, List.length_nil]; decide) (by first | rfl | simp [splice_eq]) fun σ17 hF => ?_
        try simp only [go_sem, ↓reduceIte, Nat.reduceEqDiff, Nat.reduceAdd, Nat.reduceMul, Nat.reduceLeDiff, Nat.reduceLT, Int.reduceEq, Int.toNat_natCast, t0, t1, t2, t6, t7, t8, hF.at 0 rfl, hF.at 1 rfl, hF.at 2 rfl, hF.cells 0 rfl, hF.len 0 rfl]
        exact hR _ (pur H).symm _ (fx_ret (vs := [.agg [.int .i64 3, .str (ByteArray.mk #[]), .int .i64 0, .nilsl, z0v0], .int .i64 (-1)]) (by first | (simp only [go_sem, ↓reduceIte, Nat.reduceEqDiff, Nat.reduceAdd, Nat.reduceMul, Nat.reduceLeDiff, Nat.reduceLT, Int.reduceEq, Int.toNat_natCast, t0, t1, t2, t6, t7, t8, hF.at 0 rfl, hF.at 1 rfl, hF.at 2 rfl, hF.cells 0 rfl, hF.len 0 rfl]; done) | rfl | (simp only [go_sem, ↓reduceIte, Nat.reduceEqDiff, Nat.reduceAdd, Nat.reduceMul, Nat.reduceLeDiff, Nat.reduceLT, Int.reduceEq, Int.toNat_natCast, t0, t1, t2, t6, t7, t8, hF.at 0 rfl, hF.at 1 rfl, hF.at 2 rfl, hF.cells 0 rfl, hF.len 0 rfl]; rfl)) (Wk.tup hF.sub (.cons (by (try simp only [Fm.cells_eq]); exact Wk.agg hF.sub (.cons (hF.wk0 _) id (.cons (hF.wk0 _) id (.cons (hF.wk0 _) id (.cons (Wk.val2 .nilsl hF.sub) (fun _ => rfl) (.cons (hF.wk 0 rfl) (fun _ => rfl) .nil)))))) (fun h => by first | exact h | rfl) (.cons (hF.wk0 _) (fun h => by first | exact h | rfl) .nil))))
      · rw [if_neg h] at H
        try simp only [go_sem, ↓reduceIte, Nat.reduceEqDiff, Nat.reduceAdd, Nat.reduceMul, Nat.reduceLeDiff, Nat.reduceLT, Int.reduceEq, Int.toNat_natCast, t0, t1, t2, t6, t7, t8, hF.at 0 rfl, hF.at 1 rfl, hF.at 2 rfl, hF.cells 0 rfl, hF.len 0 rfl]
        obtain ⟨x68, hx68, H⟩ := bnd H
        refine fx_app hF 0 (g := Fm.cells) (xs := z0o_0) (ys := [x58.1]) rfl (by decide) (by decide) (RdL.of (c := true) Fm.cells_len (by first | rfl | simp only [rws_cons, rws_nil, cI, cU, cS, cL, Fm.cells_eq])) hx68 fun v18 σ19 hF => ?_
        try simp only [go_sem, ↓reduceIte, Nat.reduceEqDiff, Nat.reduceAdd, Nat.reduceMul, Nat.reduceLeDiff, Nat.reduceLT, Int.reduceEq, Int.toNat_natCast, t0, t1, t2, t6, t7, t8, hF.at 0 rfl, hF.at 1 rfl, hF.at 2 rfl, hF.cells 0 rfl, hF.len 0 rfl]
        refine fx_store hF 1 (cells' := [.int .i64 3, .str (ByteArray.mk #[]), .int .i64 0, .nilsl, v18]) rfl (hF.cells 0 rfl) rfl (by simp only [List.length_cons, List.length_nil]; decide) (by first | rfl | simp [splice_eq]) fun σ20 hF => ?_
        try simp only [go_sem, ↓reduceIte, Nat.reduceEqDiff, Nat.reduceAdd, Nat.reduceMul, Nat.reduceLeDiff, Nat.reduceLT, Int.reduceEq, Int.toNat_natCast, t0, t1, t2, t6, t7, t8, hF.at 0 rfl, hF.at 1 rfl, hF.at 2 rfl, hF.cells 0 rfl, hF.len 0 rfl]
        obtain ⟨x72, hx72, H⟩ := bnd H
        refine aCall_pure (spec_l1Skip_ok a0 x58.2 _ hx72) (WkVL.refl _) ?_
        try simp only [go_sem, ↓reduceIte, Nat.reduceEqDiff, Nat.reduceAdd, Nat.reduceMul, Nat.reduceLeDiff, Nat.reduceLT, Int.reduceEq, Int.toNat_natCast, t0, t1, t2, t6, t7, t8, hF.at 0 rfl, hF.at 1 rfl, hF.at 2 rfl, hF.cells 0 rfl, hF.len 0 rfl]
        exact L0 a2 x68 x72 _ H _ rfl Q τ b1 b7 hE hR _ _ v18 (by first | (simp only [go_sem, ↓reduceIte, Nat.reduceEqDiff, Nat.reduceAdd, Nat.reduceMul, Nat.reduceLeDiff, Nat.reduceLT, Int.reduceEq, Int.toNat_natCast, t0, t1, t2, t6, t7, t8, hF.at 0 rfl, hF.at 1 rfl, hF.at 2 rfl, hF.cells 0 rfl, hF.len 0 rfl]; done) | rfl | (simp only [go_sem, ↓reduceIte, Nat.reduceEqDiff, Nat.reduceAdd, Nat.reduceMul, Nat.reduceLeDiff, Nat.reduceLT, Int.reduceEq, Int.toNat_natCast, t0, t1, t2, t6, t7, t8, hF.at 0 rfl, hF.at 1 rfl, hF.at 2 rfl, hF.cells 0 rfl, hF.len 0 rfl]; rfl)) (by first | (simp only [go_sem, ↓reduceIte, Nat.reduceEqDiff, Nat.reduceAdd, Nat.reduceMul, Nat.reduceLeDiff, Nat.reduceLT, Int.reduceEq, Int.toNat_natCast, t0, t1, t2, t6, t7, t8, hF.at 0 rfl, hF.at 1 rfl, hF.at 2 rfl, hF.cells 0 rfl, hF.len 0 rfl]; done) | rfl | (simp only [go_sem, ↓reduceIte, Nat.reduceEqDiff, Nat.reduceAdd, Nat.reduceMul, Nat.reduceLeDiff, Nat.reduceLT, Int.reduceEq, Int.toNat_natCast, t0, t1, t2, t6, t7, t8, hF.at 0 rfl, hF.at 1 rfl, hF.at 2 rfl, hF.cells 0 rfl, hF.len 0 rfl]; rfl)) (by first | (simp only [go_sem, ↓reduceIte, Nat.reduceEqDiff, Nat.reduceAdd, Nat.reduceMul, Nat.reduceLeDiff, Nat.reduceLT, Int.reduceEq, Int.toNat_natCast, t0, t1, t2, t6, t7, t8, hF.at 0 rfl, hF.at 1 rfl, hF.at 2 rfl, hF.cells 0 rfl, hF.len 0 rfl]; done) | rfl | (simp only [go_sem, ↓reduceIte, Nat.reduceEqDiff, Nat.reduceAdd, Nat.reduceMul, Nat.reduceLeDiff, Nat.reduceLT, Int.reduceEq, Int.toNat_natCast, t0, t1, t2, t6, t7, t8, hF.at 0 rfl, hF.at 1 rfl, hF.at 2 rfl, hF.cells 0 rfl, hF.len 0 rfl]; rfl)) (by first | (simp only [go_sem, ↓reduceIte, Nat.reduceEqDiff, Nat.reduceAdd, Nat.reduceMul, Nat.reduceLeDiff, Nat.reduceLT, Int.reduceEq, Int.toNat_natCast, t0, t1, t2, t6, t7, t8, hF.at 0 rfl, hF.at 1 rfl, hF.at 2 rfl, hF.cells 0 rfl, hF.len 0 rfl]; done) | rfl | (simp only [go_sem, ↓reduceIte, Nat.reduceEqDiff, Nat.reduceAdd, Nat.reduceMul, Nat.reduceLeDiff, Nat.reduceLT, Int.reduceEq, Int.toNat_natCast, t0, t1, t2, t6, t7, t8, hF.at 0 rfl, hF.at 1 rfl, hF.at 2 rfl, hF.cells 0 rfl, hF.len 0 rfl]; rfl)) (by first | (simp only [go_sem, ↓reduceIte, Nat.reduceEqDiff, Nat.reduceAdd, Nat.reduceMul, Nat.reduceLeDiff, Nat.reduceLT, Int.reduceEq, Int.toNat_natCast, t0, t1, t2, t6, t7, t8, hF.at 0 rfl, hF.at 1 rfl, hF.at 2 rfl, hF.cells 0 rfl, hF.len 0 rfl]; done) | rfl | (simp only [go_sem, ↓reduceIte, Nat.reduceEqDiff, Nat.reduceAdd, Nat.reduceMul, Nat.reduceLeDiff, Nat.reduceLT, Int.reduceEq, Int.toNat_natCast, t0, t1, t2, t6, t7, t8, hF.at 0 rfl, hF.at 1 rfl, hF.at 2 rfl, hF.cells 0 rfl, hF.len 0 rfl]; rfl)) (by first | (simp only [go_sem, ↓reduceIte, Nat.reduceEqDiff, Nat.reduceAdd, Nat.reduceMul, Nat.reduceLeDiff, Nat.reduceLT, Int.reduceEq, Int.toNat_natCast, t0, t1, t2, t6, t7, t8, hF.at 0 rfl, hF.at 1 rfl, hF.at 2 rfl, hF.cells 0 rfl, hF.len 0 rfl]; done) | rfl | (simp only [go_sem, ↓reduceIte, Nat.reduceEqDiff, Nat.reduceAdd, Nat.reduceMul, Nat.reduceLeDiff, Nat.reduceLT, Int.reduceEq, Int.toNat_natCast, t0, t1, t2, t6, t7, t8, hF.at 0 rfl, hF.at 1 rfl, hF.at 2 rfl, hF.cells 0 rfl, hF.len 0 rfl]; rfl)) (hF.drop 1 0)
    · rw [if_neg h] at H
      try simp only [go_sem, ↓reduceIte, Nat.reduceEqDiff, Nat.reduceAdd, Nat.reduceMul, Nat.reduceLeDiff, Nat.reduceLT, Int.reduceEq, Int.toNat_natCast, t0, t1, t2, t6, t7, t8, hF.at 0 rfl, hF.at 1 rfl, hF.cells 0 rfl, hF.len 0 rfl]
      exact hE _ _ (pur H).symm _ _ z0v0 (by first | (simp only [go_sem, ↓reduceIte, Nat.reduceEqDiff, Nat.reduceAdd, Nat.reduceMul, Nat.reduceLeDiff, Nat.reduceLT, Int.reduceEq, Int.toNat_natCast, t0, t1, t2, t6, t7, t8, hF.at 0 rfl, hF.at 1 rfl, hF.cells 0 rfl, hF.len 0 rfl]; done) | rfl | (simp only [go_sem, ↓reduceIte, Nat.reduceEqDiff, Nat.reduceAdd, Nat.reduceMul, Nat.reduceLeDiff, Nat.reduceLT, Int.reduceEq, Int.toNat_natCast, t0, t1, t2, t6, t7, t8, hF.at 0 rfl, hF.at 1 rfl, hF.cells 0 rfl, hF.len 0 rfl]; rfl)) (by first | (simp only [go_sem, ↓reduceIte, Nat.reduceEqDiff, Nat.reduceAdd, Nat.reduceMul, Nat.reduceLeDiff, Nat.reduceLT, Int.reduceEq, Int.toNat_natCast, t0, t1, t2, t6, t7, t8, hF.at 0 rfl, hF.at 1 rfl, hF.cells 0 rfl, hF.len 0 rfl]; done) | rfl | (simp only [go_sem, ↓reduceIte, Nat.reduceEqDiff, Nat.reduceAdd, Nat.reduceMul, Nat.reduceLeDiff, Nat.reduceLT, Int.reduceEq, Int.toNat_natCast, t0, t1, t2, t6, t7, t8, hF.at 0 rfl, hF.at 1 rfl, hF.cells 0 rfl, hF.len 0 rfl]; rfl)) (by first | (simp only [go_sem, ↓reduceIte, Nat.reduceEqDiff, Nat.reduceAdd, Nat.reduceMul, Nat.reduceLeDiff, Nat.reduceLT, Int.reduceEq, Int.toNat_natCast, t0, t1, t2, t6, t7, t8, hF.at 0 rfl, hF.at 1 rfl, hF.cells 0 rfl, hF.len 0 rfl]; done) | rfl | (simp only [go_sem, ↓reduceIte, Nat.reduceEqDiff, Nat.reduceAdd, Nat.reduceMul, Nat.reduceLeDiff, Nat.reduceLT, Int.reduceEq, Int.toNat_natCast, t0, t1, t2, t6, t7, t8, hF.at 0 rfl, hF.at 1 rfl, hF.cells 0 rfl, hF.len 0 rfl]; rfl)) (by first | (simp only [go_sem, ↓reduceIte, Nat.reduceEqDiff, Nat.reduceAdd, Nat.reduceMul, Nat.reduceLeDiff, Nat.reduceLT, Int.reduceEq, Int.toNat_natCast, t0, t1, t2, t6, t7, t8, hF.at 0 rfl, hF.at 1 rfl, hF.cells 0 rfl, hF.len 0 rfl]; done) | rfl | (simp only [go_sem, ↓reduceIte, Nat.reduceEqDiff, Nat.reduceAdd, Nat.reduceMul, Nat.reduceLeDiff, Nat.reduceLT, Int.reduceEq, Int.toNat_natCast, t0, t1, t2, t6, t7, t8, hF.at 0 rfl, hF.at 1 rfl, hF.cells 0 rfl, hF.len 0 rfl]; rfl)) (by first | (simp only [go_sem, ↓reduceIte, Nat.reduceEqDiff, Nat.reduceAdd, Nat.reduceMul, Nat.reduceLeDiff, Nat.reduceLT, Int.reduceEq, Int.toNat_natCast, t0, t1, t2, t6, t7, t8, hF.at 0 rfl, hF.at 1 rfl, hF.cells 0 rfl, hF.len 0 rfl]; done) | rfl | (simp only [go_sem, ↓reduceIte, Nat.reduceEqDiff, Nat.reduceAdd, Nat.reduceMul, Nat.reduceLeDiff, Nat.reduceLT, Int.reduceEq, Int.toNat_natCast, t0, t1, t2, t6, t7, t8, hF.at 0 rfl, hF.at 1 rfl, hF.cells 0 rfl, hF.len 0 rfl]; rfl)) hF
theorem spec_l1Letter_ok : ∀ (a0 : Int) (a1 : Bool) r, spec_l1Letter a0 a1 = some r → PCtr Try.prog 43 [.int .u8 a0, .bool a1] (.bool r) := by
  intro a0 a1 r H
  intro σ
  unfold spec_l1Letter at H
  refine ctr_of mixed Try.func43 rfl (by kernel_rfl) (rs := [.tmp 4]) rfl (by kernel_rfl) ?_
  have hF := Fx.refl σ
  have hX := Tau.none σ
  try simp only [go_sem, ↓reduceIte, Nat.reduceEqDiff, Nat.reduceAdd, Nat.reduceMul, Nat.reduceLeDiff, Nat.reduceLT, Int.reduceEq, Int.toNat_natCast]
  obtain ⟨x10, g1, H⟩ := bnd H
  refine aGd_cutN 2 8 10 (.bool x10) (aGd_intro (fun q2 => ?_) (fun q2 => ?_)) (fun J => ?_)
  · try simp only [go_sem, ↓reduceIte, Nat.reduceEqDiff, Nat.reduceAdd, Nat.reduceMul, Nat.reduceLeDiff, Nat.reduceLT, Int.reduceEq, Int.toNat_natCast, q2]
    refine cut_done 8 (by have e := pur g1; subst e; (first | rfl | (simp only [go_sem, ↓reduceIte, Nat.reduceEqDiff, Nat.reduceAdd, Nat.reduceMul, Nat.reduceLeDiff, Nat.reduceLT, Int.reduceEq, Int.toNat_natCast, q2]; done) | (simp only [go_sem, ↓reduceIte, Nat.reduceEqDiff, Nat.reduceAdd, Nat.reduceMul, Nat.reduceLeDiff, Nat.reduceLT, Int.reduceEq, Int.toNat_natCast, q2]; simp_all [upd_app]) | simp_all [upd_app])) ?_
    (repeat (first | refine agree_upd (by decide) ?_ | refine agree_low (by decide) ?_)) <;> (repeat (first | refine agree_updR (by decide) ?_ | refine agree_lowR (by decide) ?_)) <;> exact fun _ _ _ => rfl
  · try simp only [go_sem, ↓reduceIte, Nat.reduceEqDiff, Nat.reduceAdd, Nat.reduceMul, Nat.reduceLeDiff, Nat.reduceLT, Int.reduceEq, Int.toNat_natCast, q2]
    refine cut_done 8 (by have e := pur g1; subst e; (first | rfl | (simp only [go_sem, ↓reduceIte, Nat.reduceEqDiff, Nat.reduceAdd, Nat.reduceMul, Nat.reduceLeDiff, Nat.reduceLT, Int.reduceEq, Int.toNat_natCast, q2]; done) | (simp only [go_sem, ↓reduceIte, Nat.reduceEqDiff, Nat.reduceAdd, Nat.reduceMul, Nat.reduceLeDiff, Nat.reduceLT, Int.reduceEq, Int.toNat_natCast, q2]; simp_all [upd_app]) | simp_all [upd_app])) ?_
    (repeat (first | refine agree_upd (by decide) ?_ | refine agree_low (by decide) ?_)) <;> (repeat (first | refine agree_updR (by decide) ?_ | refine agree_lowR (by decide) ?_)) <;> exact fun _ _ _ => rfl
  try simp only [go_sem, ↓reduceIte, Nat.reduceEqDiff, Nat.reduceAdd, Nat.reduceMul, Nat.reduceLeDiff, Nat.reduceLT, Int.reduceEq, Int.toNat_natCast]
  obtain ⟨x14, g3, H⟩ := bnd H
  refine aGd_cutN 2 12 14 (.bool x14) (aGd_introN (fun q4 => ?_) (fun q4 => ?_)) (fun J => ?_)
  · try simp only [go_sem, ↓reduceIte, Nat.reduceEqDiff, Nat.reduceAdd, Nat.reduceMul, Nat.reduceLeDiff, Nat.reduceLT, Int.reduceEq, Int.toNat_natCast, q4]
    refine cut_done 12 (by have e := pur g3; subst e; (first | rfl | (simp only [go_sem, ↓reduceIte, Nat.reduceEqDiff, Nat.reduceAdd, Nat.reduceMul, Nat.reduceLeDiff, Nat.reduceLT, Int.reduceEq, Int.toNat_natCast, q4]; done) | (simp only [go_sem, ↓reduceIte, Nat.reduceEqDiff, Nat.reduceAdd, Nat.reduceMul, Nat.reduceLeDiff, Nat.reduceLT, Int.reduceEq, Int.toNat_natCast, q4]; simp_all [upd_app]) | simp_all [upd_app])) ?_
    (repeat (first | refine agree_upd (by decide) ?_ | refine agree_low (by decide) ?_)) <;> (repeat (first | refine agree_updR (by decide) ?_ | refine agree_lowR (by decide) ?_)) <;> exact fun _ _ _ => rfl
  · try simp only [go_sem, ↓reduceIte, Nat.reduceEqDiff, Nat.reduceAdd, Nat.reduceMul, Nat.reduceLeDiff, Nat.reduceLT, Int.reduceEq, Int.toNat_natCast, q4]
    refine cut_done 12 (by have e := pur g3; subst e; (first | rfl | (simp only [go_sem, ↓reduceIte, Nat.reduceEqDiff, Nat.reduceAdd, Nat.reduceMul, Nat.reduceLeDiff, Nat.reduceLT, Int.reduceEq, Int.toNat_natCast, q4]; done) | (simp only [go_sem, ↓reduceIte, Nat.reduceEqDiff, Nat.reduceAdd, Nat.reduceMul, Nat.reduceLeDiff, Nat.reduceLT, Int.reduceEq, Int.toNat_natCast, q4]; simp_all [upd_app]) | simp_all [upd_app])) ?_
    (repeat (first | refine agree_upd (by decide) ?_ | refine agree_low (by decide) ?_)) <;> (repeat (first | refine agree_updR (by decide) ?_ | refine agree_lowR (by decide) ?_)) <;> exact fun _ _ _ => rfl
  try simp only [go_sem, ↓reduceIte, Nat.reduceEqDiff, Nat.reduceAdd, Nat.reduceMul, Nat.reduceLeDiff, Nat.reduceLT, Int.reduceEq, Int.toNat_natCast]
  obtain ⟨x18, g5, H⟩ := bnd H
  refine aGd_cutN 2 16 18 (.bool x18) (aGd_introN (fun q6 => ?_) (fun q6 => ?_)) (fun J => ?_)
  · try simp only [go_sem, ↓reduceIte, Nat.reduceEqDiff, Nat.reduceAdd, Nat.reduceMul, Nat.reduceLeDiff, Nat.reduceLT, Int.reduceEq, Int.toNat_natCast, q6]
    refine cut_done 16 (by have e := pur g5; subst e; (first | rfl | (simp only [go_sem, ↓reduceIte, Nat.reduceEqDiff, Nat.reduceAdd, Nat.reduceMul, Nat.reduceLeDiff, Nat.reduceLT, Int.reduceEq, Int.toNat_natCast, q6]; done) | (simp only [go_sem, ↓reduceIte, Nat.reduceEqDiff, Nat.reduceAdd, Nat.reduceMul, Nat.reduceLeDiff, Nat.reduceLT, Int.reduceEq, Int.toNat_natCast, q6]; simp_all [upd_app]) | simp_all [upd_app])) ?_
    (repeat (first | refine agree_upd (by decide) ?_ | refine agree_low (by decide) ?_)) <;> (repeat (first | refine agree_updR (by decide) ?_ | refine agree_lowR (by decide) ?_)) <;> exact fun _ _ _ => rfl
  · try simp only [go_sem, ↓reduceIte, Nat.reduceEqDiff, Nat.reduceAdd, Nat.reduceMul, Nat.reduceLeDiff, Nat.reduceLT, Int.reduceEq, Int.toNat_natCast, q6]
    refine cut_done 16 (by have e := pur g5; subst e; (first | rfl | (simp only [go_sem, ↓reduceIte, Nat.reduceEqDiff, Nat.reduceAdd, Nat.reduceMul, Nat.reduceLeDiff, Nat.reduceLT, Int.reduceEq, Int.toNat_natCast, q6]; done) | (simp only [go_sem, ↓reduceIte, Nat.reduceEqDiff, Nat.reduceAdd, Nat.reduceMul, Nat.reduceLeDiff, Nat.reduceLT, Int.reduceEq, Int.toNat_natCast, q6]; simp_all [upd_app]) | simp_all [upd_app])) ?_
    (repeat (first | refine agree_upd (by decide) ?_ | refine agree_low (by decide) ?_)) <;> (repeat (first | refine agree_updR (by decide) ?_ | refine agree_lowR (by decide) ?_)) <;> exact fun _ _ _ => rfl
  try simp only [go_sem, ↓reduceIte, Nat.reduceEqDiff, Nat.reduceAdd, Nat.reduceMul, Nat.reduceLeDiff, Nat.reduceLT, Int.reduceEq, Int.toNat_natCast]
  obtain ⟨x22, g7, H⟩ := bnd H
  refine aGd_cutN 2 20 22 (.bool x22) (aGd_introN (fun q8 => ?_) (fun q8 => ?_)) (fun J => ?_)
  · try simp only [go_sem, ↓reduceIte, Nat.reduceEqDiff, Nat.reduceAdd, Nat.reduceMul, Nat.reduceLeDiff, Nat.reduceLT, Int.reduceEq, Int.toNat_natCast, q8]
    refine cut_done 20 (by have e := pur g7; subst e; (first | rfl | (simp only [go_sem, ↓reduceIte, Nat.reduceEqDiff, Nat.reduceAdd, Nat.reduceMul, Nat.reduceLeDiff, Nat.reduceLT, Int.reduceEq, Int.toNat_natCast, q8]; done) | (simp only [go_sem, ↓reduceIte, Nat.reduceEqDiff, Nat.reduceAdd, Nat.reduceMul, Nat.reduceLeDiff, Nat.reduceLT, Int.reduceEq, Int.toNat_natCast, q8]; simp_all [upd_app]) | simp_all [upd_app])) ?_
    (repeat (first | refine agree_upd (by decide) ?_ | refine agree_low (by decide) ?_)) <;> (repeat (first | refine agree_updR (by decide) ?_ | refine agree_lowR (by decide) ?_)) <;> exact fun _ _ _ => rfl
  · try simp only [go_sem, ↓reduceIte, Nat.reduceEqDiff, Nat.reduceAdd, Nat.reduceMul, Nat.reduceLeDiff, Nat.reduceLT, Int.reduceEq, Int.toNat_natCast, q8]
    refine cut_done 20 (by have e := pur g7; subst e; (first | rfl | (simp only [go_sem, ↓reduceIte, Nat.reduceEqDiff, Nat.reduceAdd, Nat.reduceMul, Nat.reduceLeDiff, Nat.reduceLT, Int.reduceEq, Int.toNat_natCast, q8]; done) | (simp only [go_sem, ↓reduceIte, Nat.reduceEqDiff, Nat.reduceAdd, Nat.reduceMul, Nat.reduceLeDiff, Nat.reduceLT, Int.reduceEq, Int.toNat_natCast, q8]; simp_all [upd_app]) | simp_all [upd_app])) ?_
    (repeat (first | refine agree_upd (by decide) ?_ | refine agree_low (by decide) ?_)) <;> (repeat (first | refine agree_updR (by decide) ?_ | refine agree_lowR (by decide) ?_)) <;> exact fun _ _ _ => rfl
  try simp only [go_sem, ↓reduceIte, Nat.reduceEqDiff, Nat.reduceAdd, Nat.reduceMul, Nat.reduceLeDiff, Nat.reduceLT, Int.reduceEq, Int.toNat_natCast]
  obtain ⟨x26, g9, H⟩ := bnd H
  refine aGd_cutN 2 24 26 (.bool x26) (aGd_introN (fun q10 => ?_) (fun q10 => ?_)) (fun J => ?_)
  · try simp only [go_sem, ↓reduceIte, Nat.reduceEqDiff, Nat.reduceAdd, Nat.reduceMul, Nat.reduceLeDiff, Nat.reduceLT, Int.reduceEq, Int.toNat_natCast, q10]
    refine cut_done 24 (by have e := pur g9; subst e; (first | rfl | (simp only [go_sem, ↓reduceIte, Nat.reduceEqDiff, Nat.reduceAdd, Nat.reduceMul, Nat.reduceLeDiff, Nat.reduceLT, Int.reduceEq, Int.toNat_natCast, q10]; done) | (simp only [go_sem, ↓reduceIte, Nat.reduceEqDiff, Nat.reduceAdd, Nat.reduceMul, Nat.reduceLeDiff, Nat.reduceLT, Int.reduceEq, Int.toNat_natCast, q10]; simp_all [upd_app]) | simp_all [upd_app])) ?_
    (repeat (first | refine agree_upd (by decide) ?_ | refine agree_low (by decide) ?_)) <;> (repeat (first | refine agree_updR (by decide) ?_ | refine agree_lowR (by decide) ?_)) <;> exact fun _ _ _ => rfl
  · try simp only [go_sem, ↓reduceIte, Nat.reduceEqDiff, Nat.reduceAdd, Nat.reduceMul, Nat.reduceLeDiff, Nat.reduceLT, Int.reduceEq, Int.toNat_natCast, q10]
    refine cut_done 24 (by have e := pur g9; subst e; (first | rfl | (simp only [go_sem, ↓reduceIte, Nat.reduceEqDiff, Nat.reduceAdd, Nat.reduceMul, Nat.reduceLeDiff, Nat.reduceLT, Int.reduceEq, Int.toNat_natCast, q10]; done) | (simp only [go_sem, ↓reduceIte, Nat.reduceEqDiff, Nat.reduceAdd, Nat.reduceMul, Nat.reduceLeDiff, Nat.reduceLT, Int.reduceEq, Int.toNat_natCast, q10]; simp_all [upd_app]) | simp_all [upd_app])) ?_
    (repeat (first | refine agree_upd (by decide) ?_ | refine agree_low (by decide) ?_)) <;> (repeat (first | refine agree_updR (by decide) ?_ | refine agree_lowR (by decide) ?_)) <;> exact fun _ _ _ => rfl
  try simp only [go_sem, ↓reduceIte, Nat.reduceEqDiff, Nat.reduceAdd, Nat.reduceMul, Nat.reduceLeDiff, Nat.reduceLT, Int.reduceEq, Int.toNat_natCast]
  obtain ⟨x30, g11, H⟩ := bnd H
  refine aGd_cutN 2 28 30 (.bool x30) (aGd_introN (fun q12 => ?_) (fun q12 => ?_)) (fun J => ?_)
  · try simp only [go_sem, ↓reduceIte, Nat.reduceEqDiff, Nat.reduceAdd, Nat.reduceMul, Nat.reduceLeDiff, Nat.reduceLT, Int.reduceEq, Int.toNat_natCast, q12]
    refine cut_done 28 (by have e := pur g11; subst e; (first | rfl | (simp only [go_sem, ↓reduceIte, Nat.reduceEqDiff, Nat.reduceAdd, Nat.reduceMul, Nat.reduceLeDiff, Nat.reduceLT, Int.reduceEq, Int.toNat_natCast, q12]; done) | (simp only [go_sem, ↓reduceIte, Nat.reduceEqDiff, Nat.reduceAdd, Nat.reduceMul, Nat.reduceLeDiff, Nat.reduceLT, Int.reduceEq, Int.toNat_natCast, q12]; simp_all [upd_app]) | simp_all [upd_app])) ?_
    (repeat (first | refine agree_upd (by decide) ?_ | refine agree_low (by decide) ?_)) <;> (repeat (first | refine agree_updR (by decide) ?_ | refine agree_lowR (by decide) ?_)) <;> exact fun _ _ _ => rfl
  · try simp only [go_sem, ↓reduceIte, Nat.reduceEqDiff, Nat.reduceAdd, Nat.reduceMul, Nat.reduceLeDiff, Nat.reduceLT, Int.reduceEq, Int.toNat_natCast, q12]
    refine cut_done 28 (by have e := pur g11; subst e; (first | rfl | (simp only [go_sem, ↓reduceIte, Nat.reduceEqDiff, Nat.reduceAdd, Nat.reduceMul, Nat.reduceLeDiff, Nat.reduceLT, Int.reduceEq, Int.toNat_natCast, q12]; done) | (simp only [go_sem, ↓reduceIte, Nat.reduceEqDiff, Nat.reduceAdd, Nat.reduceMul, Nat.reduceLeDiff, Nat.reduceLT, Int.reduceEq, Int.toNat_natCast, q12]; simp_all [upd_app]) | simp_all [upd_app])) ?_
    (repeat (first | refine agree_upd (by decide) ?_ | refine agree_low (by decide) ?_)) <;> (repeat (first | refine agree_updR (by decide) ?_ | refine agree_lowR (by decide) ?_)) <;> exact fun _ _ _ => rfl
  try simp only [go_sem, ↓reduceIte, Nat.reduceEqDiff, Nat.reduceAdd, Nat.reduceMul, Nat.reduceLeDiff, Nat.reduceLT, Int.reduceEq, Int.toNat_natCast]
  refine aCnd_b x30 rfl (fun h => ?_) (fun h => ?_)
  · rw [if_pos h] at H
    try simp only [go_sem, ↓reduceIte, Nat.reduceEqDiff, Nat.reduceAdd, Nat.reduceMul, Nat.reduceLeDiff, Nat.reduceLT, Int.reduceEq, Int.toNat_natCast]
    have e := pur H; subst e
    exact fx_ret (vs := [.bool true]) (by first | (simp only [go_sem, ↓reduceIte, Nat.reduceEqDiff, Nat.reduceAdd, Nat.reduceMul, Nat.reduceLeDiff, Nat.reduceLT, Int.reduceEq, Int.toNat_natCast]; done) | rfl | (simp only [go_sem, ↓reduceIte, Nat.reduceEqDiff, Nat.reduceAdd, Nat.reduceMul, Nat.reduceLeDiff, Nat.reduceLT, Int.reduceEq, Int.toNat_natCast]; rfl)) (hF.wk0 _)
  · rw [if_neg h] at H
    try simp only [go_sem, ↓reduceIte, Nat.reduceEqDiff, Nat.reduceAdd, Nat.reduceMul, Nat.reduceLeDiff, Nat.reduceLT, Int.reduceEq, Int.toNat_natCast]
    obtain ⟨x44, g13, H⟩ := bnd H
    refine aGd_cutN 10 34 44 (.bool x44) (aGd_intro (fun q14 => ?_) (fun q14 => ?_)) (fun J => ?_)
    · rw [if_pos (q14)] at g13
      try simp only [go_sem, ↓reduceIte, Nat.reduceEqDiff, Nat.reduceAdd, Nat.reduceMul, Nat.reduceLeDiff, Nat.reduceLT, Int.reduceEq, Int.toNat_natCast, q14]
      obtain ⟨x39, g15, g13⟩ := bnd g13
      refine aGd_cutN 2 37 39 (.bool x39) (aGd_intro (fun q16 => ?_) (fun q16 => ?_)) (fun J => ?_)
      · try simp only [go_sem, ↓reduceIte, Nat.reduceEqDiff, Nat.reduceAdd, Nat.reduceMul, Nat.reduceLeDiff, Nat.reduceLT, Int.reduceEq, Int.toNat_natCast, q14, q16]
        refine cut_done 37 (by have e := pur g15; subst e; (first | rfl | (simp only [go_sem, ↓reduceIte, Nat.reduceEqDiff, Nat.reduceAdd, Nat.reduceMul, Nat.reduceLeDiff, Nat.reduceLT, Int.reduceEq, Int.toNat_natCast, q14, q16]; done) | (simp only [go_sem, ↓reduceIte, Nat.reduceEqDiff, Nat.reduceAdd, Nat.reduceMul, Nat.reduceLeDiff, Nat.reduceLT, Int.reduceEq, Int.toNat_natCast, q14, q16]; simp_all [upd_app]) | simp_all [upd_app])) ?_
        (repeat (first | refine agree_upd (by decide) ?_ | refine agree_low (by decide) ?_)) <;> (repeat (first | refine agree_updR (by decide) ?_ | refine agree_lowR (by decide) ?_)) <;> exact fun _ _ _ => rfl
      · try simp only [go_sem, ↓reduceIte, Nat.reduceEqDiff, Nat.reduceAdd, Nat.reduceMul, Nat.reduceLeDiff, Nat.reduceLT, Int.reduceEq, Int.toNat_natCast, q14, q16]
        refine cut_done 37 (by have e := pur g15; subst e; (first | rfl | (simp only [go_sem, ↓reduceIte, Nat.reduceEqDiff, Nat.reduceAdd, Nat.reduceMul, Nat.reduceLeDiff, Nat.reduceLT, Int.reduceEq, Int.toNat_natCast, q14, q16]; done) | (simp only [go_sem, ↓reduceIte, Nat.reduceEqDiff, Nat.reduceAdd, Nat.reduceMul, Nat.reduceLeDiff, Nat.reduceLT, Int.reduceEq, Int.toNat_natCast, q14, q16]; simp_all [upd_app]) | simp_all [upd_app])) ?_
        (repeat (first | refine agree_upd (by decide) ?_ | refine agree_low (by decide) ?_)) <;> (repeat (first | refine agree_updR (by decide) ?_ | refine agree_lowR (by decide) ?_)) <;> exact fun _ _ _ => rfl
      try simp only [go_sem, ↓reduceIte, Nat.reduceEqDiff, Nat.reduceAdd, Nat.reduceMul, Nat.reduceLeDiff, Nat.reduceLT, Int.reduceEq, Int.toNat_natCast, q14]
      obtain ⟨x43, g17, g13⟩ := bnd g13
      refine aGd_cutN 2 41 43 (.bool x43) (aGd_introN (fun q18 => ?_) (fun q18 => ?_)) (fun J => ?_)
      · try simp only [go_sem, ↓reduceIte, Nat.reduceEqDiff, Nat.reduceAdd, Nat.reduceMul, Nat.reduceLeDiff, Nat.reduceLT, Int.reduceEq, Int.toNat_natCast, q14, q18]
        refine cut_done 41 (by have e := pur g17; subst e; (first | rfl | (simp only [go_sem, ↓reduceIte, Nat.reduceEqDiff, Nat.reduceAdd, Nat.reduceMul, Nat.reduceLeDiff, Nat.reduceLT, Int.reduceEq, Int.toNat_natCast, q14, q18]; done) | (simp only [go_sem, ↓reduceIte, Nat.reduceEqDiff, Nat.reduceAdd, Nat.reduceMul, Nat.reduceLeDiff, Nat.reduceLT, Int.reduceEq, Int.toNat_natCast, q14, q18]; simp_all [upd_app]) | simp_all [upd_app])) ?_
        (repeat (first | refine agree_upd (by decide) ?_ | refine agree_low (by decide) ?_)) <;> (repeat (first | refine agree_updR (by decide) ?_ | refine agree_lowR (by decide) ?_)) <;> exact fun _ _ _ => rfl
      · try simp only [go_sem, ↓reduceIte, Nat.reduceEqDiff, Nat.reduceAdd, Nat.reduceMul, Nat.reduceLeDiff, Nat.reduceLT, Int.reduceEq, Int.toNat_natCast, q14, q18]
        refine cut_done 41 (by have e := pur g17; subst e; (first | rfl | (simp only [go_sem, ↓reduceIte, Nat.reduceEqDiff, Nat.reduceAdd, Nat.reduceMul, Nat.reduceLeDiff, Nat.reduceLT, Int.reduceEq, Int.toNat_natCast, q14, q18]; done) | (simp only [go_sem, ↓reduceIte, Nat.reduceEqDiff, Nat.reduceAdd, Nat.reduceMul, Nat.reduceLeDiff, Nat.reduceLT, Int.reduceEq, Int.toNat_natCast, q14, q18]; simp_all [upd_app]) | simp_all [upd_app])) ?_
        (repeat (first | refine agree_upd (by decide) ?_ | refine agree_low (by decide) ?_)) <;> (repeat (first | refine agree_updR (by decide) ?_ | refine agree_lowR (by decide) ?_)) <;> exact fun _ _ _ => rfl
      try simp only [go_sem, ↓reduceIte, Nat.reduceEqDiff, Nat.reduceAdd, Nat.reduceMul, Nat.reduceLeDiff, Nat.reduceLT, Int.reduceEq, Int.toNat_natCast, q14]
      refine cut_done 34 (by have e := pur g13; subst e; (first | rfl | (simp only [go_sem, ↓reduceIte, Nat.reduceEqDiff, Nat.reduceAdd, Nat.reduceMul, Nat.reduceLeDiff, Nat.reduceLT, Int.reduceEq, Int.toNat_natCast, q14]; done) | (simp only [go_sem, ↓reduceIte, Nat.reduceEqDiff, Nat.reduceAdd, Nat.reduceMul, Nat.reduceLeDiff, Nat.reduceLT, Int.reduceEq, Int.toNat_natCast, q14]; simp_all [upd_app]) | simp_all [upd_app])) ?_
      (repeat (first | refine agree_upd (by decide) ?_ | refine agree_low (by decide) ?_)) <;> (repeat (first | refine agree_updR (by decide) ?_ | refine agree_lowR (by decide) ?_)) <;> exact fun _ _ _ => rfl
    · rw [if_neg (b_f q14)] at g13
      try simp only [go_sem, ↓reduceIte, Nat.reduceEqDiff, Nat.reduceAdd, Nat.reduceMul, Nat.reduceLeDiff, Nat.reduceLT, Int.reduceEq, Int.toNat_natCast, q14]
      refine cut_done 34 (by have e := pur g13; subst e; (first | rfl | (simp only [go_sem, ↓reduceIte, Nat.reduceEqDiff, Nat.reduceAdd, Nat.reduceMul, Nat.reduceLeDiff, Nat.reduceLT, Int.reduceEq, Int.toNat_natCast, q14]; done) | (simp only [go_sem, ↓reduceIte, Nat.reduceEqDiff, Nat.reduceAdd, Nat.reduceMul, Nat.reduceLeDiff, Nat.reduceLT, Int.reduceEq, Int.toNat_natCast, q14]; simp_all [upd_app]) | simp_all [upd_app])) ?_
      (repeat (first | refine agree_upd (by decide) ?_ | refine agree_low (by decide) ?_)) <;> (repeat (first | refine agree_updR (by decide) ?_ | refine agree_lowR (by decide) ?_)) <;> exact fun _ _ _ => rfl
    try simp only [go_sem, ↓reduceIte, Nat.reduceEqDiff, Nat.reduceAdd, Nat.reduceMul, Nat.reduceLeDiff, Nat.reduceLT, Int.reduceEq, Int.toNat_natCast]
    have e := pur H; subst e
    exact fx_ret (vs := [.bool x44]) (by first | (simp only [go_sem, ↓reduceIte, Nat.reduceEqDiff, Nat.reduceAdd, Nat.reduceMul, Nat.reduceLeDiff, Nat.reduceLT, Int.reduceEq, Int.toNat_natCast]; done) | rfl | (simp only [go_sem, ↓reduceIte, Nat.reduceEqDiff, Nat.reduceAdd, Nat.reduceMul, Nat.reduceLeDiff, Nat.reduceLT, Int.reduceEq, Int.toNat_natCast]; rfl)) (hF.wk0 _)
theorem spec_NameValid_l0_ok : ∀ (a0 : ByteArray) (z0t_3 : Int) out, spec_NameValid_l0 a0 z0t_3 = some out → ∀ c, loopAt Try.f28 0 = some c → ∀ (Q : AX → AS → Prop) (τ : Sto), (∀ (_u : Unit), out = Sum.inr () → ∀ (T : Nat → AV) (σ : Sto), T 0 = .str a0 → T 2 = .bool false → Fx τ σ [] [] → Q (.ex 0) ⟨T, σ⟩) → (∀ r, out = Sum.inl r → ∀ s', aRet Try.prog [.tmp 2] (fun r' σ' => r' = .bool r ∧ σ' = τ) s' → Q .ret s') → ∀ (T : Nat → AV) (σ : Sto), T 0 = .str a0 → T 2 = .bool false → T 3 = .int .i64 z0t_3 → Fx τ σ [] [] → aLoop (acode Try.prog c) Q ⟨T, σ⟩ := by
  intro a0 z0t_3
  revert z0t_3
  refine spec_NameValid_l0.partial_correctness a0 _ ?_
  intro spec_NameValid_l0 IH z0t_3 out H c hc Q τ  hE hR T σ t0 t2 t3 hF
  obtain rfl := Option.some.inj ((rfl : loopAt Try.f28 0 = some _).symm.trans hc)
  refine aLoop_round ?_
  try simp only [go_sem, ↓reduceIte, Nat.reduceEqDiff, Nat.reduceAdd, Nat.reduceMul, Nat.reduceLeDiff, Nat.reduceLT, Int.reduceEq, Int.toNat_natCast, t0, t2, t3]
  obtain ⟨x17, g3, H⟩ := bnd H
  refine aGd_cutN 2 15 17 (.bool x17) (aGd_intro (fun q4 => ?_) (fun q4 => ?_)) (fun J => ?_)
  · try simp only [go_sem, ↓reduceIte, Nat.reduceEqDiff, Nat.reduceAdd, Nat.reduceMul, Nat.reduceLeDiff, Nat.reduceLT, Int.reduceEq, Int.toNat_natCast, t0, t2, t3, q4]
    refine cut_done 15 (by have e := pur g3; subst e; (first | rfl | (simp only [go_sem, ↓reduceIte, Nat.reduceEqDiff, Nat.reduceAdd, Nat.reduceMul, Nat.reduceLeDiff, Nat.reduceLT, Int.reduceEq, Int.toNat_natCast, q4]; done) | (simp only [go_sem, ↓reduceIte, Nat.reduceEqDiff, Nat.reduceAdd, Nat.reduceMul, Nat.reduceLeDiff, Nat.reduceLT, Int.reduceEq, Int.toNat_natCast, q4]; simp_all [upd_app]) | simp_all [upd_app])) ?_
    (repeat (first | refine agree_upd (by decide) ?_ | refine agree_low (by decide) ?_)) <;> (repeat (first | refine agree_updR (by decide) ?_ | refine agree_lowR (by decide) ?_)) <;> exact fun _ _ _ => rfl
  · try simp only [go_sem, ↓reduceIte, Nat.reduceEqDiff, Nat.reduceAdd, Nat.reduceMul, Nat.reduceLeDiff, Nat.reduceLT, Int.reduceEq, Int.toNat_natCast, t0, t2, t3, q4]
    refine cut_done 15 (by have e := pur g3; subst e; (first | rfl | (simp only [go_sem, ↓reduceIte, Nat.reduceEqDiff, Nat.reduceAdd, Nat.reduceMul, Nat.reduceLeDiff, Nat.reduceLT, Int.reduceEq, Int.toNat_natCast, q4]; done) | (simp only [go_sem, ↓reduceIte, Nat.reduceEqDiff, Nat.reduceAdd, Nat.reduceMul, Nat.reduceLeDiff, Nat.reduceLT, Int.reduceEq, Int.toNat_natCast, q4]; simp_all [upd_app]) | simp_all [upd_app])) ?_
    (repeat (first | refine agree_upd (by decide) ?_ | refine agree_low (by decide) ?_)) <;> (repeat (first | refine agree_updR (by decide) ?_ | refine agree_lowR (by decide) ?_)) <;> exact fun _ _ _ => rfl
  try simp only [go_sem, ↓reduceIte, Nat.reduceEqDiff, Nat.reduceAdd, Nat.reduceMul, Nat.reduceLeDiff, Nat.reduceLT, Int.reduceEq, Int.toNat_natCast, t0, t2, t3]
  refine aCnd_b x17 rfl (fun h => ?_) (fun h => ?_)
  · rw [if_pos h] at H
    obtain ⟨x22, hx22, H⟩ := bnd H
    try simp only [go_sem, ↓reduceIte, Nat.reduceEqDiff, Nat.reduceAdd, Nat.reduceMul, Nat.reduceLeDiff, Nat.reduceLT, Int.reduceEq, Int.toNat_natCast, t0, t2, t3, aindex_sidx hx22]
    obtain ⟨x25, hx25, H⟩ := bnd H
    refine aCall_pure (spec_l1Letter_ok x22 (decide (z0t_3 = 0)) _ hx25) (WkVL.refl _) ?_
    try simp only [go_sem, ↓reduceIte, Nat.reduceEqDiff, Nat.reduceAdd, Nat.reduceMul, Nat.reduceLeDiff, Nat.reduceLT, Int.reduceEq, Int.toNat_natCast, t0, t2, t3]
    refine aCnd_b (!x25) rfl (fun h => ?_) (fun h => ?_)
    · rw [if_pos h] at H
      try simp only [go_sem, ↓reduceIte, Nat.reduceEqDiff, Nat.reduceAdd, Nat.reduceMul, Nat.reduceLeDiff, Nat.reduceLT, Int.reduceEq, Int.toNat_natCast, t0, t2, t3]
      exact hR _ (pur H).symm _ (fx_ret (vs := [.bool false]) (by first | (simp only [go_sem, ↓reduceIte, Nat.reduceEqDiff, Nat.reduceAdd, Nat.reduceMul, Nat.reduceLeDiff, Nat.reduceLT, Int.reduceEq, Int.toNat_natCast, t0, t2, t3]; done) | rfl | (simp only [go_sem, ↓reduceIte, Nat.reduceEqDiff, Nat.reduceAdd, Nat.reduceMul, Nat.reduceLeDiff, Nat.reduceLT, Int.reduceEq, Int.toNat_natCast, t0, t2, t3]; rfl)) (hF.wk0 _))
    · rw [if_neg h] at H
      try simp only [go_sem, ↓reduceIte, Nat.reduceEqDiff, Nat.reduceAdd, Nat.reduceMul, Nat.reduceLeDiff, Nat.reduceLT, Int.reduceEq, Int.toNat_natCast, t0, t2, t3]
      exact IH  (IntKind.i64.wrap (z0t_3 + 1)) _ H _ rfl Q τ  hE hR _ _  (by first | (simp only [go_sem, ↓reduceIte, Nat.reduceEqDiff, Nat.reduceAdd, Nat.reduceMul, Nat.reduceLeDiff, Nat.reduceLT, Int.reduceEq, Int.toNat_natCast, t0, t2, t3]; done) | rfl | (simp only [go_sem, ↓reduceIte, Nat.reduceEqDiff, Nat.reduceAdd, Nat.reduceMul, Nat.reduceLeDiff, Nat.reduceLT, Int.reduceEq, Int.toNat_natCast, t0, t2, t3]; rfl)) (by first | (simp only [go_sem, ↓reduceIte, Nat.reduceEqDiff, Nat.reduceAdd, Nat.reduceMul, Nat.reduceLeDiff, Nat.reduceLT, Int.reduceEq, Int.toNat_natCast, t0, t2, t3]; done) | rfl | (simp only [go_sem, ↓reduceIte, Nat.reduceEqDiff, Nat.reduceAdd, Nat.reduceMul, Nat.reduceLeDiff, Nat.reduceLT, Int.reduceEq, Int.toNat_natCast, t0, t2, t3]; rfl)) (by first | (simp only [go_sem, ↓reduceIte, Nat.reduceEqDiff, Nat.reduceAdd, Nat.reduceMul, Nat.reduceLeDiff, Nat.reduceLT, Int.reduceEq, Int.toNat_natCast, t0, t2, t3]; done) | rfl | (simp only [go_sem, ↓reduceIte, Nat.reduceEqDiff, Nat.reduceAdd, Nat.reduceMul, Nat.reduceLeDiff, Nat.reduceLT, Int.reduceEq, Int.toNat_natCast, t0, t2, t3]; rfl)) hF
  · rw [if_neg h] at H
    try simp only [go_sem, ↓reduceIte, Nat.reduceEqDiff, Nat.reduceAdd, Nat.reduceMul, Nat.reduceLeDiff, Nat.reduceLT, Int.reduceEq, Int.toNat_natCast, t0, t2, t3]
    exact hE () (pur H).symm _ _  (by first | (simp only [go_sem, ↓reduceIte, Nat.reduceEqDiff, Nat.reduceAdd, Nat.reduceMul, Nat.reduceLeDiff, Nat.reduceLT, Int.reduceEq, Int.toNat_natCast, t0, t2, t3]; done) | rfl | (simp only [go_sem, ↓reduceIte, Nat.reduceEqDiff, Nat.reduceAdd, Nat.reduceMul, Nat.reduceLeDiff, Nat.reduceLT, Int.reduceEq, Int.toNat_natCast, t0, t2, t3]; rfl)) (by first | (simp only [go_sem, ↓reduceIte, Nat.reduceEqDiff, Nat.reduceAdd, Nat.reduceMul, Nat.reduceLeDiff, Nat.reduceLT, Int.reduceEq, Int.toNat_natCast, t0, t2, t3]; done) | rfl | (simp only [go_sem, ↓reduceIte, Nat.reduceEqDiff, Nat.reduceAdd, Nat.reduceMul, Nat.reduceLeDiff, Nat.reduceLT, Int.reduceEq, Int.toNat_natCast, t0, t2, t3]; rfl)) hF
theorem spec_NameValid_ok : ∀ (a0 : ByteArray) r, spec_NameValid a0 = some r → PCtr Try.prog 28 [.str a0] (.bool r) := by
  intro a0 r H
  intro σ
  unfold spec_NameValid at H
  refine ctr_of mixed Try.func28 rfl (by kernel_rfl) (rs := [.tmp 2]) rfl (by kernel_rfl) ?_
  have hF := Fx.refl σ
  have hX := Tau.none σ
  try simp only [go_sem, ↓reduceIte, Nat.reduceEqDiff, Nat.reduceAdd, Nat.reduceMul, Nat.reduceLeDiff, Nat.reduceLT, Int.reduceEq, Int.toNat_natCast]
  obtain ⟨x9, g1, H⟩ := bnd H
  refine aGd_cutN 2 7 9 (.bool x9) (aGd_introN (fun q2 => ?_) (fun q2 => ?_)) (fun J => ?_)
  · try simp only [go_sem, ↓reduceIte, Nat.reduceEqDiff, Nat.reduceAdd, Nat.reduceMul, Nat.reduceLeDiff, Nat.reduceLT, Int.reduceEq, Int.toNat_natCast, q2]
    refine cut_done 7 (by have e := pur g1; subst e; (first | rfl | (simp only [go_sem, ↓reduceIte, Nat.reduceEqDiff, Nat.reduceAdd, Nat.reduceMul, Nat.reduceLeDiff, Nat.reduceLT, Int.reduceEq, Int.toNat_natCast, q2]; done) | (simp only [go_sem, ↓reduceIte, Nat.reduceEqDiff, Nat.reduceAdd, Nat.reduceMul, Nat.reduceLeDiff, Nat.reduceLT, Int.reduceEq, Int.toNat_natCast, q2]; simp_all [upd_app]) | simp_all [upd_app])) ?_
    (repeat (first | refine agree_upd (by decide) ?_ | refine agree_low (by decide) ?_)) <;> (repeat (first | refine agree_updR (by decide) ?_ | refine agree_lowR (by decide) ?_)) <;> exact fun _ _ _ => rfl
  · try simp only [go_sem, ↓reduceIte, Nat.reduceEqDiff, Nat.reduceAdd, Nat.reduceMul, Nat.reduceLeDiff, Nat.reduceLT, Int.reduceEq, Int.toNat_natCast, q2]
    refine cut_done 7 (by have e := pur g1; subst e; (first | rfl | (simp only [go_sem, ↓reduceIte, Nat.reduceEqDiff, Nat.reduceAdd, Nat.reduceMul, Nat.reduceLeDiff, Nat.reduceLT, Int.reduceEq, Int.toNat_natCast, q2]; done) | (simp only [go_sem, ↓reduceIte, Nat.reduceEqDiff, Nat.reduceAdd, Nat.reduceMul, Nat.reduceLeDiff, Nat.reduceLT, Int.reduceEq, Int.toNat_natCast, q2]; simp_all [upd_app]) | simp_all [upd_app])) ?_
    (repeat (first | refine agree_upd (by decide) ?_ | refine agree_low (by decide) ?_)) <;> (repeat (first | refine agree_updR (by decide) ?_ | refine agree_lowR (by decide) ?_)) <;> exact fun _ _ _ => rfl
  try simp only [go_sem, ↓reduceIte, Nat.reduceEqDiff, Nat.reduceAdd, Nat.reduceMul, Nat.reduceLeDiff, Nat.reduceLT, Int.reduceEq, Int.toNat_natCast]
  refine aCnd_b x9 rfl (fun h => ?_) (fun h => ?_)
  · rw [if_pos h] at H
    try simp only [go_sem, ↓reduceIte, Nat.reduceEqDiff, Nat.reduceAdd, Nat.reduceMul, Nat.reduceLeDiff, Nat.reduceLT, Int.reduceEq, Int.toNat_natCast]
    have e := pur H; subst e
    exact fx_ret (vs := [.bool true]) (by first | (simp only [go_sem, ↓reduceIte, Nat.reduceEqDiff, Nat.reduceAdd, Nat.reduceMul, Nat.reduceLeDiff, Nat.reduceLT, Int.reduceEq, Int.toNat_natCast]; done) | rfl | (simp only [go_sem, ↓reduceIte, Nat.reduceEqDiff, Nat.reduceAdd, Nat.reduceMul, Nat.reduceLeDiff, Nat.reduceLT, Int.reduceEq, Int.toNat_natCast]; rfl)) (hF.wk0 _)
  · rw [if_neg h] at H
    try simp only [go_sem, ↓reduceIte, Nat.reduceEqDiff, Nat.reduceAdd, Nat.reduceMul, Nat.reduceLeDiff, Nat.reduceLT, Int.reduceEq, Int.toNat_natCast]
    obtain ⟨o5, ho5, H⟩ := bnd H
    refine spec_NameValid_l0_ok a0 0 _ ho5 _ rfl _ _  ?_ ?_ _ _  (by first | (simp only [go_sem, ↓reduceIte, Nat.reduceEqDiff, Nat.reduceAdd, Nat.reduceMul, Nat.reduceLeDiff, Nat.reduceLT, Int.reduceEq, Int.toNat_natCast]; done) | rfl | (simp only [go_sem, ↓reduceIte, Nat.reduceEqDiff, Nat.reduceAdd, Nat.reduceMul, Nat.reduceLeDiff, Nat.reduceLT, Int.reduceEq, Int.toNat_natCast]; rfl)) (by first | (simp only [go_sem, ↓reduceIte, Nat.reduceEqDiff, Nat.reduceAdd, Nat.reduceMul, Nat.reduceLeDiff, Nat.reduceLT, Int.reduceEq, Int.toNat_natCast]; done) | rfl | (simp only [go_sem, ↓reduceIte, Nat.reduceEqDiff, Nat.reduceAdd, Nat.reduceMul, Nat.reduceLeDiff, Nat.reduceLT, Int.reduceEq, Int.toNat_natCast]; rfl)) (by first | (simp only [go_sem, ↓reduceIte, Nat.reduceEqDiff, Nat.reduceAdd, Nat.reduceMul, Nat.reduceLeDiff, Nat.reduceLT, Int.reduceEq, Int.toNat_natCast]; done) | rfl | (simp only [go_sem, ↓reduceIte, Nat.reduceEqDiff, Nat.reduceAdd, Nat.reduceMul, Nat.reduceLeDiff, Nat.reduceLT, Int.reduceEq, Int.toNat_natCast]; rfl)) hF
    · intro _ he T7 σ8 t0 t2 hF
      have he := he.symm
      subst he
      dsimp only at H
      try simp only [go_sem, ↓reduceIte, Nat.reduceEqDiff, Nat.reduceAdd, Nat.reduceMul, Nat.reduceLeDiff, Nat.reduceLT, Int.reduceEq, Int.toNat_natCast, t0, t2]
      obtain ⟨x34, g10, H⟩ := bnd H
      refine aGd_cutN 3 31 34 (.bool x34) (aGd_intro (fun q11 => ?_) (fun q11 => ?_)) (fun J => ?_)
      · try simp only [go_sem, ↓reduceIte, Nat.reduceEqDiff, Nat.reduceAdd, Nat.reduceMul, Nat.reduceLeDiff, Nat.reduceLT, Int.reduceEq, Int.toNat_natCast, t0, t2, q11]
        refine cut_done 31 (by have e := pur g10; subst e; (first | rfl | (simp only [go_sem, ↓reduceIte, Nat.reduceEqDiff, Nat.reduceAdd, Nat.reduceMul, Nat.reduceLeDiff, Nat.reduceLT, Int.reduceEq, Int.toNat_natCast, q11]; done) | (simp only [go_sem, ↓reduceIte, Nat.reduceEqDiff, Nat.reduceAdd, Nat.reduceMul, Nat.reduceLeDiff, Nat.reduceLT, Int.reduceEq, Int.toNat_natCast, q11]; simp_all [upd_app]) | simp_all [upd_app])) ?_
        (repeat (first | refine agree_upd (by decide) ?_ | refine agree_low (by decide) ?_)) <;> (repeat (first | refine agree_updR (by decide) ?_ | refine agree_lowR (by decide) ?_)) <;> exact fun _ _ _ => rfl
      · try simp only [go_sem, ↓reduceIte, Nat.reduceEqDiff, Nat.reduceAdd, Nat.reduceMul, Nat.reduceLeDiff, Nat.reduceLT, Int.reduceEq, Int.toNat_natCast, t0, t2, q11]
        refine cut_done 31 (by have e := pur g10; subst e; (first | rfl | (simp only [go_sem, ↓reduceIte, Nat.reduceEqDiff, Nat.reduceAdd, Nat.reduceMul, Nat.reduceLeDiff, Nat.reduceLT, Int.reduceEq, Int.toNat_natCast, q11]; done) | (simp only [go_sem, ↓reduceIte, Nat.reduceEqDiff, Nat.reduceAdd, Nat.reduceMul, Nat.reduceLeDiff, Nat.reduceLT, Int.reduceEq, Int.toNat_natCast, q11]; simp_all [upd_app]) | simp_all [upd_app])) ?_
        (repeat (first | refine agree_upd (by decide) ?_ | refine agree_low (by decide) ?_)) <;> (repeat (first | refine agree_updR (by decide) ?_ | refine agree_lowR (by decide) ?_)) <;> exact fun _ _ _ => rfl
      try simp only [go_sem, ↓reduceIte, Nat.reduceEqDiff, Nat.reduceAdd, Nat.reduceMul, Nat.reduceLeDiff, Nat.reduceLT, Int.reduceEq, Int.toNat_natCast, t0, t2]
      have e := pur H; subst e
      exact fx_ret (vs := [.bool x34]) (by first | (simp only [go_sem, ↓reduceIte, Nat.reduceEqDiff, Nat.reduceAdd, Nat.reduceMul, Nat.reduceLeDiff, Nat.reduceLT, Int.reduceEq, Int.toNat_natCast, t0, t2]; done) | rfl | (simp only [go_sem, ↓reduceIte, Nat.reduceEqDiff, Nat.reduceAdd, Nat.reduceMul, Nat.reduceLeDiff, Nat.reduceLT, Int.reduceEq, Int.toNat_natCast, t0, t2]; rfl)) (hF.wk0 _)
    · intro r hr s' hs
      subst hr
      have e := pur H; subst e
      first | exact hs | (try simp only [Fm.cells_eq] at hs ⊢; exact hs)
theorem spec_l1Scopes_l0_ok : ∀ (a0 : List Int) (z0t_3 : Int) out, spec_l1Scopes_l0 a0 z0t_3 = some out → ∀ c, loopAt Try.f49 0 = some c → ∀ (Q : AX → AS → Prop) (τ : Sto), (∀ (_u : Unit), out = Sum.inr () → ∀ (T : Nat → AV) (σ : Sto), T 0 = .sl false (rws cI a0) → T 2 = .bool false → Fx τ σ [] [] → Q (.ex 0) ⟨T, σ⟩) → (∀ r, out = Sum.inl r → ∀ s', aRet Try.prog [.tmp 2] (fun r' σ' => r' = .bool r ∧ σ' = τ) s' → Q .ret s') → ∀ (T : Nat → AV) (σ : Sto), T 0 = .sl false (rws cI a0) → T 2 = .bool false → T 3 = .int .i64 z0t_3 → Fx τ σ [] [] → aLoop (acode Try.prog c) Q ⟨T, σ⟩ := by
  intro a0 z0t_3
  revert z0t_3
  refine spec_l1Scopes_l0.partial_correctness a0 _ ?_
  intro spec_l1Scopes_l0 IH z0t_3 out H c hc Q τ  hE hR T σ t0 t2 t3 hF
  obtain rfl := Option.some.inj ((rfl : loopAt Try.f49 0 = some _).symm.trans hc)
  refine aLoop_round ?_
  try simp only [go_sem, ↓reduceIte, Nat.reduceEqDiff, Nat.reduceAdd, Nat.reduceMul, Nat.reduceLeDiff, Nat.reduceLT, Int.reduceEq, Int.toNat_natCast, t0, t2, t3]
  obtain ⟨x11, g1, H⟩ := bnd H
  refine aGd_cutN 2 9 11 (.bool x11) (aGd_intro (fun q2 => ?_) (fun q2 => ?_)) (fun J => ?_)
  · try simp only [go_sem, ↓reduceIte, Nat.reduceEqDiff, Nat.reduceAdd, Nat.reduceMul, Nat.reduceLeDiff, Nat.reduceLT, Int.reduceEq, Int.toNat_natCast, t0, t2, t3, q2]
    refine cut_done 9 (by have e := pur g1; subst e; (first | rfl | (simp only [go_sem, ↓reduceIte, Nat.reduceEqDiff, Nat.reduceAdd, Nat.reduceMul, Nat.reduceLeDiff, Nat.reduceLT, Int.reduceEq, Int.toNat_natCast, q2]; done) | (simp only [go_sem, ↓reduceIte, Nat.reduceEqDiff, Nat.reduceAdd, Nat.reduceMul, Nat.reduceLeDiff, Nat.reduceLT, Int.reduceEq, Int.toNat_natCast, q2]; simp_all [upd_app]) | simp_all [upd_app])) ?_
    (repeat (first | refine agree_upd (by decide) ?_ | refine agree_low (by decide) ?_)) <;> (repeat (first | refine agree_updR (by decide) ?_ | refine agree_lowR (by decide) ?_)) <;> exact fun _ _ _ => rfl
  · try simp only [go_sem, ↓reduceIte, Nat.reduceEqDiff, Nat.reduceAdd, Nat.reduceMul, Nat.reduceLeDiff, Nat.reduceLT, Int.reduceEq, Int.toNat_natCast, t0, t2, t3, q2]
    refine cut_done 9 (by have e := pur g1; subst e; (first | rfl | (simp only [go_sem, ↓reduceIte, Nat.reduceEqDiff, Nat.reduceAdd, Nat.reduceMul, Nat.reduceLeDiff, Nat.reduceLT, Int.reduceEq, Int.toNat_natCast, q2]; done) | (simp only [go_sem, ↓reduceIte, Nat.reduceEqDiff, Nat.reduceAdd, Nat.reduceMul, Nat.reduceLeDiff, Nat.reduceLT, Int.reduceEq, Int.toNat_natCast, q2]; simp_all [upd_app]) | simp_all [upd_app])) ?_
    (repeat (first | refine agree_upd (by decide) ?_ | refine agree_low (by decide) ?_)) <;> (repeat (first | refine agree_updR (by decide) ?_ | refine agree_lowR (by decide) ?_)) <;> exact fun _ _ _ => rfl
  try simp only [go_sem, ↓reduceIte, Nat.reduceEqDiff, Nat.reduceAdd, Nat.reduceMul, Nat.reduceLeDiff, Nat.reduceLT, Int.reduceEq, Int.toNat_natCast, t0, t2, t3]
  refine aCnd_b x11 rfl (fun h => ?_) (fun h => ?_)
  · rw [if_pos h] at H
    try simp only [go_sem, ↓reduceIte, Nat.reduceEqDiff, Nat.reduceAdd, Nat.reduceMul, Nat.reduceLeDiff, Nat.reduceLT, Int.reduceEq, Int.toNat_natCast, t0, t2, t3]
    refine draw_text E0 [.v, .v, .v, .v, .v, .v, .v, .v, .v, .v, .v, .v, .v, .v, .v, .v, .v, .v, .v, .v, .v, .v, .v, .v, .v, .v, .v, .v] (by kernel_rfl) ?_
    obtain ⟨x16, hx16, H⟩ := bnd H
    try simp only [go_sem, ↓reduceIte, Nat.reduceEqDiff, Nat.reduceAdd, Nat.reduceMul, Nat.reduceLeDiff, Nat.reduceLT, Int.reduceEq, Int.toNat_natCast, t0, t2, t3, aidx_idx (g := cI) (fun _ => rfl) hx16]
    obtain ⟨x25, g3, H⟩ := bnd H
    refine tGd_cutN 5 20 25 (.bool x25) (tGd_introN (fun q4 => ?_) (fun q4 => ?_)) (fun J => ?_)
    · rw [if_neg (of_decide_eq_false q4)] at g3
      obtain ⟨x22, hx22, g3⟩ := bnd g3
      try simp only [go_sem, ↓reduceIte, Nat.reduceEqDiff, Nat.reduceAdd, Nat.reduceMul, Nat.reduceLeDiff, Nat.reduceLT, Int.reduceEq, Int.toNat_natCast, t0, t2, t3, q4, aidx_idx (g := cI) (fun _ => rfl) hx22]
      refine cut_done 20 (by have e := pur g3; subst e; (first | rfl | (simp only [go_sem, ↓reduceIte, Nat.reduceEqDiff, Nat.reduceAdd, Nat.reduceMul, Nat.reduceLeDiff, Nat.reduceLT, Int.reduceEq, Int.toNat_natCast, q4]; done) | (simp only [go_sem, ↓reduceIte, Nat.reduceEqDiff, Nat.reduceAdd, Nat.reduceMul, Nat.reduceLeDiff, Nat.reduceLT, Int.reduceEq, Int.toNat_natCast, q4]; simp_all [upd_app]) | simp_all [upd_app])) ?_
      (repeat (first | refine agree_upd (by decide) ?_ | refine agree_low (by decide) ?_)) <;> (repeat (first | refine agree_updR (by decide) ?_ | refine agree_lowR (by decide) ?_)) <;> exact fun _ _ _ => rfl
    · rw [if_pos (of_decide_eq_true q4)] at g3
      try simp only [go_sem, ↓reduceIte, Nat.reduceEqDiff, Nat.reduceAdd, Nat.reduceMul, Nat.reduceLeDiff, Nat.reduceLT, Int.reduceEq, Int.toNat_natCast, t0, t2, t3, q4]
      refine cut_done 20 (by have e := pur g3; subst e; (first | rfl | (simp only [go_sem, ↓reduceIte, Nat.reduceEqDiff, Nat.reduceAdd, Nat.reduceMul, Nat.reduceLeDiff, Nat.reduceLT, Int.reduceEq, Int.toNat_natCast, q4]; done) | (simp only [go_sem, ↓reduceIte, Nat.reduceEqDiff, Nat.reduceAdd, Nat.reduceMul, Nat.reduceLeDiff, Nat.reduceLT, Int.reduceEq, Int.toNat_natCast, q4]; simp_all [upd_app]) | simp_all [upd_app])) ?_
      (repeat (first | refine agree_upd (by decide) ?_ | refine agree_low (by decide) ?_)) <;> (repeat (first | refine agree_updR (by decide) ?_ | refine agree_lowR (by decide) ?_)) <;> exact fun _ _ _ => rfl
    try simp only [go_sem, ↓reduceIte, Nat.reduceEqDiff, Nat.reduceAdd, Nat.reduceMul, Nat.reduceLeDiff, Nat.reduceLT, Int.reduceEq, Int.toNat_natCast, t0, t2, t3]
    obtain ⟨x41, g5, H⟩ := bnd H
    refine tGd_cutN 14 27 41 (.bool x41) (tGd_introN (fun q6 => ?_) (fun q6 => ?_)) (fun J => ?_)
    · rw [if_neg (b_f q6)] at g5
      try simp only [go_sem, ↓reduceIte, Nat.reduceEqDiff, Nat.reduceAdd, Nat.reduceMul, Nat.reduceLeDiff, Nat.reduceLT, Int.reduceEq, Int.toNat_natCast, t0, t2, t3, q6]
      obtain ⟨x40, g7, g5⟩ := bnd g5
      refine tGd_cutN 10 30 40 (.bool x40) (tGd_intro (fun q8 => ?_) (fun q8 => ?_)) (fun J => ?_)
      · rw [if_pos (of_decide_eq_true q8)] at g7
        obtain ⟨x32, hx32, g7⟩ := bnd g7
        obtain ⟨x37, hx37, g7⟩ := bnd g7
        try simp only [go_sem, ↓reduceIte, Nat.reduceEqDiff, Nat.reduceAdd, Nat.reduceMul, Nat.reduceLeDiff, Nat.reduceLT, Int.reduceEq, Int.toNat_natCast, t0, t2, t3, q6, q8, aidx_idx (g := cI) (fun _ => rfl) hx32, aidx_idx (g := cI) (fun _ => rfl) hx37]
        refine cut_done 30 (by have e := pur g7; subst e; (first | rfl | (simp only [go_sem, ↓reduceIte, Nat.reduceEqDiff, Nat.reduceAdd, Nat.reduceMul, Nat.reduceLeDiff, Nat.reduceLT, Int.reduceEq, Int.toNat_natCast, q6, q8]; done) | (simp only [go_sem, ↓reduceIte, Nat.reduceEqDiff, Nat.reduceAdd, Nat.reduceMul, Nat.reduceLeDiff, Nat.reduceLT, Int.reduceEq, Int.toNat_natCast, q6, q8]; simp_all [upd_app]) | simp_all [upd_app])) ?_
        (repeat (first | refine agree_upd (by decide) ?_ | refine agree_low (by decide) ?_)) <;> (repeat (first | refine agree_updR (by decide) ?_ | refine agree_lowR (by decide) ?_)) <;> exact fun _ _ _ => rfl
      · rw [if_neg (of_decide_eq_false q8)] at g7
        try simp only [go_sem, ↓reduceIte, Nat.reduceEqDiff, Nat.reduceAdd, Nat.reduceMul, Nat.reduceLeDiff, Nat.reduceLT, Int.reduceEq, Int.toNat_natCast, t0, t2, t3, q6, q8]
        refine cut_done 30 (by have e := pur g7; subst e; (first | rfl | (simp only [go_sem, ↓reduceIte, Nat.reduceEqDiff, Nat.reduceAdd, Nat.reduceMul, Nat.reduceLeDiff, Nat.reduceLT, Int.reduceEq, Int.toNat_natCast, q6, q8]; done) | (simp only [go_sem, ↓reduceIte, Nat.reduceEqDiff, Nat.reduceAdd, Nat.reduceMul, Nat.reduceLeDiff, Nat.reduceLT, Int.reduceEq, Int.toNat_natCast, q6, q8]; simp_all [upd_app]) | simp_all [upd_app])) ?_
        (repeat (first | refine agree_upd (by decide) ?_ | refine agree_low (by decide) ?_)) <;> (repeat (first | refine agree_updR (by decide) ?_ | refine agree_lowR (by decide) ?_)) <;> exact fun _ _ _ => rfl
      try simp only [go_sem, ↓reduceIte, Nat.reduceEqDiff, Nat.reduceAdd, Nat.reduceMul, Nat.reduceLeDiff, Nat.reduceLT, Int.reduceEq, Int.toNat_natCast, t0, t2, t3, q6]
      refine cut_done 27 (by have e := pur g5; subst e; (first | rfl | (simp only [go_sem, ↓reduceIte, Nat.reduceEqDiff, Nat.reduceAdd, Nat.reduceMul, Nat.reduceLeDiff, Nat.reduceLT, Int.reduceEq, Int.toNat_natCast, q6]; done) | (simp only [go_sem, ↓reduceIte, Nat.reduceEqDiff, Nat.reduceAdd, Nat.reduceMul, Nat.reduceLeDiff, Nat.reduceLT, Int.reduceEq, Int.toNat_natCast, q6]; simp_all [upd_app]) | simp_all [upd_app])) ?_
      (repeat (first | refine agree_upd (by decide) ?_ | refine agree_low (by decide) ?_)) <;> (repeat (first | refine agree_updR (by decide) ?_ | refine agree_lowR (by decide) ?_)) <;> exact fun _ _ _ => rfl
    · rw [if_pos (q6)] at g5
      try simp only [go_sem, ↓reduceIte, Nat.reduceEqDiff, Nat.reduceAdd, Nat.reduceMul, Nat.reduceLeDiff, Nat.reduceLT, Int.reduceEq, Int.toNat_natCast, t0, t2, t3, q6]
      refine cut_done 27 (by have e := pur g5; subst e; (first | rfl | (simp only [go_sem, ↓reduceIte, Nat.reduceEqDiff, Nat.reduceAdd, Nat.reduceMul, Nat.reduceLeDiff, Nat.reduceLT, Int.reduceEq, Int.toNat_natCast, q6]; done) | (simp only [go_sem, ↓reduceIte, Nat.reduceEqDiff, Nat.reduceAdd, Nat.reduceMul, Nat.reduceLeDiff, Nat.reduceLT, Int.reduceEq, Int.toNat_natCast, q6]; simp_all [upd_app]) | simp_all [upd_app])) ?_
      (repeat (first | refine agree_upd (by decide) ?_ | refine agree_low (by decide) ?_)) <;> (repeat (first | refine agree_updR (by decide) ?_ | refine agree_lowR (by decide) ?_)) <;> exact fun _ _ _ => rfl
    try simp only [go_sem, ↓reduceIte, Nat.reduceEqDiff, Nat.reduceAdd, Nat.reduceMul, Nat.reduceLeDiff, Nat.reduceLT, Int.reduceEq, Int.toNat_natCast, t0, t2, t3]
    refine aCnd_b x41 rfl (fun h => ?_) (fun h => ?_)
    · rw [if_pos h] at H
      try simp only [go_sem, ↓reduceIte, Nat.reduceEqDiff, Nat.reduceAdd, Nat.reduceMul, Nat.reduceLeDiff, Nat.reduceLT, Int.reduceEq, Int.toNat_natCast, t0, t2, t3]
      exact hR _ (pur H).symm _ (fx_ret (vs := [.bool false]) (by first | (simp only [go_sem, ↓reduceIte, Nat.reduceEqDiff, Nat.reduceAdd, Nat.reduceMul, Nat.reduceLeDiff, Nat.reduceLT, Int.reduceEq, Int.toNat_natCast, t0, t2, t3]; done) | rfl | (simp only [go_sem, ↓reduceIte, Nat.reduceEqDiff, Nat.reduceAdd, Nat.reduceMul, Nat.reduceLeDiff, Nat.reduceLT, Int.reduceEq, Int.toNat_natCast, t0, t2, t3]; rfl)) (hF.wk0 _))
    · rw [if_neg h] at H
      try simp only [go_sem, ↓reduceIte, Nat.reduceEqDiff, Nat.reduceAdd, Nat.reduceMul, Nat.reduceLeDiff, Nat.reduceLT, Int.reduceEq, Int.toNat_natCast, t0, t2, t3]
      exact IH  (IntKind.i64.wrap (z0t_3 + 1)) _ H _ rfl Q τ  hE hR _ _  (by first | (simp only [go_sem, ↓reduceIte, Nat.reduceEqDiff, Nat.reduceAdd, Nat.reduceMul, Nat.reduceLeDiff, Nat.reduceLT, Int.reduceEq, Int.toNat_natCast, t0, t2, t3]; done) | rfl | (simp only [go_sem, ↓reduceIte, Nat.reduceEqDiff, Nat.reduceAdd, Nat.reduceMul, Nat.reduceLeDiff, Nat.reduceLT, Int.reduceEq, Int.toNat_natCast, t0, t2, t3]; rfl)) (by first | (simp only [go_sem, ↓reduceIte, Nat.reduceEqDiff, Nat.reduceAdd, Nat.reduceMul, Nat.reduceLeDiff, Nat.reduceLT, Int.reduceEq, Int.toNat_natCast, t0, t2, t3]; done) | rfl | (simp only [go_sem, ↓reduceIte, Nat.reduceEqDiff, Nat.reduceAdd, Nat.reduceMul, Nat.reduceLeDiff, Nat.reduceLT, Int.reduceEq, Int.toNat_natCast, t0, t2, t3]; rfl)) (by first | (simp only [go_sem, ↓reduceIte, Nat.reduceEqDiff, Nat.reduceAdd, Nat.reduceMul, Nat.reduceLeDiff, Nat.reduceLT, Int.reduceEq, Int.toNat_natCast, t0, t2, t3]; done) | rfl | (simp only [go_sem, ↓reduceIte, Nat.reduceEqDiff, Nat.reduceAdd, Nat.reduceMul, Nat.reduceLeDiff, Nat.reduceLT, Int.reduceEq, Int.toNat_natCast, t0, t2, t3]; rfl)) hF
  · rw [if_neg h] at H
    try simp only [go_sem, ↓reduceIte, Nat.reduceEqDiff, Nat.reduceAdd, Nat.reduceMul, Nat.reduceLeDiff, Nat.reduceLT, Int.reduceEq, Int.toNat_natCast, t0, t2, t3]
    exact hE () (pur H).symm _ _  (by first | (simp only [go_sem, ↓reduceIte, Nat.reduceEqDiff, Nat.reduceAdd, Nat.reduceMul, Nat.reduceLeDiff, Nat.reduceLT, Int.reduceEq, Int.toNat_natCast, t0, t2, t3]; done) | rfl | (simp only [go_sem, ↓reduceIte, Nat.reduceEqDiff, Nat.reduceAdd, Nat.reduceMul, Nat.reduceLeDiff, Nat.reduceLT, Int.reduceEq, Int.toNat_natCast, t0, t2, t3]; rfl)) (by first | (simp only [go_sem, ↓reduceIte, Nat.reduceEqDiff, Nat.reduceAdd, Nat.reduceMul, Nat.reduceLeDiff, Nat.reduceLT, Int.reduceEq, Int.toNat_natCast, t0, t2, t3]; done) | rfl | (simp only [go_sem, ↓reduceIte, Nat.reduceEqDiff, Nat.reduceAdd, Nat.reduceMul, Nat.reduceLeDiff, Nat.reduceLT, Int.reduceEq, Int.toNat_natCast, t0, t2, t3]; rfl)) hF
theorem spec_l1Scopes_ok : ∀ (a0 : List Int) r, spec_l1Scopes a0 = some r → PCtr Try.prog 49 [.sl false (rws cI a0)] (.bool r) := by
  intro a0 r H
  intro σ
  unfold spec_l1Scopes at H
  refine ctr_of mixed Try.func49 rfl (by kernel_rfl) (rs := [.tmp 2]) rfl (by kernel_rfl) ?_
  have hF := Fx.refl σ
  have hX := Tau.none σ
  try simp only [go_sem, ↓reduceIte, Nat.reduceEqDiff, Nat.reduceAdd, Nat.reduceMul, Nat.reduceLeDiff, Nat.reduceLT, Int.reduceEq, Int.toNat_natCast]
  obtain ⟨o9, ho9, H⟩ := bnd H
  refine spec_l1Scopes_l0_ok a0 0 _ ho9 _ rfl _ _  ?_ ?_ _ _  (by first | (simp only [go_sem, ↓reduceIte, Nat.reduceEqDiff, Nat.reduceAdd, Nat.reduceMul, Nat.reduceLeDiff, Nat.reduceLT, Int.reduceEq, Int.toNat_natCast]; done) | rfl | (simp only [go_sem, ↓reduceIte, Nat.reduceEqDiff, Nat.reduceAdd, Nat.reduceMul, Nat.reduceLeDiff, Nat.reduceLT, Int.reduceEq, Int.toNat_natCast]; rfl)) (by first | (simp only [go_sem, ↓reduceIte, Nat.reduceEqDiff, Nat.reduceAdd, Nat.reduceMul, Nat.reduceLeDiff, Nat.reduceLT, Int.reduceEq, Int.toNat_natCast]; done) | rfl | (simp only [go_sem, ↓reduceIte, Nat.reduceEqDiff, Nat.reduceAdd, Nat.reduceMul, Nat.reduceLeDiff, Nat.reduceLT, Int.reduceEq, Int.toNat_natCast]; rfl)) (by first | (simp only [go_sem, ↓reduceIte, Nat.reduceEqDiff, Nat.reduceAdd, Nat.reduceMul, Nat.reduceLeDiff, Nat.reduceLT, Int.reduceEq, Int.toNat_natCast]; done) | rfl | (simp only [go_sem, ↓reduceIte, Nat.reduceEqDiff, Nat.reduceAdd, Nat.reduceMul, Nat.reduceLeDiff, Nat.reduceLT, Int.reduceEq, Int.toNat_natCast]; rfl)) hF
  · intro _ he T11 σ12 t0 t2 hF
    have he := he.symm
    subst he
    dsimp only at H
    try simp only [go_sem, ↓reduceIte, Nat.reduceEqDiff, Nat.reduceAdd, Nat.reduceMul, Nat.reduceLeDiff, Nat.reduceLT, Int.reduceEq, Int.toNat_natCast, t0, t2]
    have e := pur H; subst e
    exact fx_ret (vs := [.bool (decide ((a0.length : Int) ≤ 24))]) (by first | (simp only [go_sem, ↓reduceIte, Nat.reduceEqDiff, Nat.reduceAdd, Nat.reduceMul, Nat.reduceLeDiff, Nat.reduceLT, Int.reduceEq, Int.toNat_natCast, t0, t2]; done) | rfl | (simp only [go_sem, ↓reduceIte, Nat.reduceEqDiff, Nat.reduceAdd, Nat.reduceMul, Nat.reduceLeDiff, Nat.reduceLT, Int.reduceEq, Int.toNat_natCast, t0, t2]; rfl)) (hF.wk0 _)
  · intro r hr s' hs
    subst hr
    have e := pur H; subst e
    first | exact hs | (try simp only [Fm.cells_eq] at hs ⊢; exact hs)
theorem spec_l1Is_ok : ∀ (a0 : Fm) (a1 : Int) r, spec_l1Is a0 a1 = some r → PCtr Try.prog 41 [.agg (Fm.cells a0), .int .i64 a1] (.bool r) := by
  refine spec_l1Is.partial_correctness  (motive_1 := fun a0 a1 r => PCtr Try.prog 41 [.agg (Fm.cells a0), .int .i64 a1] (.bool r)) (motive_2 := fun a0 a1 z0t_5 out => ∀ c, loopAt Try.f41 0 = some c → ∀ (Q : AX → AS → Prop) (τ : Sto) (b1 : Nat), (∀ (_u : Unit), out = Sum.inr () → ∀ (T : Nat → AV) (σ : Sto), T 4 = .bool false → Fx τ σ [(b1, ⟨26, 5, [.int .i64 a0.kind, .str a0.name, .int .i64 a0.num, .sl false (rws cI a0.sc), .sl false (rws Fm.cells a0.kids)]⟩)] [] → Q (.ex 1) ⟨T, σ⟩) → (∀ r, out = Sum.inl r → ∀ s', aRet Try.prog [.tmp 4] (fun r' σ' => r' = .bool r ∧ σ' = τ) s' → Q .ret s') → ∀ (T : Nat → AV) (σ : Sto), T 1 = .int .i64 a1 → T 2 = .ptr b1 0 → T 4 = .bool false → T 5 = .int .i64 z0t_5 → Fx τ σ [(b1, ⟨26, 5, [.int .i64 a0.kind, .str a0.name, .int .i64 a0.num, .sl false (rws cI a0.sc), .sl false (rws Fm.cells a0.kids)]⟩)] [] → aLoop (acode Try.prog c) Q ⟨T, σ⟩) ?_ ?_
  · intro spec_l1Is_l0 L0 a0 a1 r H
    intro σ
    refine ctr_of mixed Try.func41 rfl (by kernel_rfl) (rs := [.tmp 4]) rfl (by kernel_rfl) ?_
    have hF := Fx.refl σ
    have hX := Tau.none σ
    try simp only [go_sem, ↓reduceIte, Nat.reduceEqDiff, Nat.reduceAdd, Nat.reduceMul, Nat.reduceLeDiff, Nat.reduceLT, Int.reduceEq, Int.toNat_natCast]
    refine fx_alloc hF rfl fun b1 σ2 hF => ?_
    try simp only [go_sem, ↓reduceIte, Nat.reduceEqDiff, Nat.reduceAdd, Nat.reduceMul, Nat.reduceLeDiff, Nat.reduceLT, Int.reduceEq, Int.toNat_natCast, hF.at 0 rfl]
    refine aCnd_p (a1 = 0) rfl (fun h => ?_) (fun h => ?_)
    · rw [if_pos h] at H
      try simp only [go_sem, ↓reduceIte, Nat.reduceEqDiff, Nat.reduceAdd, Nat.reduceMul, Nat.reduceLeDiff, Nat.reduceLT, Int.reduceEq, Int.toNat_natCast, hF.at 0 rfl]
      have e := pur H; subst e
      exact fx_ret (vs := [.bool false]) (by first | (simp only [go_sem, ↓reduceIte, Nat.reduceEqDiff, Nat.reduceAdd, Nat.reduceMul, Nat.reduceLeDiff, Nat.reduceLT, Int.reduceEq, Int.toNat_natCast, hF.at 0 rfl]; done) | rfl | (simp only [go_sem, ↓reduceIte, Nat.reduceEqDiff, Nat.reduceAdd, Nat.reduceMul, Nat.reduceLeDiff, Nat.reduceLT, Int.reduceEq, Int.toNat_natCast, hF.at 0 rfl]; rfl)) (hF.wk0 _)
    · rw [if_neg h] at H
      try simp only [go_sem, ↓reduceIte, Nat.reduceEqDiff, Nat.reduceAdd, Nat.reduceMul, Nat.reduceLeDiff, Nat.reduceLT, Int.reduceEq, Int.toNat_natCast, hF.at 0 rfl]
      refine aCnd_p (a0.kind = 1) rfl (fun h => ?_) (fun h => ?_)
      · rw [if_pos h] at H
        try simp only [go_sem, ↓reduceIte, Nat.reduceEqDiff, Nat.reduceAdd, Nat.reduceMul, Nat.reduceLeDiff, Nat.reduceLT, Int.reduceEq, Int.toNat_natCast, hF.at 0 rfl]
        obtain ⟨x14, hx14, H⟩ := bnd H
        refine aCall_pure (spec_NameValid_ok a0.name _ hx14) (WkVL.refl _) ?_
        try simp only [go_sem, ↓reduceIte, Nat.reduceEqDiff, Nat.reduceAdd, Nat.reduceMul, Nat.reduceLeDiff, Nat.reduceLT, Int.reduceEq, Int.toNat_natCast, hF.at 0 rfl]
        obtain ⟨x19, g3, H⟩ := bnd H
        refine aGd_cutN 3 16 19 (.bool x19) (aGd_intro (fun q4 => ?_) (fun q4 => ?_)) (fun J => ?_)
        · try simp only [go_sem, ↓reduceIte, Nat.reduceEqDiff, Nat.reduceAdd, Nat.reduceMul, Nat.reduceLeDiff, Nat.reduceLT, Int.reduceEq, Int.toNat_natCast, q4, hF.at 0 rfl]
          refine cut_done 16 (by have e := pur g3; subst e; (first | rfl | (simp only [go_sem, ↓reduceIte, Nat.reduceEqDiff, Nat.reduceAdd, Nat.reduceMul, Nat.reduceLeDiff, Nat.reduceLT, Int.reduceEq, Int.toNat_natCast, q4]; done) | (simp only [go_sem, ↓reduceIte, Nat.reduceEqDiff, Nat.reduceAdd, Nat.reduceMul, Nat.reduceLeDiff, Nat.reduceLT, Int.reduceEq, Int.toNat_natCast, q4]; simp_all [upd_app]) | simp_all [upd_app])) ?_
          (repeat (first | refine agree_upd (by decide) ?_ | refine agree_low (by decide) ?_)) <;> (repeat (first | refine agree_updR (by decide) ?_ | refine agree_lowR (by decide) ?_)) <;> exact fun _ _ _ => rfl
        · try simp only [go_sem, ↓reduceIte, Nat.reduceEqDiff, Nat.reduceAdd, Nat.reduceMul, Nat.reduceLeDiff, Nat.reduceLT, Int.reduceEq, Int.toNat_natCast, q4, hF.at 0 rfl]
          refine cut_done 16 (by have e := pur g3; subst e; (first | rfl | (simp only [go_sem, ↓reduceIte, Nat.reduceEqDiff, Nat.reduceAdd, Nat.reduceMul, Nat.reduceLeDiff, Nat.reduceLT, Int.reduceEq, Int.toNat_natCast, q4]; done) | (simp only [go_sem, ↓reduceIte, Nat.reduceEqDiff, Nat.reduceAdd, Nat.reduceMul, Nat.reduceLeDiff, Nat.reduceLT, Int.reduceEq, Int.toNat_natCast, q4]; simp_all [upd_app]) | simp_all [upd_app])) ?_
          (repeat (first | refine agree_upd (by decide) ?_ | refine agree_low (by decide) ?_)) <;> (repeat (first | refine agree_updR (by decide) ?_ | refine agree_lowR (by decide) ?_)) <;> exact fun _ _ _ => rfl
        try simp only [go_sem, ↓reduceIte, Nat.reduceEqDiff, Nat.reduceAdd, Nat.reduceMul, Nat.reduceLeDiff, Nat.reduceLT, Int.reduceEq, Int.toNat_natCast, hF.at 0 rfl]
        obtain ⟨x24, g5, H⟩ := bnd H
        refine aGd_cutN 3 21 24 (.bool x24) (aGd_intro (fun q6 => ?_) (fun q6 => ?_)) (fun J => ?_)
        · rw [if_pos (q6)] at g5
          try simp only [go_sem, ↓reduceIte, Nat.reduceEqDiff, Nat.reduceAdd, Nat.reduceMul, Nat.reduceLeDiff, Nat.reduceLT, Int.reduceEq, Int.toNat_natCast, q6, hF.at 0 rfl]
          obtain ⟨x23, hx23, g5⟩ := bnd g5
          refine aCall_pure (spec_l1Scopes_ok a0.sc _ hx23) (WkVL.refl _) ?_
          try simp only [go_sem, ↓reduceIte, Nat.reduceEqDiff, Nat.reduceAdd, Nat.reduceMul, Nat.reduceLeDiff, Nat.reduceLT, Int.reduceEq, Int.toNat_natCast, q6, hF.at 0 rfl]
          refine cut_done 21 (by have e := pur g5; subst e; (first | rfl | (simp only [go_sem, ↓reduceIte, Nat.reduceEqDiff, Nat.reduceAdd, Nat.reduceMul, Nat.reduceLeDiff, Nat.reduceLT, Int.reduceEq, Int.toNat_natCast, q6]; done) | (simp only [go_sem, ↓reduceIte, Nat.reduceEqDiff, Nat.reduceAdd, Nat.reduceMul, Nat.reduceLeDiff, Nat.reduceLT, Int.reduceEq, Int.toNat_natCast, q6]; simp_all [upd_app]) | simp_all [upd_app])) ?_
          (repeat (first | refine agree_upd (by decide) ?_ | refine agree_low (by decide) ?_)) <;> (repeat (first | refine agree_updR (by decide) ?_ | refine agree_lowR (by decide) ?_)) <;> exact fun _ _ _ => rfl
        · rw [if_neg (b_f q6)] at g5
          try simp only [go_sem, ↓reduceIte, Nat.reduceEqDiff, Nat.reduceAdd, Nat.reduceMul, Nat.reduceLeDiff, Nat.reduceLT, Int.reduceEq, Int.toNat_natCast, q6, hF.at 0 rfl]
          refine cut_done 21 (by have e := pur g5; subst e; (first | rfl | (simp only [go_sem, ↓reduceIte, Nat.reduceEqDiff, Nat.reduceAdd, Nat.reduceMul, Nat.reduceLeDiff, Nat.reduceLT, Int.reduceEq, Int.toNat_natCast, q6]; done) | (simp only [go_sem, ↓reduceIte, Nat.reduceEqDiff, Nat.reduceAdd, Nat.reduceMul, Nat.reduceLeDiff, Nat.reduceLT, Int.reduceEq, Int.toNat_natCast, q6]; simp_all [upd_app]) | simp_all [upd_app])) ?_
          (repeat (first | refine agree_upd (by decide) ?_ | refine agree_low (by decide) ?_)) <;> (repeat (first | refine agree_updR (by decide) ?_ | refine agree_lowR (by decide) ?_)) <;> exact fun _ _ _ => rfl
        try simp only [go_sem, ↓reduceIte, Nat.reduceEqDiff, Nat.reduceAdd, Nat.reduceMul, Nat.reduceLeDiff, Nat.reduceLT, Int.reduceEq, Int.toNat_natCast, hF.at 0 rfl]
        obtain ⟨x30, g7, H⟩ := bnd H
        refine aGd_cutN 4 26 30 (.bool x30) (aGd_intro (fun q8 => ?_) (fun q8 => ?_)) (fun J => ?_)
        · try simp only [go_sem, ↓reduceIte, Nat.reduceEqDiff, Nat.reduceAdd, Nat.reduceMul, Nat.reduceLeDiff, Nat.reduceLT, Int.reduceEq, Int.toNat_natCast, q8, hF.at 0 rfl]
          refine cut_done 26 (by have e := pur g7; subst e; (first | rfl | (simp only [go_sem, ↓reduceIte, Nat.reduceEqDiff, Nat.reduceAdd, Nat.reduceMul, Nat.reduceLeDiff, Nat.reduceLT, Int.reduceEq, Int.toNat_natCast, q8]; done) | (simp only [go_sem, ↓reduceIte, Nat.reduceEqDiff, Nat.reduceAdd, Nat.reduceMul, Nat.reduceLeDiff, Nat.reduceLT, Int.reduceEq, Int.toNat_natCast, q8]; simp_all [upd_app]) | simp_all [upd_app])) ?_
          (repeat (first | refine agree_upd (by decide) ?_ | refine agree_low (by decide) ?_)) <;> (repeat (first | refine agree_updR (by decide) ?_ | refine agree_lowR (by decide) ?_)) <;> exact fun _ _ _ => rfl
        · try simp only [go_sem, ↓reduceIte, Nat.reduceEqDiff, Nat.reduceAdd, Nat.reduceMul, Nat.reduceLeDiff, Nat.reduceLT, Int.reduceEq, Int.toNat_natCast, q8, hF.at 0 rfl]
          refine cut_done 26 (by have e := pur g7; subst e; (first | rfl | (simp only [go_sem, ↓reduceIte, Nat.reduceEqDiff, Nat.reduceAdd, Nat.reduceMul, Nat.reduceLeDiff, Nat.reduceLT, Int.reduceEq, Int.toNat_natCast, q8]; done) | (simp only [go_sem, ↓reduceIte, Nat.reduceEqDiff, Nat.reduceAdd, Nat.reduceMul, Nat.reduceLeDiff, Nat.reduceLT, Int.reduceEq, Int.toNat_natCast, q8]; simp_all [upd_app]) | simp_all [upd_app])) ?_
          (repeat (first | refine agree_upd (by decide) ?_ | refine agree_low (by decide) ?_)) <;> (repeat (first | refine agree_updR (by decide) ?_ | refine agree_lowR (by decide) ?_)) <;> exact fun _ _ _ => rfl
        try simp only [go_sem, ↓reduceIte, Nat.reduceEqDiff, Nat.reduceAdd, Nat.reduceMul, Nat.reduceLeDiff, Nat.reduceLT, Int.reduceEq, Int.toNat_natCast, hF.at 0 rfl]
        have e := pur H; subst e
        exact fx_ret (vs := [.bool x30]) (by first | (simp only [go_sem, ↓reduceIte, Nat.reduceEqDiff, Nat.reduceAdd, Nat.reduceMul, Nat.reduceLeDiff, Nat.reduceLT, Int.reduceEq, Int.toNat_natCast, hF.at 0 rfl]; done) | rfl | (simp only [go_sem, ↓reduceIte, Nat.reduceEqDiff, Nat.reduceAdd, Nat.reduceMul, Nat.reduceLeDiff, Nat.reduceLT, Int.reduceEq, Int.toNat_natCast, hF.at 0 rfl]; rfl)) (hF.wk0 _)
      · rw [if_neg h] at H
        try simp only [go_sem, ↓reduceIte, Nat.reduceEqDiff, Nat.reduceAdd, Nat.reduceMul, Nat.reduceLeDiff, Nat.reduceLT, Int.reduceEq, Int.toNat_natCast, hF.at 0 rfl]
        refine aCnd_p (a0.kind = 2) rfl (fun h => ?_) (fun h => ?_)
        · rw [if_pos h] at H
          try simp only [go_sem, ↓reduceIte, Nat.reduceEqDiff, Nat.reduceAdd, Nat.reduceMul, Nat.reduceLeDiff, Nat.reduceLT, Int.reduceEq, Int.toNat_natCast, hF.at 0 rfl]
          obtain ⟨x40, g9, H⟩ := bnd H
          refine aGd_cutN 3 37 40 (.bool x40) (aGd_intro (fun q10 => ?_) (fun q10 => ?_)) (fun J => ?_)
          · try simp only [go_sem, ↓reduceIte, Nat.reduceEqDiff, Nat.reduceAdd, Nat.reduceMul, Nat.reduceLeDiff, Nat.reduceLT, Int.reduceEq, Int.toNat_natCast, q10, hF.at 0 rfl]
            refine cut_done 37 (by have e := pur g9; subst e; (first | rfl | (simp only [go_sem, ↓reduceIte, Nat.reduceEqDiff, Nat.reduceAdd, Nat.reduceMul, Nat.reduceLeDiff, Nat.reduceLT, Int.reduceEq, Int.toNat_natCast, q10]; done) | (simp only [go_sem, ↓reduceIte, Nat.reduceEqDiff, Nat.reduceAdd, Nat.reduceMul, Nat.reduceLeDiff, Nat.reduceLT, Int.reduceEq, Int.toNat_natCast, q10]; simp_all [upd_app]) | simp_all [upd_app])) ?_
            (repeat (first | refine agree_upd (by decide) ?_ | refine agree_low (by decide) ?_)) <;> (repeat (first | refine agree_updR (by decide) ?_ | refine agree_lowR (by decide) ?_)) <;> exact fun _ _ _ => rfl
          · try simp only [go_sem, ↓reduceIte, Nat.reduceEqDiff, Nat.reduceAdd, Nat.reduceMul, Nat.reduceLeDiff, Nat.reduceLT, Int.reduceEq, Int.toNat_natCast, q10, hF.at 0 rfl]
            refine cut_done 37 (by have e := pur g9; subst e; (first | rfl | (simp only [go_sem, ↓reduceIte, Nat.reduceEqDiff, Nat.reduceAdd, Nat.reduceMul, Nat.reduceLeDiff, Nat.reduceLT, Int.reduceEq, Int.toNat_natCast, q10]; done) | (simp only [go_sem, ↓reduceIte, Nat.reduceEqDiff, Nat.reduceAdd, Nat.reduceMul, Nat.reduceLeDiff, Nat.reduceLT, Int.reduceEq, Int.toNat_natCast, q10]; simp_all [upd_app]) | simp_all [upd_app])) ?_
            (repeat (first | refine agree_upd (by decide) ?_ | refine agree_low (by decide) ?_)) <;> (repeat (first | refine agree_updR (by decide) ?_ | refine agree_lowR (by decide) ?_)) <;> exact fun _ _ _ => rfl
          try simp only [go_sem, ↓reduceIte, Nat.reduceEqDiff, Nat.reduceAdd, Nat.reduceMul, Nat.reduceLeDiff, Nat.reduceLT, Int.reduceEq, Int.toNat_natCast, hF.at 0 rfl]
          obtain ⟨x45, g11, H⟩ := bnd H
          refine aGd_cutN 3 42 45 (.bool x45) (aGd_intro (fun q12 => ?_) (fun q12 => ?_)) (fun J => ?_)
          · try simp only [go_sem, ↓reduceIte, Nat.reduceEqDiff, Nat.reduceAdd, Nat.reduceMul, Nat.reduceLeDiff, Nat.reduceLT, Int.reduceEq, Int.toNat_natCast, q12, hF.at 0 rfl]
            refine cut_done 42 (by have e := pur g11; subst e; (first | rfl | (simp only [go_sem, ↓reduceIte, Nat.reduceEqDiff, Nat.reduceAdd, Nat.reduceMul, Nat.reduceLeDiff, Nat.reduceLT, Int.reduceEq, Int.toNat_natCast, q12]; done) | (simp only [go_sem, ↓reduceIte, Nat.reduceEqDiff, Nat.reduceAdd, Nat.reduceMul, Nat.reduceLeDiff, Nat.reduceLT, Int.reduceEq, Int.toNat_natCast, q12]; simp_all [upd_app]) | simp_all [upd_app])) ?_
            (repeat (first | refine agree_upd (by decide) ?_ | refine agree_low (by decide) ?_)) <;> (repeat (first | refine agree_updR (by decide) ?_ | refine agree_lowR (by decide) ?_)) <;> exact fun _ _ _ => rfl
          · try simp only [go_sem, ↓reduceIte, Nat.reduceEqDiff, Nat.reduceAdd, Nat.reduceMul, Nat.reduceLeDiff, Nat.reduceLT, Int.reduceEq, Int.toNat_natCast, q12, hF.at 0 rfl]
            refine cut_done 42 (by have e := pur g11; subst e; (first | rfl | (simp only [go_sem, ↓reduceIte, Nat.reduceEqDiff, Nat.reduceAdd, Nat.reduceMul, Nat.reduceLeDiff, Nat.reduceLT, Int.reduceEq, Int.toNat_natCast, q12]; done) | (simp only [go_sem, ↓reduceIte, Nat.reduceEqDiff, Nat.reduceAdd, Nat.reduceMul, Nat.reduceLeDiff, Nat.reduceLT, Int.reduceEq, Int.toNat_natCast, q12]; simp_all [upd_app]) | simp_all [upd_app])) ?_
            (repeat (first | refine agree_upd (by decide) ?_ | refine agree_low (by decide) ?_)) <;> (repeat (first | refine agree_updR (by decide) ?_ | refine agree_lowR (by decide) ?_)) <;> exact fun _ _ _ => rfl
          try simp only [go_sem, ↓reduceIte, Nat.reduceEqDiff, Nat.reduceAdd, Nat.reduceMul, Nat.reduceLeDiff, Nat.reduceLT, Int.reduceEq, Int.toNat_natCast, hF.at 0 rfl]
          obtain ⟨x51, g13, H⟩ := bnd H
          refine aGd_cutN 4 47 51 (.bool x51) (aGd_intro (fun q14 => ?_) (fun q14 => ?_)) (fun J => ?_)
          · try simp only [go_sem, ↓reduceIte, Nat.reduceEqDiff, Nat.reduceAdd, Nat.reduceMul, Nat.reduceLeDiff, Nat.reduceLT, Int.reduceEq, Int.toNat_natCast, q14, hF.at 0 rfl]
            refine cut_done 47 (by have e := pur g13; subst e; (first | rfl | (simp only [go_sem, ↓reduceIte, Nat.reduceEqDiff, Nat.reduceAdd, Nat.reduceMul, Nat.reduceLeDiff, Nat.reduceLT, Int.reduceEq, Int.toNat_natCast, q14]; done) | (simp only [go_sem, ↓reduceIte, Nat.reduceEqDiff, Nat.reduceAdd, Nat.reduceMul, Nat.reduceLeDiff, Nat.reduceLT, Int.reduceEq, Int.toNat_natCast, q14]; simp_all [upd_app]) | simp_all [upd_app])) ?_
            (repeat (first | refine agree_upd (by decide) ?_ | refine agree_low (by decide) ?_)) <;> (repeat (first | refine agree_updR (by decide) ?_ | refine agree_lowR (by decide) ?_)) <;> exact fun _ _ _ => rfl
          · try simp only [go_sem, ↓reduceIte, Nat.reduceEqDiff, Nat.reduceAdd, Nat.reduceMul, Nat.reduceLeDiff, Nat.reduceLT, Int.reduceEq, Int.toNat_natCast, q14, hF.at 0 rfl]
            refine cut_done 47 (by have e := pur g13; subst e; (first | rfl | (simp only [go_sem, ↓reduceIte, Nat.reduceEqDiff, Nat.reduceAdd, Nat.reduceMul, Nat.reduceLeDiff, Nat.reduceLT, Int.reduceEq, Int.toNat_natCast, q14]; done) | (simp only [go_sem, ↓reduceIte, Nat.reduceEqDiff, Nat.reduceAdd, Nat.reduceMul, Nat.reduceLeDiff, Nat.reduceLT, Int.reduceEq, Int.toNat_natCast, q14]; simp_all [upd_app]) | simp_all [upd_app])) ?_
            (repeat (first | refine agree_upd (by decide) ?_ | refine agree_low (by decide) ?_)) <;> (repeat (first | refine agree_updR (by decide) ?_ | refine agree_lowR (by decide) ?_)) <;> exact fun _ _ _ => rfl
          try simp only [go_sem, ↓reduceIte, Nat.reduceEqDiff, Nat.reduceAdd, Nat.reduceMul, Nat.reduceLeDiff, Nat.reduceLT, Int.reduceEq, Int.toNat_natCast, hF.at 0 rfl]
          obtain ⟨x57, g15, H⟩ := bnd H
          refine aGd_cutN 4 53 57 (.bool x57) (aGd_intro (fun q16 => ?_) (fun q16 => ?_)) (fun J => ?_)
          · try simp only [go_sem, ↓reduceIte, Nat.reduceEqDiff, Nat.reduceAdd, Nat.reduceMul, Nat.reduceLeDiff, Nat.reduceLT, Int.reduceEq, Int.toNat_natCast, q16, hF.at 0 rfl]
            refine cut_done 53 (by have e := pur g15; subst e; (first | rfl | (simp only [go_sem, ↓reduceIte, Nat.reduceEqDiff, Nat.reduceAdd, Nat.reduceMul, Nat.reduceLeDiff, Nat.reduceLT, Int.reduceEq, Int.toNat_natCast, q16]; done) | (simp only [go_sem, ↓reduceIte, Nat.reduceEqDiff, Nat.reduceAdd, Nat.reduceMul, Nat.reduceLeDiff, Nat.reduceLT, Int.reduceEq, Int.toNat_natCast, q16]; simp_all [upd_app]) | simp_all [upd_app])) ?_
            (repeat (first | refine agree_upd (by decide) ?_ | refine agree_low (by decide) ?_)) <;> (repeat (first | refine agree_updR (by decide) ?_ | refine agree_lowR (by decide) ?_)) <;> exact fun _ _ _ => rfl
          · try simp only [go_sem, ↓reduceIte, Nat.reduceEqDiff, Nat.reduceAdd, Nat.reduceMul, Nat.reduceLeDiff, Nat.reduceLT, Int.reduceEq, Int.toNat_natCast, q16, hF.at 0 rfl]
            refine cut_done 53 (by have e := pur g15; subst e; (first | rfl | (simp only [go_sem, ↓reduceIte, Nat.reduceEqDiff, Nat.reduceAdd, Nat.reduceMul, Nat.reduceLeDiff, Nat.reduceLT, Int.reduceEq, Int.toNat_natCast, q16]; done) | (simp only [go_sem, ↓reduceIte, Nat.reduceEqDiff, Nat.reduceAdd, Nat.reduceMul, Nat.reduceLeDiff, Nat.reduceLT, Int.reduceEq, Int.toNat_natCast, q16]; simp_all [upd_app]) | simp_all [upd_app])) ?_
            (repeat (first | refine agree_upd (by decide) ?_ | refine agree_low (by decide) ?_)) <;> (repeat (first | refine agree_updR (by decide) ?_ | refine agree_lowR (by decide) ?_)) <;> exact fun _ _ _ => rfl
          try simp only [go_sem, ↓reduceIte, Nat.reduceEqDiff, Nat.reduceAdd, Nat.reduceMul, Nat.reduceLeDiff, Nat.reduceLT, Int.reduceEq, Int.toNat_natCast, hF.at 0 rfl]
          have e := pur H; subst e
          exact fx_ret (vs := [.bool x57]) (by first | (simp only [go_sem, ↓reduceIte, Nat.reduceEqDiff, Nat.reduceAdd, Nat.reduceMul, Nat.reduceLeDiff, Nat.reduceLT, Int.reduceEq, Int.toNat_natCast, hF.at 0 rfl]; done) | rfl | (simp only [go_sem, ↓reduceIte, Nat.reduceEqDiff, Nat.reduceAdd, Nat.reduceMul, Nat.reduceLeDiff, Nat.reduceLT, Int.reduceEq, Int.toNat_natCast, hF.at 0 rfl]; rfl)) (hF.wk0 _)
        · rw [if_neg h] at H
          try simp only [go_sem, ↓reduceIte, Nat.reduceEqDiff, Nat.reduceAdd, Nat.reduceMul, Nat.reduceLeDiff, Nat.reduceLT, Int.reduceEq, Int.toNat_natCast, hF.at 0 rfl]
          obtain ⟨x65, g17, H⟩ := bnd H
          refine aGd_cutN 3 62 65 (.bool x65) (aGd_introN (fun q18 => ?_) (fun q18 => ?_)) (fun J => ?_)
          · try simp only [go_sem, ↓reduceIte, Nat.reduceEqDiff, Nat.reduceAdd, Nat.reduceMul, Nat.reduceLeDiff, Nat.reduceLT, Int.reduceEq, Int.toNat_natCast, q18, hF.at 0 rfl]
            refine cut_done 62 (by have e := pur g17; subst e; (first | rfl | (simp only [go_sem, ↓reduceIte, Nat.reduceEqDiff, Nat.reduceAdd, Nat.reduceMul, Nat.reduceLeDiff, Nat.reduceLT, Int.reduceEq, Int.toNat_natCast, q18]; done) | (simp only [go_sem, ↓reduceIte, Nat.reduceEqDiff, Nat.reduceAdd, Nat.reduceMul, Nat.reduceLeDiff, Nat.reduceLT, Int.reduceEq, Int.toNat_natCast, q18]; simp_all [upd_app]) | simp_all [upd_app])) ?_
            (repeat (first | refine agree_upd (by decide) ?_ | refine agree_low (by decide) ?_)) <;> (repeat (first | refine agree_updR (by decide) ?_ | refine agree_lowR (by decide) ?_)) <;> exact fun _ _ _ => rfl
          · try simp only [go_sem, ↓reduceIte, Nat.reduceEqDiff, Nat.reduceAdd, Nat.reduceMul, Nat.reduceLeDiff, Nat.reduceLT, Int.reduceEq, Int.toNat_natCast, q18, hF.at 0 rfl]
            refine cut_done 62 (by have e := pur g17; subst e; (first | rfl | (simp only [go_sem, ↓reduceIte, Nat.reduceEqDiff, Nat.reduceAdd, Nat.reduceMul, Nat.reduceLeDiff, Nat.reduceLT, Int.reduceEq, Int.toNat_natCast, q18]; done) | (simp only [go_sem, ↓reduceIte, Nat.reduceEqDiff, Nat.reduceAdd, Nat.reduceMul, Nat.reduceLeDiff, Nat.reduceLT, Int.reduceEq, Int.toNat_natCast, q18]; simp_all [upd_app]) | simp_all [upd_app])) ?_
            (repeat (first | refine agree_upd (by decide) ?_ | refine agree_low (by decide) ?_)) <;> (repeat (first | refine agree_updR (by decide) ?_ | refine agree_lowR (by decide) ?_)) <;> exact fun _ _ _ => rfl
          try simp only [go_sem, ↓reduceIte, Nat.reduceEqDiff, Nat.reduceAdd, Nat.reduceMul, Nat.reduceLeDiff, Nat.reduceLT, Int.reduceEq, Int.toNat_natCast, hF.at 0 rfl]
          obtain ⟨x70, g19, H⟩ := bnd H
          refine aGd_cutN 3 67 70 (.bool x70) (aGd_introN (fun q20 => ?_) (fun q20 => ?_)) (fun J => ?_)
          · try simp only [go_sem, ↓reduceIte, Nat.reduceEqDiff, Nat.reduceAdd, Nat.reduceMul, Nat.reduceLeDiff, Nat.reduceLT, Int.reduceEq, Int.toNat_natCast, q20, hF.at 0 rfl]
            refine cut_done 67 (by have e := pur g19; subst e; (first | rfl | (simp only [go_sem, ↓reduceIte, Nat.reduceEqDiff, Nat.reduceAdd, Nat.reduceMul, Nat.reduceLeDiff, Nat.reduceLT, Int.reduceEq, Int.toNat_natCast, q20]; done) | (simp only [go_sem, ↓reduceIte, Nat.reduceEqDiff, Nat.reduceAdd, Nat.reduceMul, Nat.reduceLeDiff, Nat.reduceLT, Int.reduceEq, Int.toNat_natCast, q20]; simp_all [upd_app]) | simp_all [upd_app])) ?_
            (repeat (first | refine agree_upd (by decide) ?_ | refine agree_low (by decide) ?_)) <;> (repeat (first | refine agree_updR (by decide) ?_ | refine agree_lowR (by decide) ?_)) <;> exact fun _ _ _ => rfl
          · try simp only [go_sem, ↓reduceIte, Nat.reduceEqDiff, Nat.reduceAdd, Nat.reduceMul, Nat.reduceLeDiff, Nat.reduceLT, Int.reduceEq, Int.toNat_natCast, q20, hF.at 0 rfl]
            refine cut_done 67 (by have e := pur g19; subst e; (first | rfl | (simp only [go_sem, ↓reduceIte, Nat.reduceEqDiff, Nat.reduceAdd, Nat.reduceMul, Nat.reduceLeDiff, Nat.reduceLT, Int.reduceEq, Int.toNat_natCast, q20]; done) | (simp only [go_sem, ↓reduceIte, Nat.reduceEqDiff, Nat.reduceAdd, Nat.reduceMul, Nat.reduceLeDiff, Nat.reduceLT, Int.reduceEq, Int.toNat_natCast, q20]; simp_all [upd_app]) | simp_all [upd_app])) ?_
            (repeat (first | refine agree_upd (by decide) ?_ | refine agree_low (by decide) ?_)) <;> (repeat (first | refine agree_updR (by decide) ?_ | refine agree_lowR (by decide) ?_)) <;> exact fun _ _ _ => rfl
          try simp only [go_sem, ↓reduceIte, Nat.reduceEqDiff, Nat.reduceAdd, Nat.reduceMul, Nat.reduceLeDiff, Nat.reduceLT, Int.reduceEq, Int.toNat_natCast, hF.at 0 rfl]
          obtain ⟨x76, g21, H⟩ := bnd H
          refine aGd_cutN 4 72 76 (.bool x76) (aGd_introN (fun q22 => ?_) (fun q22 => ?_)) (fun J => ?_)
          · try simp only [go_sem, ↓reduceIte, Nat.reduceEqDiff, Nat.reduceAdd, Nat.reduceMul, Nat.reduceLeDiff, Nat.reduceLT, Int.reduceEq, Int.toNat_natCast, q22, hF.at 0 rfl]
            refine cut_done 72 (by have e := pur g21; subst e; (first | rfl | (simp only [go_sem, ↓reduceIte, Nat.reduceEqDiff, Nat.reduceAdd, Nat.reduceMul, Nat.reduceLeDiff, Nat.reduceLT, Int.reduceEq, Int.toNat_natCast, q22]; done) | (simp only [go_sem, ↓reduceIte, Nat.reduceEqDiff, Nat.reduceAdd, Nat.reduceMul, Nat.reduceLeDiff, Nat.reduceLT, Int.reduceEq, Int.toNat_natCast, q22]; simp_all [upd_app]) | simp_all [upd_app])) ?_
            (repeat (first | refine agree_upd (by decide) ?_ | refine agree_low (by decide) ?_)) <;> (repeat (first | refine agree_updR (by decide) ?_ | refine agree_lowR (by decide) ?_)) <;> exact fun _ _ _ => rfl
          · try simp only [go_sem, ↓reduceIte, Nat.reduceEqDiff, Nat.reduceAdd, Nat.reduceMul, Nat.reduceLeDiff, Nat.reduceLT, Int.reduceEq, Int.toNat_natCast, q22, hF.at 0 rfl]
            refine cut_done 72 (by have e := pur g21; subst e; (first | rfl | (simp only [go_sem, ↓reduceIte, Nat.reduceEqDiff, Nat.reduceAdd, Nat.reduceMul, Nat.reduceLeDiff, Nat.reduceLT, Int.reduceEq, Int.toNat_natCast, q22]; done) | (simp only [go_sem, ↓reduceIte, Nat.reduceEqDiff, Nat.reduceAdd, Nat.reduceMul, Nat.reduceLeDiff, Nat.reduceLT, Int.reduceEq, Int.toNat_natCast, q22]; simp_all [upd_app]) | simp_all [upd_app])) ?_
            (repeat (first | refine agree_upd (by decide) ?_ | refine agree_low (by decide) ?_)) <;> (repeat (first | refine agree_updR (by decide) ?_ | refine agree_lowR (by decide) ?_)) <;> exact fun _ _ _ => rfl
          try simp only [go_sem, ↓reduceIte, Nat.reduceEqDiff, Nat.reduceAdd, Nat.reduceMul, Nat.reduceLeDiff, Nat.reduceLT, Int.reduceEq, Int.toNat_natCast, hF.at 0 rfl]
          refine aCnd_b x76 rfl (fun h => ?_) (fun h => ?_)
          · rw [if_pos h] at H
            try simp only [go_sem, ↓reduceIte, Nat.reduceEqDiff, Nat.reduceAdd, Nat.reduceMul, Nat.reduceLeDiff, Nat.reduceLT, Int.reduceEq, Int.toNat_natCast, hF.at 0 rfl]
            have e := pur H; subst e
            exact fx_ret (vs := [.bool false]) (by first | (simp only [go_sem, ↓reduceIte, Nat.reduceEqDiff, Nat.reduceAdd, Nat.reduceMul, Nat.reduceLeDiff, Nat.reduceLT, Int.reduceEq, Int.toNat_natCast, hF.at 0 rfl]; done) | rfl | (simp only [go_sem, ↓reduceIte, Nat.reduceEqDiff, Nat.reduceAdd, Nat.reduceMul, Nat.reduceLeDiff, Nat.reduceLT, Int.reduceEq, Int.toNat_natCast, hF.at 0 rfl]; rfl)) (hF.wk0 _)
          · rw [if_neg h] at H
            try simp only [go_sem, ↓reduceIte, Nat.reduceEqDiff, Nat.reduceAdd, Nat.reduceMul, Nat.reduceLeDiff, Nat.reduceLT, Int.reduceEq, Int.toNat_natCast, hF.at 0 rfl]
            obtain ⟨o23, ho23, H⟩ := bnd H
            refine L0 a0 a1 0 _ ho23 _ rfl _ _ b1 ?_ ?_ _ _  (by first | (simp only [go_sem, ↓reduceIte, Nat.reduceEqDiff, Nat.reduceAdd, Nat.reduceMul, Nat.reduceLeDiff, Nat.reduceLT, Int.reduceEq, Int.toNat_natCast, hF.at 0 rfl]; done) | rfl | (simp only [go_sem, ↓reduceIte, Nat.reduceEqDiff, Nat.reduceAdd, Nat.reduceMul, Nat.reduceLeDiff, Nat.reduceLT, Int.reduceEq, Int.toNat_natCast, hF.at 0 rfl]; rfl)) (by first | (simp only [go_sem, ↓reduceIte, Nat.reduceEqDiff, Nat.reduceAdd, Nat.reduceMul, Nat.reduceLeDiff, Nat.reduceLT, Int.reduceEq, Int.toNat_natCast, hF.at 0 rfl]; done) | rfl | (simp only [go_sem, ↓reduceIte, Nat.reduceEqDiff, Nat.reduceAdd, Nat.reduceMul, Nat.reduceLeDiff, Nat.reduceLT, Int.reduceEq, Int.toNat_natCast, hF.at 0 rfl]; rfl)) (by first | (simp only [go_sem, ↓reduceIte, Nat.reduceEqDiff, Nat.reduceAdd, Nat.reduceMul, Nat.reduceLeDiff, Nat.reduceLT, Int.reduceEq, Int.toNat_natCast, hF.at 0 rfl]; done) | rfl | (simp only [go_sem, ↓reduceIte, Nat.reduceEqDiff, Nat.reduceAdd, Nat.reduceMul, Nat.reduceLeDiff, Nat.reduceLT, Int.reduceEq, Int.toNat_natCast, hF.at 0 rfl]; rfl)) (by first | (simp only [go_sem, ↓reduceIte, Nat.reduceEqDiff, Nat.reduceAdd, Nat.reduceMul, Nat.reduceLeDiff, Nat.reduceLT, Int.reduceEq, Int.toNat_natCast, hF.at 0 rfl]; done) | rfl | (simp only [go_sem, ↓reduceIte, Nat.reduceEqDiff, Nat.reduceAdd, Nat.reduceMul, Nat.reduceLeDiff, Nat.reduceLT, Int.reduceEq, Int.toNat_natCast, hF.at 0 rfl]; rfl)) hF
            · intro _ he T25 σ26 t4 hF
              have he := he.symm
              subst he
              dsimp only at H
              try simp only [go_sem, ↓reduceIte, Nat.reduceEqDiff, Nat.reduceAdd, Nat.reduceMul, Nat.reduceLeDiff, Nat.reduceLT, Int.reduceEq, Int.toNat_natCast, t4, hF.at 0 rfl]
              have e := pur H; subst e
              exact fx_ret (vs := [.bool true]) (by first | (simp only [go_sem, ↓reduceIte, Nat.reduceEqDiff, Nat.reduceAdd, Nat.reduceMul, Nat.reduceLeDiff, Nat.reduceLT, Int.reduceEq, Int.toNat_natCast, t4, hF.at 0 rfl]; done) | rfl | (simp only [go_sem, ↓reduceIte, Nat.reduceEqDiff, Nat.reduceAdd, Nat.reduceMul, Nat.reduceLeDiff, Nat.reduceLT, Int.reduceEq, Int.toNat_natCast, t4, hF.at 0 rfl]; rfl)) (hF.wk0 _)
            · intro r hr s' hs
              subst hr
              have e := pur H; subst e
              first | exact hs | (try simp only [Fm.cells_eq] at hs ⊢; exact hs)
  · intro spec_l1Is spec_l1Is_l0 C0 L0 a0 a1 z0t_5 out H c hc Q τ b1 hE hR T σ t1 t2 t4 t5 hF
    obtain rfl := Option.some.inj ((rfl : loopAt Try.f41 0 = some _).symm.trans hc)
    refine aLoop_round ?_
    try simp only [go_sem, ↓reduceIte, Nat.reduceEqDiff, Nat.reduceAdd, Nat.reduceMul, Nat.reduceLeDiff, Nat.reduceLT, Int.reduceEq, Int.toNat_natCast, t1, t2, t4, t5, hF.at 0 rfl]
    refine aCnd_p (z0t_5 < (a0.kids.length : Int)) rfl (fun h => ?_) (fun h => ?_)
    · rw [if_pos h] at H
      obtain ⟨x87, hx87, H⟩ := bnd H
      try simp only [go_sem, ↓reduceIte, Nat.reduceEqDiff, Nat.reduceAdd, Nat.reduceMul, Nat.reduceLeDiff, Nat.reduceLT, Int.reduceEq, Int.toNat_natCast, t1, t2, t4, t5, hF.at 0 rfl, aidx_idx (g := Fm.cells) Fm.cells_len hx87]
      obtain ⟨x91, hx91, H⟩ := bnd H
      refine aCall_pure (C0 x87 (IntKind.i64.wrap (a1 - 1)) _ hx91) (by (try simp only [Fm.cells_eq]); exact WkVL.refl _) ?_
      try simp only [go_sem, ↓reduceIte, Nat.reduceEqDiff, Nat.reduceAdd, Nat.reduceMul, Nat.reduceLeDiff, Nat.reduceLT, Int.reduceEq, Int.toNat_natCast, t1, t2, t4, t5, hF.at 0 rfl]
      refine aCnd_b (!x91) rfl (fun h => ?_) (fun h => ?_)
      · rw [if_pos h] at H
        try simp only [go_sem, ↓reduceIte, Nat.reduceEqDiff, Nat.reduceAdd, Nat.reduceMul, Nat.reduceLeDiff, Nat.reduceLT, Int.reduceEq, Int.toNat_natCast, t1, t2, t4, t5, hF.at 0 rfl]
        exact hR _ (pur H).symm _ (fx_ret (vs := [.bool false]) (by first | (simp only [go_sem, ↓reduceIte, Nat.reduceEqDiff, Nat.reduceAdd, Nat.reduceMul, Nat.reduceLeDiff, Nat.reduceLT, Int.reduceEq, Int.toNat_natCast, t1, t2, t4, t5, hF.at 0 rfl]; done) | rfl | (simp only [go_sem, ↓reduceIte, Nat.reduceEqDiff, Nat.reduceAdd, Nat.reduceMul, Nat.reduceLeDiff, Nat.reduceLT, Int.reduceEq, Int.toNat_natCast, t1, t2, t4, t5, hF.at 0 rfl]; rfl)) (hF.wk0 _))
      · rw [if_neg h] at H
        try simp only [go_sem, ↓reduceIte, Nat.reduceEqDiff, Nat.reduceAdd, Nat.reduceMul, Nat.reduceLeDiff, Nat.reduceLT, Int.reduceEq, Int.toNat_natCast, t1, t2, t4, t5, hF.at 0 rfl]
        exact L0 a0 a1 (IntKind.i64.wrap (z0t_5 + 1)) _ H _ rfl Q τ b1 hE hR _ _  (by first | (simp only [go_sem, ↓reduceIte, Nat.reduceEqDiff, Nat.reduceAdd, Nat.reduceMul, Nat.reduceLeDiff, Nat.reduceLT, Int.reduceEq, Int.toNat_natCast, t1, t2, t4, t5, hF.at 0 rfl]; done) | rfl | (simp only [go_sem, ↓reduceIte, Nat.reduceEqDiff, Nat.reduceAdd, Nat.reduceMul, Nat.reduceLeDiff, Nat.reduceLT, Int.reduceEq, Int.toNat_natCast, t1, t2, t4, t5, hF.at 0 rfl]; rfl)) (by first | (simp only [go_sem, ↓reduceIte, Nat.reduceEqDiff, Nat.reduceAdd, Nat.reduceMul, Nat.reduceLeDiff, Nat.reduceLT, Int.reduceEq, Int.toNat_natCast, t1, t2, t4, t5, hF.at 0 rfl]; done) | rfl | (simp only [go_sem, ↓reduceIte, Nat.reduceEqDiff, Nat.reduceAdd, Nat.reduceMul, Nat.reduceLeDiff, Nat.reduceLT, Int.reduceEq, Int.toNat_natCast, t1, t2, t4, t5, hF.at 0 rfl]; rfl)) (by first | (simp only [go_sem, ↓reduceIte, Nat.reduceEqDiff, Nat.reduceAdd, Nat.reduceMul, Nat.reduceLeDiff, Nat.reduceLT, Int.reduceEq, Int.toNat_natCast, t1, t2, t4, t5, hF.at 0 rfl]; done) | rfl | (simp only [go_sem, ↓reduceIte, Nat.reduceEqDiff, Nat.reduceAdd, Nat.reduceMul, Nat.reduceLeDiff, Nat.reduceLT, Int.reduceEq, Int.toNat_natCast, t1, t2, t4, t5, hF.at 0 rfl]; rfl)) (by first | (simp only [go_sem, ↓reduceIte, Nat.reduceEqDiff, Nat.reduceAdd, Nat.reduceMul, Nat.reduceLeDiff, Nat.reduceLT, Int.reduceEq, Int.toNat_natCast, t1, t2, t4, t5, hF.at 0 rfl]; done) | rfl | (simp only [go_sem, ↓reduceIte, Nat.reduceEqDiff, Nat.reduceAdd, Nat.reduceMul, Nat.reduceLeDiff, Nat.reduceLT, Int.reduceEq, Int.toNat_natCast, t1, t2, t4, t5, hF.at 0 rfl]; rfl)) hF
    · rw [if_neg h] at H
      try simp only [go_sem, ↓reduceIte, Nat.reduceEqDiff, Nat.reduceAdd, Nat.reduceMul, Nat.reduceLeDiff, Nat.reduceLT, Int.reduceEq, Int.toNat_natCast, t1, t2, t4, t5, hF.at 0 rfl]
      exact hE () (pur H).symm _ _  (by first | (simp only [go_sem, ↓reduceIte, Nat.reduceEqDiff, Nat.reduceAdd, Nat.reduceMul, Nat.reduceLeDiff, Nat.reduceLT, Int.reduceEq, Int.toNat_natCast, t1, t2, t4, t5, hF.at 0 rfl]; done) | rfl | (simp only [go_sem, ↓reduceIte, Nat.reduceEqDiff, Nat.reduceAdd, Nat.reduceMul, Nat.reduceLeDiff, Nat.reduceLT, Int.reduceEq, Int.toNat_natCast, t1, t2, t4, t5, hF.at 0 rfl]; rfl)) hF
theorem spec_l1Count_ok : ∀ (a0 : Fm) r, spec_l1Count a0 = some r → PCtr Try.prog 42 [.agg (Fm.cells a0)] (.int .i64 r) := by
  refine spec_l1Count.partial_correctness  (motive_1 := fun a0 r => PCtr Try.prog 42 [.agg (Fm.cells a0)] (.int .i64 r)) (motive_2 := fun a0 z0t_3 z0t_4 out => ∀ c, loopAt Try.f42 0 = some c → ∀ (Q : AX → AS → Prop) (τ : Sto) (b1 : Nat), (∀ (e0t_3 : Int), out = e0t_3 → ∀ (T : Nat → AV) (σ : Sto), T 2 = .int .i64 0 → T 3 = .int .i64 e0t_3 → Fx τ σ [(b1, ⟨26, 5, [.int .i64 a0.kind, .str a0.name, .int .i64 a0.num, .sl false (rws cI a0.sc), .sl false (rws Fm.cells a0.kids)]⟩)] [] → Q (.ex 0) ⟨T, σ⟩) → True → ∀ (T : Nat → AV) (σ : Sto), T 1 = .ptr b1 0 → T 2 = .int .i64 0 → T 3 = .int .i64 z0t_3 → T 4 = .int .i64 z0t_4 → Fx τ σ [(b1, ⟨26, 5, [.int .i64 a0.kind, .str a0.name, .int .i64 a0.num, .sl false (rws cI a0.sc), .sl false (rws Fm.cells a0.kids)]⟩)] [] → aLoop (acode Try.prog c) Q ⟨T, σ⟩) ?_ ?_
  · intro spec_l1Count_l0 L0 a0 r H
    intro σ
    refine ctr_of mixed Try.func42 rfl (by kernel_rfl) (rs := [.tmp 2]) rfl (by kernel_rfl) ?_
    have hF := Fx.refl σ
    have hX := Tau.none σ
    try simp only [go_sem, ↓reduceIte, Nat.reduceEqDiff, Nat.reduceAdd, Nat.reduceMul, Nat.reduceLeDiff, Nat.reduceLT, Int.reduceEq, Int.toNat_natCast]
    refine fx_alloc hF rfl fun b1 σ2 hF => ?_
    try simp only [go_sem, ↓reduceIte, Nat.reduceEqDiff, Nat.reduceAdd, Nat.reduceMul, Nat.reduceLeDiff, Nat.reduceLT, Int.reduceEq, Int.toNat_natCast, hF.at 0 rfl]
    obtain ⟨o3, ho3, H⟩ := bnd H
    refine L0 a0 1 0 _ ho3 _ rfl _ _ b1 ?_ ?_ _ _  (by first | (simp only [go_sem, ↓reduceIte, Nat.reduceEqDiff, Nat.reduceAdd, Nat.reduceMul, Nat.reduceLeDiff, Nat.reduceLT, Int.reduceEq, Int.toNat_natCast, hF.at 0 rfl]; done) | rfl | (simp only [go_sem, ↓reduceIte, Nat.reduceEqDiff, Nat.reduceAdd, Nat.reduceMul, Nat.reduceLeDiff, Nat.reduceLT, Int.reduceEq, Int.toNat_natCast, hF.at 0 rfl]; rfl)) (by first | (simp only [go_sem, ↓reduceIte, Nat.reduceEqDiff, Nat.reduceAdd, Nat.reduceMul, Nat.reduceLeDiff, Nat.reduceLT, Int.reduceEq, Int.toNat_natCast, hF.at 0 rfl]; done) | rfl | (simp only [go_sem, ↓reduceIte, Nat.reduceEqDiff, Nat.reduceAdd, Nat.reduceMul, Nat.reduceLeDiff, Nat.reduceLT, Int.reduceEq, Int.toNat_natCast, hF.at 0 rfl]; rfl)) (by first | (simp only [go_sem, ↓reduceIte, Nat.reduceEqDiff, Nat.reduceAdd, Nat.reduceMul, Nat.reduceLeDiff, Nat.reduceLT, Int.reduceEq, Int.toNat_natCast, hF.at 0 rfl]; done) | rfl | (simp only [go_sem, ↓reduceIte, Nat.reduceEqDiff, Nat.reduceAdd, Nat.reduceMul, Nat.reduceLeDiff, Nat.reduceLT, Int.reduceEq, Int.toNat_natCast, hF.at 0 rfl]; rfl)) (by first | (simp only [go_sem, ↓reduceIte, Nat.reduceEqDiff, Nat.reduceAdd, Nat.reduceMul, Nat.reduceLeDiff, Nat.reduceLT, Int.reduceEq, Int.toNat_natCast, hF.at 0 rfl]; done) | rfl | (simp only [go_sem, ↓reduceIte, Nat.reduceEqDiff, Nat.reduceAdd, Nat.reduceMul, Nat.reduceLeDiff, Nat.reduceLT, Int.reduceEq, Int.toNat_natCast, hF.at 0 rfl]; rfl)) hF
    · intro e4t_3 he T5 σ6 t2 t3 hF
      have he := he.symm
      subst he
      try simp only [go_sem, ↓reduceIte, Nat.reduceEqDiff, Nat.reduceAdd, Nat.reduceMul, Nat.reduceLeDiff, Nat.reduceLT, Int.reduceEq, Int.toNat_natCast, t2, t3, hF.at 0 rfl]
      have e := pur H; subst e
      exact fx_ret (vs := [.int .i64 e4t_3]) (by first | (simp only [go_sem, ↓reduceIte, Nat.reduceEqDiff, Nat.reduceAdd, Nat.reduceMul, Nat.reduceLeDiff, Nat.reduceLT, Int.reduceEq, Int.toNat_natCast, t2, t3, hF.at 0 rfl]; done) | rfl | (simp only [go_sem, ↓reduceIte, Nat.reduceEqDiff, Nat.reduceAdd, Nat.reduceMul, Nat.reduceLeDiff, Nat.reduceLT, Int.reduceEq, Int.toNat_natCast, t2, t3, hF.at 0 rfl]; rfl)) (hF.wk0 _)
    · trivial
  · intro spec_l1Count spec_l1Count_l0 C0 L0 a0 z0t_3 z0t_4 out H c hc Q τ b1 hE hR T σ t1 t2 t3 t4 hF
    obtain rfl := Option.some.inj ((rfl : loopAt Try.f42 0 = some _).symm.trans hc)
    refine aLoop_round ?_
    try simp only [go_sem, ↓reduceIte, Nat.reduceEqDiff, Nat.reduceAdd, Nat.reduceMul, Nat.reduceLeDiff, Nat.reduceLT, Int.reduceEq, Int.toNat_natCast, t1, t2, t3, t4, hF.at 0 rfl]
    refine aCnd_p (z0t_4 < (a0.kids.length : Int)) rfl (fun h => ?_) (fun h => ?_)
    · rw [if_pos h] at H
      obtain ⟨x16, hx16, H⟩ := bnd H
      try simp only [go_sem, ↓reduceIte, Nat.reduceEqDiff, Nat.reduceAdd, Nat.reduceMul, Nat.reduceLeDiff, Nat.reduceLT, Int.reduceEq, Int.toNat_natCast, t1, t2, t3, t4, hF.at 0 rfl, aidx_idx (g := Fm.cells) Fm.cells_len hx16]
      obtain ⟨x18, hx18, H⟩ := bnd H
      refine aCall_pure (C0 x16 _ hx18) (by (try simp only [Fm.cells_eq]); exact WkVL.refl _) ?_
      try simp only [go_sem, ↓reduceIte, Nat.reduceEqDiff, Nat.reduceAdd, Nat.reduceMul, Nat.reduceLeDiff, Nat.reduceLT, Int.reduceEq, Int.toNat_natCast, t1, t2, t3, t4, hF.at 0 rfl]
      exact L0 a0 (IntKind.i64.wrap (z0t_3 + x18)) (IntKind.i64.wrap (z0t_4 + 1)) _ H _ rfl Q τ b1 hE hR _ _  (by first | (simp only [go_sem, ↓reduceIte, Nat.reduceEqDiff, Nat.reduceAdd, Nat.reduceMul, Nat.reduceLeDiff, Nat.reduceLT, Int.reduceEq, Int.toNat_natCast, t1, t2, t3, t4, hF.at 0 rfl]; done) | rfl | (simp only [go_sem, ↓reduceIte, Nat.reduceEqDiff, Nat.reduceAdd, Nat.reduceMul, Nat.reduceLeDiff, Nat.reduceLT, Int.reduceEq, Int.toNat_natCast, t1, t2, t3, t4, hF.at 0 rfl]; rfl)) (by first | (simp only [go_sem, ↓reduceIte, Nat.reduceEqDiff, Nat.reduceAdd, Nat.reduceMul, Nat.reduceLeDiff, Nat.reduceLT, Int.reduceEq, Int.toNat_natCast, t1, t2, t3, t4, hF.at 0 rfl]; done) | rfl | (simp only [go_sem, ↓reduceIte, Nat.reduceEqDiff, Nat.reduceAdd, Nat.reduceMul, Nat.reduceLeDiff, Nat.reduceLT, Int.reduceEq, Int.toNat_natCast, t1, t2, t3, t4, hF.at 0 rfl]; rfl)) (by first | (simp only [go_sem, ↓reduceIte, Nat.reduceEqDiff, Nat.reduceAdd, Nat.reduceMul, Nat.reduceLeDiff, Nat.reduceLT, Int.reduceEq, Int.toNat_natCast, t1, t2, t3, t4, hF.at 0 rfl]; done) | rfl | (simp only [go_sem, ↓reduceIte, Nat.reduceEqDiff, Nat.reduceAdd, Nat.reduceMul, Nat.reduceLeDiff, Nat.reduceLT, Int.reduceEq, Int.toNat_natCast, t1, t2, t3, t4, hF.at 0 rfl]; rfl)) (by first | (simp only [go_sem, ↓reduceIte, Nat.reduceEqDiff, Nat.reduceAdd, Nat.reduceMul, Nat.reduceLeDiff, Nat.reduceLT, Int.reduceEq, Int.toNat_natCast, t1, t2, t3, t4, hF.at 0 rfl]; done) | rfl | (simp only [go_sem, ↓reduceIte, Nat.reduceEqDiff, Nat.reduceAdd, Nat.reduceMul, Nat.reduceLeDiff, Nat.reduceLT, Int.reduceEq, Int.toNat_natCast, t1, t2, t3, t4, hF.at 0 rfl]; rfl)) hF
    · rw [if_neg h] at H
      try simp only [go_sem, ↓reduceIte, Nat.reduceEqDiff, Nat.reduceAdd, Nat.reduceMul, Nat.reduceLeDiff, Nat.reduceLT, Int.reduceEq, Int.toNat_natCast, t1, t2, t3, t4, hF.at 0 rfl]
      exact hE _ (pur H).symm _ _  (by first | (simp only [go_sem, ↓reduceIte, Nat.reduceEqDiff, Nat.reduceAdd, Nat.reduceMul, Nat.reduceLeDiff, Nat.reduceLT, Int.reduceEq, Int.toNat_natCast, t1, t2, t3, t4, hF.at 0 rfl]; done) | rfl | (simp only [go_sem, ↓reduceIte, Nat.reduceEqDiff, Nat.reduceAdd, Nat.reduceMul, Nat.reduceLeDiff, Nat.reduceLT, Int.reduceEq, Int.toNat_natCast, t1, t2, t3, t4, hF.at 0 rfl]; rfl)) (by first | (simp only [go_sem, ↓reduceIte, Nat.reduceEqDiff, Nat.reduceAdd, Nat.reduceMul, Nat.reduceLeDiff, Nat.reduceLT, Int.reduceEq, Int.toNat_natCast, t1, t2, t3, t4, hF.at 0 rfl]; done) | rfl | (simp only [go_sem, ↓reduceIte, Nat.reduceEqDiff, Nat.reduceAdd, Nat.reduceMul, Nat.reduceLeDiff, Nat.reduceLT, Int.reduceEq, Int.toNat_natCast, t1, t2, t3, t4, hF.at 0 rfl]; rfl)) hF
theorem spec_FormValid_ok : ∀ (a0 : Fm) r, spec_FormValid a0 = some r → PCtr Try.prog 27 [.agg (Fm.cells a0)] (.bool r) := by
  intro a0 r H
  intro σ
  unfold spec_FormValid at H
  refine ctr_of mixed Try.func27 rfl (by kernel_rfl) (rs := [.tmp 2]) rfl (by kernel_rfl) ?_
  have hF := Fx.refl σ
  have hX := Tau.none σ
  try simp only [go_sem, ↓reduceIte, Nat.reduceEqDiff, Nat.reduceAdd, Nat.reduceMul, Nat.reduceLeDiff, Nat.reduceLT, Int.reduceEq, Int.toNat_natCast]
  refine fx_alloc hF rfl fun b1 σ2 hF => ?_
  try simp only [go_sem, ↓reduceIte, Nat.reduceEqDiff, Nat.reduceAdd, Nat.reduceMul, Nat.reduceLeDiff, Nat.reduceLT, Int.reduceEq, Int.toNat_natCast, hF.at 0 rfl]
  obtain ⟨x4, hx4, H⟩ := bnd H
  refine aCall_pure (spec_l1Is_ok a0 40 _ hx4) (by (try simp only [Fm.cells_eq]); exact WkVL.refl _) ?_
  try simp only [go_sem, ↓reduceIte, Nat.reduceEqDiff, Nat.reduceAdd, Nat.reduceMul, Nat.reduceLeDiff, Nat.reduceLT, Int.reduceEq, Int.toNat_natCast, hF.at 0 rfl]
  obtain ⟨x9, g3, H⟩ := bnd H
  refine aGd_cutN 3 6 9 (.bool x9) (aGd_intro (fun q4 => ?_) (fun q4 => ?_)) (fun J => ?_)
  · rw [if_pos (q4)] at g3
    try simp only [go_sem, ↓reduceIte, Nat.reduceEqDiff, Nat.reduceAdd, Nat.reduceMul, Nat.reduceLeDiff, Nat.reduceLT, Int.reduceEq, Int.toNat_natCast, q4, hF.at 0 rfl]
    obtain ⟨x7, hx7, g3⟩ := bnd g3
    refine aCall_pure (spec_l1Count_ok a0 _ hx7) (by (try simp only [Fm.cells_eq]); exact WkVL.refl _) ?_
    try simp only [go_sem, ↓reduceIte, Nat.reduceEqDiff, Nat.reduceAdd, Nat.reduceMul, Nat.reduceLeDiff, Nat.reduceLT, Int.reduceEq, Int.toNat_natCast, q4, hF.at 0 rfl]
    refine cut_done 6 (by have e := pur g3; subst e; (first | rfl | (simp only [go_sem, ↓reduceIte, Nat.reduceEqDiff, Nat.reduceAdd, Nat.reduceMul, Nat.reduceLeDiff, Nat.reduceLT, Int.reduceEq, Int.toNat_natCast, q4]; done) | (simp only [go_sem, ↓reduceIte, Nat.reduceEqDiff, Nat.reduceAdd, Nat.reduceMul, Nat.reduceLeDiff, Nat.reduceLT, Int.reduceEq, Int.toNat_natCast, q4]; simp_all [upd_app]) | simp_all [upd_app])) ?_
    (repeat (first | refine agree_upd (by decide) ?_ | refine agree_low (by decide) ?_)) <;> (repeat (first | refine agree_updR (by decide) ?_ | refine agree_lowR (by decide) ?_)) <;> exact fun _ _ _ => rfl
  · rw [if_neg (b_f q4)] at g3
    try simp only [go_sem, ↓reduceIte, Nat.reduceEqDiff, Nat.reduceAdd, Nat.reduceMul, Nat.reduceLeDiff, Nat.reduceLT, Int.reduceEq, Int.toNat_natCast, q4, hF.at 0 rfl]
    refine cut_done 6 (by have e := pur g3; subst e; (first | rfl | (simp only [go_sem, ↓reduceIte, Nat.reduceEqDiff, Nat.reduceAdd, Nat.reduceMul, Nat.reduceLeDiff, Nat.reduceLT, Int.reduceEq, Int.toNat_natCast, q4]; done) | (simp only [go_sem, ↓reduceIte, Nat.reduceEqDiff, Nat.reduceAdd, Nat.reduceMul, Nat.reduceLeDiff, Nat.reduceLT, Int.reduceEq, Int.toNat_natCast, q4]; simp_all [upd_app]) | simp_all [upd_app])) ?_
    (repeat (first | refine agree_upd (by decide) ?_ | refine agree_low (by decide) ?_)) <;> (repeat (first | refine agree_updR (by decide) ?_ | refine agree_lowR (by decide) ?_)) <;> exact fun _ _ _ => rfl
  try simp only [go_sem, ↓reduceIte, Nat.reduceEqDiff, Nat.reduceAdd, Nat.reduceMul, Nat.reduceLeDiff, Nat.reduceLT, Int.reduceEq, Int.toNat_natCast, hF.at 0 rfl]
  have e := pur H; subst e
  exact fx_ret (vs := [.bool x9]) (by first | (simp only [go_sem, ↓reduceIte, Nat.reduceEqDiff, Nat.reduceAdd, Nat.reduceMul, Nat.reduceLeDiff, Nat.reduceLT, Int.reduceEq, Int.toNat_natCast, hF.at 0 rfl]; done) | rfl | (simp only [go_sem, ↓reduceIte, Nat.reduceEqDiff, Nat.reduceAdd, Nat.reduceMul, Nat.reduceLeDiff, Nat.reduceLT, Int.reduceEq, Int.toNat_natCast, hF.at 0 rfl]; rfl)) (hF.wk0 _)
theorem spec_ParseForm_ok : ∀ (a0 : ByteArray) r, spec_ParseForm a0 = some r → PCtr Try.prog 50 [.str a0] (.tup [.agg (Fm.cells r.1), .bool r.2]) := by
  intro a0 r H
  intro σ
  unfold spec_ParseForm at H
  refine ctr_of mixed Try.func50 rfl (by kernel_rfl) (rs := [.cell 2 26, .tmp 3]) rfl (by kernel_rfl) ?_
  have hF := Fx.refl σ
  have hX := Tau.none σ
  try simp only [go_sem, ↓reduceIte, Nat.reduceEqDiff, Nat.reduceAdd, Nat.reduceMul, Nat.reduceLeDiff, Nat.reduceLT, Int.reduceEq, Int.toNat_natCast]
  refine fx_alloc hF rfl fun b1 σ2 hF => ?_
  try simp only [go_sem, ↓reduceIte, Nat.reduceEqDiff, Nat.reduceAdd, Nat.reduceMul, Nat.reduceLeDiff, Nat.reduceLT, Int.reduceEq, Int.toNat_natCast, hF.at 0 rfl]
  obtain ⟨x8, hx8, H⟩ := bnd H
  refine aCall_pure (spec_l1Read_ok a0 0 40 _ hx8) (WkVL.refl _) ?_
  try simp only [go_sem, ↓reduceIte, Nat.reduceEqDiff, Nat.reduceAdd, Nat.reduceMul, Nat.reduceLeDiff, Nat.reduceLT, Int.reduceEq, Int.toNat_natCast, hF.at 0 rfl]
  refine fx_alloc hF rfl fun b3 σ4 hF => ?_
  try simp only [go_sem, ↓reduceIte, Nat.reduceEqDiff, Nat.reduceAdd, Nat.reduceMul, Nat.reduceLeDiff, Nat.reduceLT, Int.reduceEq, Int.toNat_natCast, hF.at 0 rfl, hF.at 1 rfl]
  refine fx_store hF 0 (cells' := [.int .i64 x8.1.kind, .str x8.1.name, .int .i64 x8.1.num, .sl false (rws cI x8.1.sc), .sl false (rws Fm.cells x8.1.kids)]) rfl rfl rfl (by simp only [List.length_cons, List.length_nil]; decide) (by first | rfl | simp [splice_eq]) fun σ5 hF => ?_
  try simp only [go_sem, ↓reduceIte, Nat.reduceEqDiff, Nat.reduceAdd, Nat.reduceMul, Nat.reduceLeDiff, Nat.reduceLT, Int.reduceEq, Int.toNat_natCast, hF.at 0 rfl, hF.at 1 rfl]
  obtain ⟨x20, g6, H⟩ := bnd H
  refine aGd_cutN 6 14 20 (.bool x20) (aGd_introN (fun q7 => ?_) (fun q7 => ?_)) (fun J => ?_)
  · rw [if_neg (of_decide_eq_false q7)] at g6
    try simp only [go_sem, ↓reduceIte, Nat.reduceEqDiff, Nat.reduceAdd, Nat.reduceMul, Nat.reduceLeDiff, Nat.reduceLT, Int.reduceEq, Int.toNat_natCast, q7, hF.at 0 rfl, hF.at 1 rfl]
    obtain ⟨x16, hx16, g6⟩ := bnd g6
    refine aCall_pure (spec_l1Skip_ok a0 x8.2 _ hx16) (WkVL.refl _) ?_
    try simp only [go_sem, ↓reduceIte, Nat.reduceEqDiff, Nat.reduceAdd, Nat.reduceMul, Nat.reduceLeDiff, Nat.reduceLT, Int.reduceEq, Int.toNat_natCast, q7, hF.at 0 rfl, hF.at 1 rfl]
    refine cut_done 14 (by have e := pur g6; subst e; (first | rfl | (simp only [go_sem, ↓reduceIte, Nat.reduceEqDiff, Nat.reduceAdd, Nat.reduceMul, Nat.reduceLeDiff, Nat.reduceLT, Int.reduceEq, Int.toNat_natCast, q7]; done) | (simp only [go_sem, ↓reduceIte, Nat.reduceEqDiff, Nat.reduceAdd, Nat.reduceMul, Nat.reduceLeDiff, Nat.reduceLT, Int.reduceEq, Int.toNat_natCast, q7]; simp_all [upd_app]) | simp_all [upd_app])) ?_
    (repeat (first | refine agree_upd (by decide) ?_ | refine agree_low (by decide) ?_)) <;> (repeat (first | refine agree_updR (by decide) ?_ | refine agree_lowR (by decide) ?_)) <;> exact fun _ _ _ => rfl
  · rw [if_pos (of_decide_eq_true q7)] at g6
    try simp only [go_sem, ↓reduceIte, Nat.reduceEqDiff, Nat.reduceAdd, Nat.reduceMul, Nat.reduceLeDiff, Nat.reduceLT, Int.reduceEq, Int.toNat_natCast, q7, hF.at 0 rfl, hF.at 1 rfl]
    refine cut_done 14 (by have e := pur g6; subst e; (first | rfl | (simp only [go_sem, ↓reduceIte, Nat.reduceEqDiff, Nat.reduceAdd, Nat.reduceMul, Nat.reduceLeDiff, Nat.reduceLT, Int.reduceEq, Int.toNat_natCast, q7]; done) | (simp only [go_sem, ↓reduceIte, Nat.reduceEqDiff, Nat.reduceAdd, Nat.reduceMul, Nat.reduceLeDiff, Nat.reduceLT, Int.reduceEq, Int.toNat_natCast, q7]; simp_all [upd_app]) | simp_all [upd_app])) ?_
    (repeat (first | refine agree_upd (by decide) ?_ | refine agree_low (by decide) ?_)) <;> (repeat (first | refine agree_updR (by decide) ?_ | refine agree_lowR (by decide) ?_)) <;> exact fun _ _ _ => rfl
  try simp only [go_sem, ↓reduceIte, Nat.reduceEqDiff, Nat.reduceAdd, Nat.reduceMul, Nat.reduceLeDiff, Nat.reduceLT, Int.reduceEq, Int.toNat_natCast, hF.at 0 rfl, hF.at 1 rfl]
  obtain ⟨x25, g8, H⟩ := bnd H
  refine aGd_cutN 3 22 25 (.bool x25) (aGd_introN (fun q9 => ?_) (fun q9 => ?_)) (fun J => ?_)
  · rw [if_neg (b_f q9)] at g8
    try simp only [go_sem, ↓reduceIte, Nat.reduceEqDiff, Nat.reduceAdd, Nat.reduceMul, Nat.reduceLeDiff, Nat.reduceLT, Int.reduceEq, Int.toNat_natCast, q9, hF.at 0 rfl, hF.at 1 rfl]
    obtain ⟨x23, hx23, g8⟩ := bnd g8
    refine aCall_pure (spec_FormValid_ok x8.1 _ hx23) (by (try simp only [Fm.cells_eq]); exact WkVL.refl _) ?_
    try simp only [go_sem, ↓reduceIte, Nat.reduceEqDiff, Nat.reduceAdd, Nat.reduceMul, Nat.reduceLeDiff, Nat.reduceLT, Int.reduceEq, Int.toNat_natCast, q9, hF.at 0 rfl, hF.at 1 rfl]
    refine cut_done 22 (by have e := pur g8; subst e; (first | rfl | (simp only [go_sem, ↓reduceIte, Nat.reduceEqDiff, Nat.reduceAdd, Nat.reduceMul, Nat.reduceLeDiff, Nat.reduceLT, Int.reduceEq, Int.toNat_natCast, q9]; done) | (simp only [go_sem, ↓reduceIte, Nat.reduceEqDiff, Nat.reduceAdd, Nat.reduceMul, Nat.reduceLeDiff, Nat.reduceLT, Int.reduceEq, Int.toNat_natCast, q9]; simp_all [upd_app]) | simp_all [upd_app])) ?_
    (repeat (first | refine agree_upd (by decide) ?_ | refine agree_low (by decide) ?_)) <;> (repeat (first | refine agree_updR (by decide) ?_ | refine agree_lowR (by decide) ?_)) <;> exact fun _ _ _ => rfl
  · rw [if_pos (q9)] at g8
    try simp only [go_sem, ↓reduceIte, Nat.reduceEqDiff, Nat.reduceAdd, Nat.reduceMul, Nat.reduceLeDiff, Nat.reduceLT, Int.reduceEq, Int.toNat_natCast, q9, hF.at 0 rfl, hF.at 1 rfl]
    refine cut_done 22 (by have e := pur g8; subst e; (first | rfl | (simp only [go_sem, ↓reduceIte, Nat.reduceEqDiff, Nat.reduceAdd, Nat.reduceMul, Nat.reduceLeDiff, Nat.reduceLT, Int.reduceEq, Int.toNat_natCast, q9]; done) | (simp only [go_sem, ↓reduceIte, Nat.reduceEqDiff, Nat.reduceAdd, Nat.reduceMul, Nat.reduceLeDiff, Nat.reduceLT, Int.reduceEq, Int.toNat_natCast, q9]; simp_all [upd_app]) | simp_all [upd_app])) ?_
    (repeat (first | refine agree_upd (by decide) ?_ | refine agree_low (by decide) ?_)) <;> (repeat (first | refine agree_updR (by decide) ?_ | refine agree_lowR (by decide) ?_)) <;> exact fun _ _ _ => rfl
  try simp only [go_sem, ↓reduceIte, Nat.reduceEqDiff, Nat.reduceAdd, Nat.reduceMul, Nat.reduceLeDiff, Nat.reduceLT, Int.reduceEq, Int.toNat_natCast, hF.at 0 rfl, hF.at 1 rfl]
  refine aCnd_b x25 rfl (fun h => ?_) (fun h => ?_)
  · rw [if_pos h] at H
    try simp only [go_sem, ↓reduceIte, Nat.reduceEqDiff, Nat.reduceAdd, Nat.reduceMul, Nat.reduceLeDiff, Nat.reduceLT, Int.reduceEq, Int.toNat_natCast, hF.at 0 rfl, hF.at 1 rfl]
    refine fx_store hF 1 (cells' := [.int .i64 0, .str (ByteArray.mk #[]), .int .i64 0, .nilsl, .nilsl]) rfl rfl rfl (by simp only [List.length_cons, List.length_nil]; decide) (by first | rfl | simp [splice_eq]) fun σ10 hF => ?_
    try simp only [go_sem, ↓reduceIte, Nat.reduceEqDiff, Nat.reduceAdd, Nat.reduceMul, Nat.reduceLeDiff, Nat.reduceLT, Int.reduceEq, Int.toNat_natCast, hF.at 0 rfl, hF.at 1 rfl]
    have e := pur H; subst e
    exact fx_ret (vs := [.agg [.int .i64 0, .str (ByteArray.mk #[]), .int .i64 0, .nilsl, .nilsl], .bool false]) (by first | (simp only [go_sem, ↓reduceIte, Nat.reduceEqDiff, Nat.reduceAdd, Nat.reduceMul, Nat.reduceLeDiff, Nat.reduceLT, Int.reduceEq, Int.toNat_natCast, hF.at 0 rfl, hF.at 1 rfl]; done) | rfl | (simp only [go_sem, ↓reduceIte, Nat.reduceEqDiff, Nat.reduceAdd, Nat.reduceMul, Nat.reduceLeDiff, Nat.reduceLT, Int.reduceEq, Int.toNat_natCast, hF.at 0 rfl, hF.at 1 rfl]; rfl)) (Wk.tup hF.sub (.cons (by (try simp only [Fm.cells_eq]); exact Wk.agg hF.sub (.cons (hF.wk0 _) id (.cons (hF.wk0 _) id (.cons (hF.wk0 _) id (.cons (Wk.val2 .nilsl hF.sub) (fun _ => rfl) (.cons (Wk.val2 .nilsl hF.sub) (fun _ => rfl) .nil)))))) (fun h => by first | exact h | rfl) (.cons (hF.wk0 _) (fun h => by first | exact h | rfl) .nil)))
  · rw [if_neg h] at H
    try simp only [go_sem, ↓reduceIte, Nat.reduceEqDiff, Nat.reduceAdd, Nat.reduceMul, Nat.reduceLeDiff, Nat.reduceLT, Int.reduceEq, Int.toNat_natCast, hF.at 0 rfl, hF.at 1 rfl]
    refine fx_store hF 1 (cells' := [.int .i64 x8.1.kind, .str x8.1.name, .int .i64 x8.1.num, .sl false (rws cI x8.1.sc), .sl false (rws Fm.cells x8.1.kids)]) rfl rfl rfl (by simp only [List.length_cons, List.length_nil]; decide) (by first | rfl | simp [splice_eq]) fun σ11 hF => ?_
    try simp only [go_sem, ↓reduceIte, Nat.reduceEqDiff, Nat.reduceAdd, Nat.reduceMul, Nat.reduceLeDiff, Nat.reduceLT, Int.reduceEq, Int.toNat_natCast, hF.at 0 rfl, hF.at 1 rfl]
    have e := pur H; subst e
    exact fx_ret (vs := [.agg [.int .i64 x8.1.kind, .str x8.1.name, .int .i64 x8.1.num, .sl false (rws cI x8.1.sc), .sl false (rws Fm.cells x8.1.kids)], .bool true]) (by first | (simp only [go_sem, ↓reduceIte, Nat.reduceEqDiff, Nat.reduceAdd, Nat.reduceMul, Nat.reduceLeDiff, Nat.reduceLT, Int.reduceEq, Int.toNat_natCast, hF.at 0 rfl, hF.at 1 rfl]; done) | rfl | (simp only [go_sem, ↓reduceIte, Nat.reduceEqDiff, Nat.reduceAdd, Nat.reduceMul, Nat.reduceLeDiff, Nat.reduceLT, Int.reduceEq, Int.toNat_natCast, hF.at 0 rfl, hF.at 1 rfl]; rfl)) (Wk.tup hF.sub (.cons (by (try simp only [Fm.cells_eq]); exact Wk.agg hF.sub (.cons (hF.wk0 _) id (.cons (hF.wk0 _) id (.cons (hF.wk0 _) id (.cons (hF.wk0 _) id (.cons (hF.wk0 _) id .nil)))))) (fun h => by first | exact h | rfl) (.cons (hF.wk0 _) (fun h => by first | exact h | rfl) .nil)))
theorem spec_l1Parse_ok : ∀ (a0 : ByteArray) r, spec_l1Parse a0 = some r → PCtr Try.prog 44 [.str a0] (.agg (Fm.cells r)) := by
  intro a0 r H
  intro σ
  unfold spec_l1Parse at H
  refine ctr_of mixed Try.func44 rfl (by kernel_rfl) (rs := [.cell 2 26]) rfl (by kernel_rfl) ?_
  have hF := Fx.refl σ
  have hX := Tau.none σ
  try simp only [go_sem, ↓reduceIte, Nat.reduceEqDiff, Nat.reduceAdd, Nat.reduceMul, Nat.reduceLeDiff, Nat.reduceLT, Int.reduceEq, Int.toNat_natCast]
  refine fx_alloc hF rfl fun b1 σ2 hF => ?_
  try simp only [go_sem, ↓reduceIte, Nat.reduceEqDiff, Nat.reduceAdd, Nat.reduceMul, Nat.reduceLeDiff, Nat.reduceLT, Int.reduceEq, Int.toNat_natCast, hF.at 0 rfl]
  obtain ⟨x7, hx7, H⟩ := bnd H
  refine aCall_pure (spec_ParseForm_ok a0 _ hx7) (WkVL.refl _) ?_
  try simp only [go_sem, ↓reduceIte, Nat.reduceEqDiff, Nat.reduceAdd, Nat.reduceMul, Nat.reduceLeDiff, Nat.reduceLT, Int.reduceEq, Int.toNat_natCast, hF.at 0 rfl]
  refine fx_alloc hF rfl fun b3 σ4 hF => ?_
  try simp only [go_sem, ↓reduceIte, Nat.reduceEqDiff, Nat.reduceAdd, Nat.reduceMul, Nat.reduceLeDiff, Nat.reduceLT, Int.reduceEq, Int.toNat_natCast, hF.at 0 rfl, hF.at 1 rfl]
  refine fx_store hF 0 (cells' := [.int .i64 x7.1.kind, .str x7.1.name, .int .i64 x7.1.num, .sl false (rws cI x7.1.sc), .sl false (rws Fm.cells x7.1.kids)]) rfl rfl rfl (by simp only [List.length_cons, List.length_nil]; decide) (by first | rfl | simp [splice_eq]) fun σ5 hF => ?_
  try simp only [go_sem, ↓reduceIte, Nat.reduceEqDiff, Nat.reduceAdd, Nat.reduceMul, Nat.reduceLeDiff, Nat.reduceLT, Int.reduceEq, Int.toNat_natCast, hF.at 0 rfl, hF.at 1 rfl]
  refine fx_store hF 1 (cells' := [.int .i64 x7.1.kind, .str x7.1.name, .int .i64 x7.1.num, .sl false (rws cI x7.1.sc), .sl false (rws Fm.cells x7.1.kids)]) rfl rfl rfl (by simp only [List.length_cons, List.length_nil]; decide) (by first | rfl | simp [splice_eq]) fun σ6 hF => ?_
  try simp only [go_sem, ↓reduceIte, Nat.reduceEqDiff, Nat.reduceAdd, Nat.reduceMul, Nat.reduceLeDiff, Nat.reduceLT, Int.reduceEq, Int.toNat_natCast, hF.at 0 rfl, hF.at 1 rfl]
  have e := pur H; subst e
  exact fx_ret (vs := [.agg [.int .i64 x7.1.kind, .str x7.1.name, .int .i64 x7.1.num, .sl false (rws cI x7.1.sc), .sl false (rws Fm.cells x7.1.kids)]]) (by first | (simp only [go_sem, ↓reduceIte, Nat.reduceEqDiff, Nat.reduceAdd, Nat.reduceMul, Nat.reduceLeDiff, Nat.reduceLT, Int.reduceEq, Int.toNat_natCast, hF.at 0 rfl, hF.at 1 rfl]; done) | rfl | (simp only [go_sem, ↓reduceIte, Nat.reduceEqDiff, Nat.reduceAdd, Nat.reduceMul, Nat.reduceLeDiff, Nat.reduceLT, Int.reduceEq, Int.toNat_natCast, hF.at 0 rfl, hF.at 1 rfl]; rfl)) (by (try simp only [Fm.cells_eq]); exact Wk.agg hF.sub (.cons (hF.wk0 _) id (.cons (hF.wk0 _) id (.cons (hF.wk0 _) id (.cons (hF.wk0 _) id (.cons (hF.wk0 _) id .nil))))))
theorem spec_l7Texts_ok : ∀  r, spec_l7Texts  = some r → PCtr Try.prog 51 [] (.sl false (rws cS r)) := by
  intro  r H
  intro σ
  unfold spec_l7Texts at H
  refine ctr_of mixed Try.func51 rfl (by kernel_rfl) (rs := [.tmp 0]) rfl (by kernel_rfl) ?_
  have hF := Fx.refl σ
  have hX := Tau.none σ
  try simp only [go_sem, ↓reduceIte, Nat.reduceEqDiff, Nat.reduceAdd, Nat.reduceMul, Nat.reduceLeDiff, Nat.reduceLT, Int.reduceEq, Int.toNat_natCast, List.append_eq, List.cons_append, List.nil_append]
  have e := pur H; subst e
  exact fx_ret (vs := [.sl true (rws cS [(ByteArray.mk #[40, 108, 101, 116, 32, 40, 40, 120, 32, 49, 41, 32, 40, 121, 32, 50, 41, 41, 32, 40, 108, 101, 116, 45, 115, 121, 110, 116, 97, 120, 32, 40, 40, 115, 119, 97, 112, 32, 40, 114, 117, 108, 101, 115, 32, 40, 41, 32, 40, 40, 95, 32, 97, 32, 98, 41, 32, 40, 108, 101, 116, 32, 40, 40, 116, 109, 112, 32, 97, 41, 41, 32, 40, 108, 105, 115, 116, 32, 98, 32, 116, 109, 112, 41, 41, 41, 41, 41, 41, 32, 40, 115, 119, 97, 112, 32, 120, 32, 121, 41, 41, 41]), (ByteArray.mk #[40, 108, 101, 116, 32, 40, 40, 116, 109, 112, 32, 53, 41, 32, 40, 122, 32, 54, 41, 41, 32, 40, 108, 101, 116, 45, 115, 121, 110, 116, 97, 120, 32, 40, 40, 115, 119, 97, 112, 32, 40, 114, 117, 108, 101, 115, 32, 40, 41, 32, 40, 40, 95, 32, 97, 32, 98, 41, 32, 40, 108, 101, 116, 32, 40, 40, 116, 109, 112, 32, 97, 41, 41, 32, 40, 108, 105, 115, 116, 32, 98, 32, 116, 109, 112, 41, 41, 41, 41, 41, 41, 32, 40, 115, 119, 97, 112, 32, 116, 109, 112, 32, 122, 41, 41, 41]), (ByteArray.mk #[40, 108, 101, 116, 45, 115, 121, 110, 116, 97, 120, 32, 40, 40, 111, 114, 32, 40, 114, 117, 108, 101, 115, 32, 40, 41, 32, 40, 40, 95, 41, 32, 48, 41, 32, 40, 40, 95, 32, 97, 41, 32, 97, 41, 32, 40, 40, 95, 32, 97, 32, 98, 32, 46, 46, 46, 41, 32, 40, 108, 101, 116, 32, 40, 40, 116, 32, 97, 41, 41, 32, 40, 105, 102, 32, 116, 32, 116, 32, 40, 111, 114, 32, 98, 32, 46, 46, 46, 41, 41, 41, 41, 41, 41, 41, 32, 40, 108, 101, 116, 32, 40, 40, 116, 32, 53, 41, 41, 32, 40, 111, 114, 32, 48, 32, 116, 32, 55, 41, 41, 41]), (ByteArray.mk #[40, 108, 101, 116, 45, 115, 121, 110, 116, 97, 120, 32, 40, 40, 119, 105, 116, 104, 32, 40, 114, 117, 108, 101, 115, 32, 40, 41, 32, 40, 40, 95, 32, 40, 40, 120, 32, 118, 41, 32, 46, 46, 46, 41, 32, 98, 111, 100, 121, 41, 32, 40, 40, 108, 97, 109, 98, 100, 97, 32, 40, 120, 32, 46, 46, 46, 41, 32, 98, 111, 100, 121, 41, 32, 118, 32, 46, 46, 46, 41, 41, 41, 41, 41, 32, 40, 119, 105, 116, 104, 32, 40, 40, 112, 32, 49, 41, 32, 40, 113, 32, 50, 41, 41, 32, 40, 43, 32, 112, 32, 113, 41, 41, 41]), (ByteArray.mk #[40, 108, 101, 116, 32, 40, 40, 105, 102, 32, 108, 105, 115, 116, 41, 41, 32, 40, 108, 101, 116, 45, 115, 121, 110, 116, 97, 120, 32, 40, 40, 109, 32, 40, 114, 117, 108, 101, 115, 32, 40, 41, 32, 40, 40, 95, 32, 97, 41, 32, 40, 105, 102, 32, 97, 32, 49, 32, 50, 41, 41, 41, 41, 41, 32, 40, 109, 32, 53, 41, 41, 41]), (ByteArray.mk #[40, 108, 101, 116, 45, 115, 121, 110, 116, 97, 120, 32, 40, 40, 109, 32, 40, 114, 117, 108, 101, 115, 32, 40, 41, 32, 40, 40, 95, 32, 97, 41, 32, 40, 105, 102, 32, 97, 32, 49, 32, 50, 41, 41, 41, 41, 41, 32, 40, 108, 101, 116, 32, 40, 40, 105, 102, 32, 108, 105, 115, 116, 41, 41, 32, 40, 109, 32, 105, 102, 41, 41, 41]), (ByteArray.mk #[40, 108, 101, 116, 45, 115, 121, 110, 116, 97, 120, 32, 40, 40, 107, 32, 40, 114, 117, 108, 101, 115, 32, 40, 101, 108, 115, 101, 41, 32, 40, 40, 95, 32, 101, 108, 115, 101, 32, 97, 41, 32, 97, 41, 32, 40, 40, 95, 32, 98, 32, 97, 41, 32, 40, 108, 105, 115, 116, 32, 98, 32, 97, 41, 41, 41, 41, 41, 32, 40, 108, 101, 116, 32, 40, 40, 101, 108, 115, 101, 32, 51, 41, 41, 32, 40, 107, 32, 101, 108, 115, 101, 32, 52, 41, 41, 41]), (ByteArray.mk #[40, 108, 101, 116, 45, 115, 121, 110, 116, 97, 120, 32, 40, 40, 107, 32, 40, 114, 117, 108, 101, 115, 32, 40, 101, 108, 115, 101, 41, 32, 40, 40, 95, 32, 101, 108, 115, 101, 32, 97, 41, 32, 97, 41, 32, 40, 40, 95, 32, 98, 32, 97, 41, 32, 40, 108, 105, 115, 116, 32, 98, 32, 97, 41, 41, 41, 41, 41, 32, 40, 107, 32, 101, 108, 115, 101, 32, 52, 41, 41]), (ByteArray.mk #[40, 108, 101, 116, 45, 115, 121, 110, 116, 97, 120, 32, 40, 40, 108, 111, 111, 112, 32, 40, 114, 117, 108, 101, 115, 32, 40, 41, 32, 40, 40, 95, 41, 32, 40, 108, 111, 111, 112, 41, 41, 41, 41, 41, 32, 40, 108, 111, 111, 112, 41, 41]), (ByteArray.mk #[40, 108, 101, 116, 45, 115, 121, 110, 116, 97, 120, 32, 40, 40, 109, 32, 40, 114, 117, 108, 101, 115, 32, 40, 41, 32, 40, 40, 95, 32, 97, 41, 32, 49, 41, 41, 41, 41, 32, 40, 109, 41, 41]), (ByteArray.mk #[40, 108, 97, 109, 98, 100, 97, 32, 40, 120, 41, 32, 40, 108, 97, 109, 98, 100, 97, 32, 40, 120, 32, 121, 41, 32, 40, 120, 32, 121, 32, 40, 113, 117, 111, 116, 101, 32, 40, 120, 32, 49, 41, 41, 41, 41, 41]), (ByteArray.mk #[40, 108, 101, 116, 45, 115, 121, 110, 116, 97, 120, 32, 40, 40, 100, 101, 102, 32, 40, 114, 117, 108, 101, 115, 32, 40, 41, 32, 40, 40, 95, 32, 110, 32, 101, 32, 98, 41, 32, 40, 108, 101, 116, 32, 40, 40, 110, 32, 101, 41, 41, 32, 98, 41, 41, 41, 41, 41, 32, 40, 100, 101, 102, 32, 122, 32, 51, 32, 40, 43, 32, 122, 32, 122, 41, 41, 41]), (ByteArray.mk #[40, 108, 101, 116, 45, 115, 121, 110, 116, 97, 120, 32, 40, 40, 97, 32, 40, 114, 117, 108, 101, 115, 32, 40, 41, 32, 40, 40, 95, 32, 120, 41, 32, 40, 98, 32, 120, 41, 41, 41, 41, 32, 40, 98, 32, 40, 114, 117, 108, 101, 115, 32, 40, 41, 32, 40, 40, 95, 32, 121, 41, 32, 40, 108, 105, 115, 116, 32, 121, 32, 121, 41, 41, 41, 41, 41, 32, 40, 97, 32, 55, 41, 41]), (ByteArray.mk #[40, 108, 101, 116, 45, 115, 121, 110, 116, 97, 120, 32, 40, 40, 109, 121, 32, 40, 114, 117, 108, 101, 115, 32, 40, 41, 32, 40, 40, 95, 32, 102, 41, 32, 40, 108, 97, 109, 98, 100, 97, 32, 40, 120, 41, 32, 40, 102, 32, 120, 41, 41, 41, 41, 41, 41, 32, 40, 108, 101, 116, 32, 40, 40, 120, 32, 51, 41, 41, 32, 40, 40, 109, 121, 32, 40, 108, 97, 109, 98, 100, 97, 32, 40, 121, 41, 32, 40, 43, 32, 120, 32, 121, 41, 41, 41, 32, 52, 41, 41, 41]), (ByteArray.mk #[40, 108, 101, 116, 45, 115, 121, 110, 116, 97, 120, 32, 40, 40, 116, 119, 111, 32, 40, 114, 117, 108, 101, 115, 32, 40, 41, 32, 40, 40, 95, 32, 110, 41, 32, 40, 108, 97, 109, 98, 100, 97, 32, 40, 110, 32, 120, 41, 32, 40, 43, 32, 110, 32, 120, 41, 41, 41, 41, 41, 41, 32, 40, 116, 119, 111, 32, 120, 41, 41])])]) (by first | (simp only [go_sem, ↓reduceIte, Nat.reduceEqDiff, Nat.reduceAdd, Nat.reduceMul, Nat.reduceLeDiff, Nat.reduceLT, Int.reduceEq, Int.toNat_natCast, List.append_eq, List.cons_append, List.nil_append]; done) | rfl | (simp only [go_sem, ↓reduceIte, Nat.reduceEqDiff, Nat.reduceAdd, Nat.reduceMul, Nat.reduceLeDiff, Nat.reduceLT, Int.reduceEq, Int.toNat_natCast, List.append_eq, List.cons_append, List.nil_append]; rfl)) (Wk.val2 (.slT _) hF.sub)
theorem spec_l15Rd_num_ok : ∀ (a1 : List Int) (c0 : Rdr) r, spec_l15Rd_num a1 c0 = some r → ∀ (e0 : Nat)  (σ : Sto), Pre σ [(e0, ⟨59, 2, [.sl false (rws cU c0.b), .int .i64 c0.p]⟩)] [] → Ctr Try.prog 35 [.ptr e0 0, .sl false (rws cI a1)] σ (fun r' σ' => ∃ (τ' : Sto), r' = .int .i64 r.1 ∧ Tau (strip σ []) [(e0, ⟨59, 2, [.sl false (rws cU r.2.b), .int .i64 r.2.p]⟩)] τ' ∧ Fx τ' σ' [] []) := by
  intro a1 c0 r H
  intro e0  σ hP
  unfold spec_l15Rd_num at H
  refine ctr_of mixed Try.func35 rfl (by kernel_rfl) (rs := [.tmp 4]) rfl (by kernel_rfl) ?_
  obtain ⟨hF, hX⟩ := hP.start
  generalize strip σ [] = τ0 at hF hX ⊢
  try simp only [go_sem, ↓reduceIte, Nat.reduceEqDiff, Nat.reduceAdd, Nat.reduceMul, Nat.reduceLeDiff, Nat.reduceLT, Int.reduceEq, Int.toNat_natCast, hF.xat hX 0 rfl]
  obtain ⟨x9, hx9, H⟩ := bnd H
  refine aCall_ctr (spec_l15Rd_pick_ok (a1.length : Int) c0 _ hx9 e0  _ (Fx.pre (esL := []) (bsr := []) (esX := [(e0, ⟨59, 2, [.sl false (rws cU c0.b), .int .i64 c0.p]⟩)]) (xsr := []) (ms0 := []) (msr := []) hF hX)) (WkVL.refl _) ?_
  rintro _ σ1 ⟨τ2, rfl, hT, hG⟩
  obtain ⟨τ3, hX, hF⟩ := Fx.after (bn := []) (esL := []) (bsr := []) (esX := [(e0, ⟨59, 2, [.sl false (rws cU c0.b), .int .i64 c0.p]⟩)]) (xsr := []) (ms0 := []) (msr := []) (esL' := []) (esX' := [(e0, ⟨59, 2, [.sl false (rws cU x9.2.b), .int .i64 x9.2.p]⟩)]) hF hX hT hG rfl rfl
  have hX : Tau τ0 [(e0, ⟨59, 2, [.sl false (rws cU x9.2.b), .int .i64 x9.2.p]⟩)] τ3 := hX
  have hF : Fx τ3 σ1 [] [] := hF
  obtain ⟨x10, hx10, H⟩ := bnd H
  try simp only [go_sem, ↓reduceIte, Nat.reduceEqDiff, Nat.reduceAdd, Nat.reduceMul, Nat.reduceLeDiff, Nat.reduceLT, Int.reduceEq, Int.toNat_natCast, hF.xat hX 0 rfl, aidx_idx (g := cI) (fun _ => rfl) hx10]
  have e := pur H; subst e
  exact gRet (vs := [.int .i64 x10]) (by first | (simp only [go_sem, ↓reduceIte, Nat.reduceEqDiff, Nat.reduceAdd, Nat.reduceMul, Nat.reduceLeDiff, Nat.reduceLT, Int.reduceEq, Int.toNat_natCast, hF.xat hX 0 rfl]; done) | rfl | (simp only [go_sem, ↓reduceIte, Nat.reduceEqDiff, Nat.reduceAdd, Nat.reduceMul, Nat.reduceLeDiff, Nat.reduceLT, Int.reduceEq, Int.toNat_natCast, hF.xat hX 0 rfl]; rfl)) (hF.wk0 _) ⟨_, rfl, hX, Fx.self _⟩
theorem spec_l1Name_ok : ∀ (a0 : ByteArray) r, spec_l1Name a0 = some r → PCtr Try.prog 54 [.str a0] (.agg (Fm.cells r)) := by
  intro a0 r H
  intro σ
  unfold spec_l1Name at H
  refine ctr_of mixed Try.func54 rfl (by kernel_rfl) (rs := [.cell 2 26]) rfl (by kernel_rfl) ?_
  have hF := Fx.refl σ
  have hX := Tau.none σ
  try simp only [go_sem, ↓reduceIte, Nat.reduceEqDiff, Nat.reduceAdd, Nat.reduceMul, Nat.reduceLeDiff, Nat.reduceLT, Int.reduceEq, Int.toNat_natCast]
  refine fx_alloc hF rfl fun b1 σ2 hF => ?_
  try simp only [go_sem, ↓reduceIte, Nat.reduceEqDiff, Nat.reduceAdd, Nat.reduceMul, Nat.reduceLeDiff, Nat.reduceLT, Int.reduceEq, Int.toNat_natCast, hF.at 0 rfl]
  refine fx_store hF 0 (cells' := [.int .i64 1, .str a0, .int .i64 0, .nilsl, .nilsl]) rfl rfl rfl (by simp only [List.length_cons, List.length_nil]; decide) (by first | rfl | simp [splice_eq]) fun σ3 hF => ?_
  try simp only [go_sem, ↓reduceIte, Nat.reduceEqDiff, Nat.reduceAdd, Nat.reduceMul, Nat.reduceLeDiff, Nat.reduceLT, Int.reduceEq, Int.toNat_natCast, hF.at 0 rfl]
  have e := pur H; subst e
  exact fx_ret (vs := [.agg [.int .i64 1, .str a0, .int .i64 0, .nilsl, .nilsl]]) (by first | (simp only [go_sem, ↓reduceIte, Nat.reduceEqDiff, Nat.reduceAdd, Nat.reduceMul, Nat.reduceLeDiff, Nat.reduceLT, Int.reduceEq, Int.toNat_natCast, hF.at 0 rfl]; done) | rfl | (simp only [go_sem, ↓reduceIte, Nat.reduceEqDiff, Nat.reduceAdd, Nat.reduceMul, Nat.reduceLeDiff, Nat.reduceLT, Int.reduceEq, Int.toNat_natCast, hF.at 0 rfl]; rfl)) (by (try simp only [Fm.cells_eq]); exact Wk.agg hF.sub (.cons (hF.wk0 _) id (.cons (hF.wk0 _) id (.cons (hF.wk0 _) id (.cons (Wk.val2 .nilsl hF.sub) (fun _ => rfl) (.cons (Wk.val2 .nilsl hF.sub) (fun _ => rfl) .nil))))))
theorem spec_l15Rd_of_ok : ∀ (a1 : List ByteArray) (c0 : Rdr) r, spec_l15Rd_of a1 c0 = some r → ∀ (e0 : Nat)  (σ : Sto), Pre σ [(e0, ⟨59, 2, [.sl false (rws cU c0.b), .int .i64 c0.p]⟩)] [] → Ctr Try.prog 18 [.ptr e0 0, .sl false (rws cS a1)] σ (fun r' σ' => ∃ (τ' : Sto), r' = .str r.1 ∧ Tau (strip σ []) [(e0, ⟨59, 2, [.sl false (rws cU r.2.b), .int .i64 r.2.p]⟩)] τ' ∧ Fx τ' σ' [] []) := by
  intro a1 c0 r H
  intro e0  σ hP
  unfold spec_l15Rd_of at H
  refine ctr_of mixed Try.func18 rfl (by kernel_rfl) (rs := [.tmp 4]) rfl (by kernel_rfl) ?_
  obtain ⟨hF, hX⟩ := hP.start
  generalize strip σ [] = τ0 at hF hX ⊢
  try simp only [go_sem, ↓reduceIte, Nat.reduceEqDiff, Nat.reduceAdd, Nat.reduceMul, Nat.reduceLeDiff, Nat.reduceLT, Int.reduceEq, Int.toNat_natCast, hF.xat hX 0 rfl]
  obtain ⟨x9, hx9, H⟩ := bnd H
  refine aCall_ctr (spec_l15Rd_pick_ok (a1.length : Int) c0 _ hx9 e0  _ (Fx.pre (esL := []) (bsr := []) (esX := [(e0, ⟨59, 2, [.sl false (rws cU c0.b), .int .i64 c0.p]⟩)]) (xsr := []) (ms0 := []) (msr := []) hF hX)) (WkVL.refl _) ?_
  rintro _ σ1 ⟨τ2, rfl, hT, hG⟩
  obtain ⟨τ3, hX, hF⟩ := Fx.after (bn := []) (esL := []) (bsr := []) (esX := [(e0, ⟨59, 2, [.sl false (rws cU c0.b), .int .i64 c0.p]⟩)]) (xsr := []) (ms0 := []) (msr := []) (esL' := []) (esX' := [(e0, ⟨59, 2, [.sl false (rws cU x9.2.b), .int .i64 x9.2.p]⟩)]) hF hX hT hG rfl rfl
  have hX : Tau τ0 [(e0, ⟨59, 2, [.sl false (rws cU x9.2.b), .int .i64 x9.2.p]⟩)] τ3 := hX
  have hF : Fx τ3 σ1 [] [] := hF
  obtain ⟨x10, hx10, H⟩ := bnd H
  try simp only [go_sem, ↓reduceIte, Nat.reduceEqDiff, Nat.reduceAdd, Nat.reduceMul, Nat.reduceLeDiff, Nat.reduceLT, Int.reduceEq, Int.toNat_natCast, hF.xat hX 0 rfl, aidx_idx (g := cS) (fun _ => rfl) hx10]
  have e := pur H; subst e
  exact gRet (vs := [.str x10]) (by first | (simp only [go_sem, ↓reduceIte, Nat.reduceEqDiff, Nat.reduceAdd, Nat.reduceMul, Nat.reduceLeDiff, Nat.reduceLT, Int.reduceEq, Int.toNat_natCast, hF.xat hX 0 rfl]; done) | rfl | (simp only [go_sem, ↓reduceIte, Nat.reduceEqDiff, Nat.reduceAdd, Nat.reduceMul, Nat.reduceLeDiff, Nat.reduceLT, Int.reduceEq, Int.toNat_natCast, hF.xat hX 0 rfl]; rfl)) (hF.wk0 _) ⟨_, rfl, hX, Fx.self _⟩
theorem spec_l1List_ok : ∀ (a0 : List Fm) r, spec_l1List a0 = some r → PCtr Try.prog 53 [.sl false (rws Fm.cells a0)] (.agg (Fm.cells r)) := by
  intro a0 r H
  intro σ
  unfold spec_l1List at H
  refine ctr_of mixed Try.func53 rfl (by kernel_rfl) (rs := [.cell 2 26]) rfl (by kernel_rfl) ?_
  have hF := Fx.refl σ
  have hX := Tau.none σ
  try simp only [go_sem, ↓reduceIte, Nat.reduceEqDiff, Nat.reduceAdd, Nat.reduceMul, Nat.reduceLeDiff, Nat.reduceLT, Int.reduceEq, Int.toNat_natCast]
  refine fx_alloc hF rfl fun b1 σ2 hF => ?_
  try simp only [go_sem, ↓reduceIte, Nat.reduceEqDiff, Nat.reduceAdd, Nat.reduceMul, Nat.reduceLeDiff, Nat.reduceLT, Int.reduceEq, Int.toNat_natCast, hF.at 0 rfl]
  refine fx_store hF 0 (cells' := [.int .i64 3, .str (ByteArray.mk #[]), .int .i64 0, .nilsl, .sl false (rws Fm.cells a0)]) rfl rfl rfl (by simp only [List.length_cons, List.length_nil]; decide) (by first | rfl | simp [splice_eq]) fun σ3 hF => ?_
  try simp only [go_sem, ↓reduceIte, Nat.reduceEqDiff, Nat.reduceAdd, Nat.reduceMul, Nat.reduceLeDiff, Nat.reduceLT, Int.reduceEq, Int.toNat_natCast, hF.at 0 rfl]
  have e := pur H; subst e
  exact fx_ret (vs := [.agg [.int .i64 3, .str (ByteArray.mk #[]), .int .i64 0, .nilsl, .sl false (rws Fm.cells a0)]]) (by first | (simp only [go_sem, ↓reduceIte, Nat.reduceEqDiff, Nat.reduceAdd, Nat.reduceMul, Nat.reduceLeDiff, Nat.reduceLT, Int.reduceEq, Int.toNat_natCast, hF.at 0 rfl]; done) | rfl | (simp only [go_sem, ↓reduceIte, Nat.reduceEqDiff, Nat.reduceAdd, Nat.reduceMul, Nat.reduceLeDiff, Nat.reduceLT, Int.reduceEq, Int.toNat_natCast, hF.at 0 rfl]; rfl)) (by (try simp only [Fm.cells_eq]); exact Wk.agg hF.sub (.cons (hF.wk0 _) id (.cons (hF.wk0 _) id (.cons (hF.wk0 _) id (.cons (Wk.val2 .nilsl hF.sub) (fun _ => rfl) (.cons (hF.wk0 _) id .nil))))))
end Go.Proofs.SA
