/- The code computes the plain functions: walks, printed by a program of mine. -/
import Derived.Test.YtmhcigdcappdgaaGy
import Derived.Test.YtmhcigdcappdgaaSaTy
import Derived.Test.YtmhcigdcappdgaaCnD
import Derived.Test.YtmhcigdcappdgaaCnW1
set_option maxRecDepth 100000
set_option linter.unusedSimpArgs false
set_option linter.unusedVariables false
open Go Go.Proofs Go.Proofs.Shadow
namespace Go.Proofs.SA
theorem impl_eachForm__impl_CountName_c1_ok : ∀ (a0 : Fm) (c0 : ByteArray) (c1 : Int) r, impl_eachForm__impl_CountName_c1 a0 c0 c1 = some r → ∀ (e0 : Nat) (e1 : Nat)  (σ : Sto), Pre σ [(e0, ⟨9, 1, [.str c0]⟩), (e1, ⟨3, 1, [.int .i64 c1]⟩)] [] → Ctr Try.prog 19 [.agg (Fm.cells a0), .fn 20 [.ptr e0 0, .ptr e1 0]] σ (fun r' σ' => ∃ (τ' : Sto), r' = .tup [] ∧ Tau (strip σ []) [(e0, ⟨9, 1, [.str c0]⟩), (e1, ⟨3, 1, [.int .i64 r]⟩)] τ' ∧ Fx τ' σ' [] []) := by
  intro a0 c0 c1
  revert a0 c1
  refine impl_eachForm__impl_CountName_c1.partial_correctness c0 (motive_1 := fun a0 c1 r => ∀ (e0 : Nat) (e1 : Nat)  (σ : Sto), Pre σ [(e0, ⟨9, 1, [.str c0]⟩), (e1, ⟨3, 1, [.int .i64 c1]⟩)] [] → Ctr Try.prog 19 [.agg (Fm.cells a0), .fn 20 [.ptr e0 0, .ptr e1 0]] σ (fun r' σ' => ∃ (τ' : Sto), r' = .tup [] ∧ Tau (strip σ []) [(e0, ⟨9, 1, [.str c0]⟩), (e1, ⟨3, 1, [.int .i64 r]⟩)] τ' ∧ Fx τ' σ' [] [])) (motive_2 := fun a0 z0t_12 z0x_1_0 out => ∀ c, loopAt Try.f19 0 = some c → ∀ (Q : AX → AS → Prop) (τ0 : Sto) (e0 : Nat) (e1 : Nat) (b1 : Nat), (∀ (e0x_1_0 : Int), out = e0x_1_0 → ∀ (T : Nat → AV) (σ : Sto) (τ : Sto), Tau τ0 [(e0, ⟨9, 1, [.str c0]⟩), (e1, ⟨3, 1, [.int .i64 e0x_1_0]⟩)] τ → Fx τ σ [(b1, ⟨26, 5, [.int .i64 a0.kind, .str a0.name, .int .i64 a0.num, .sl false (rws cI a0.sc), .sl false (rws Fm.cells a0.kids)]⟩)] [] → Q (.ex 0) ⟨T, σ⟩) → True → ∀ (T : Nat → AV) (σ : Sto) (τ : Sto), T 1 = .fn 20 [.ptr e0 0, .ptr e1 0] → T 10 = .sl false (rws Fm.cells a0.kids) → T 11 = .int .i64 (a0.kids.length : Int) → T 12 = .int .i64 z0t_12 → Tau τ0 [(e0, ⟨9, 1, [.str c0]⟩), (e1, ⟨3, 1, [.int .i64 z0x_1_0]⟩)] τ → Fx τ σ [(b1, ⟨26, 5, [.int .i64 a0.kind, .str a0.name, .int .i64 a0.num, .sl false (rws cI a0.sc), .sl false (rws Fm.cells a0.kids)]⟩)] [] → aLoop (acode Try.prog c) Q ⟨T, σ⟩) ?_ ?_
  · intro impl_eachForm__impl_CountName_c1_l0 L0 a0 c1 r H
    intro e0 e1  σ hP
    refine ctr_of mixed Try.func19 rfl (by kernel_rfl) (rs := []) rfl (by kernel_rfl) ?_
    obtain ⟨hF, hX⟩ := hP.start
    generalize strip σ [] = τ0 at hF hX ⊢
    try simp only [go_sem, ↓reduceIte, Nat.reduceEqDiff, Nat.reduceAdd, Nat.reduceMul, Nat.reduceLeDiff, Nat.reduceLT, Int.reduceEq, Int.toNat_natCast, hF.xat hX 0 rfl, hF.xat hX 1 rfl]
    refine fx_alloc hF rfl fun b1 σ2 hF => ?_
    try simp only [go_sem, ↓reduceIte, Nat.reduceEqDiff, Nat.reduceAdd, Nat.reduceMul, Nat.reduceLeDiff, Nat.reduceLT, Int.reduceEq, Int.toNat_natCast, hF.at 0 rfl, hF.xat hX 0 rfl, hF.xat hX 1 rfl]
    obtain ⟨x8, hx8, H⟩ := bnd H
    refine aCall_ctr (impl_CountName_c1_ok a0 c0 c1 _ hx8 e0 e1  _ (Fx.pre (esL := []) (bsr := [(b1, ⟨26, 5, [.int .i64 a0.kind, .str a0.name, .int .i64 a0.num, .sl false (rws cI a0.sc), .sl false (rws Fm.cells a0.kids)]⟩)]) (esX := [(e0, ⟨9, 1, [.str c0]⟩), (e1, ⟨3, 1, [.int .i64 c1]⟩)]) (xsr := []) (ms0 := []) (msr := []) hF hX)) (by (try simp only [Fm.cells_eq]); exact WkVL.refl _) ?_
    rintro _ σ3 ⟨τ4, rfl, hT, hG⟩
    obtain ⟨τ5, hX, hF⟩ := Fx.after (bn := []) (esL := []) (bsr := [(b1, ⟨26, 5, [.int .i64 a0.kind, .str a0.name, .int .i64 a0.num, .sl false (rws cI a0.sc), .sl false (rws Fm.cells a0.kids)]⟩)]) (esX := [(e0, ⟨9, 1, [.str c0]⟩), (e1, ⟨3, 1, [.int .i64 c1]⟩)]) (xsr := []) (ms0 := []) (msr := []) (esL' := []) (esX' := [(e0, ⟨9, 1, [.str c0]⟩), (e1, ⟨3, 1, [.int .i64 x8]⟩)]) hF hX hT hG rfl rfl
    have hX : Tau τ0 [(e0, ⟨9, 1, [.str c0]⟩), (e1, ⟨3, 1, [.int .i64 x8]⟩)] τ5 := hX
    have hF : Fx τ5 σ3 [(b1, ⟨26, 5, [.int .i64 a0.kind, .str a0.name, .int .i64 a0.num, .sl false (rws cI a0.sc), .sl false (rws Fm.cells a0.kids)]⟩)] [] := hF
    try simp only [go_sem, ↓reduceIte, Nat.reduceEqDiff, Nat.reduceAdd, Nat.reduceMul, Nat.reduceLeDiff, Nat.reduceLT, Int.reduceEq, Int.toNat_natCast, hF.at 0 rfl, hF.xat hX 0 rfl, hF.xat hX 1 rfl]
    obtain ⟨o12, ho12, H⟩ := bnd H
    refine L0 a0 0 x8 _ ho12 _ rfl _ τ0 e0 e1 b1 ?_ ?_ _ _ _  (by first | (simp only [go_sem, ↓reduceIte, Nat.reduceEqDiff, Nat.reduceAdd, Nat.reduceMul, Nat.reduceLeDiff, Nat.reduceLT, Int.reduceEq, Int.toNat_natCast, hF.at 0 rfl, hF.xat hX 0 rfl, hF.xat hX 1 rfl]; done) | rfl | (simp only [go_sem, ↓reduceIte, Nat.reduceEqDiff, Nat.reduceAdd, Nat.reduceMul, Nat.reduceLeDiff, Nat.reduceLT, Int.reduceEq, Int.toNat_natCast, hF.at 0 rfl, hF.xat hX 0 rfl, hF.xat hX 1 rfl]; rfl)) (by first | (simp only [go_sem, ↓reduceIte, Nat.reduceEqDiff, Nat.reduceAdd, Nat.reduceMul, Nat.reduceLeDiff, Nat.reduceLT, Int.reduceEq, Int.toNat_natCast, hF.at 0 rfl, hF.xat hX 0 rfl, hF.xat hX 1 rfl]; done) | rfl | (simp only [go_sem, ↓reduceIte, Nat.reduceEqDiff, Nat.reduceAdd, Nat.reduceMul, Nat.reduceLeDiff, Nat.reduceLT, Int.reduceEq, Int.toNat_natCast, hF.at 0 rfl, hF.xat hX 0 rfl, hF.xat hX 1 rfl]; rfl)) (by first | (simp only [go_sem, ↓reduceIte, Nat.reduceEqDiff, Nat.reduceAdd, Nat.reduceMul, Nat.reduceLeDiff, Nat.reduceLT, Int.reduceEq, Int.toNat_natCast, hF.at 0 rfl, hF.xat hX 0 rfl, hF.xat hX 1 rfl]; done) | rfl | (simp only [go_sem, ↓reduceIte, Nat.reduceEqDiff, Nat.reduceAdd, Nat.reduceMul, Nat.reduceLeDiff, Nat.reduceLT, Int.reduceEq, Int.toNat_natCast, hF.at 0 rfl, hF.xat hX 0 rfl, hF.xat hX 1 rfl]; rfl)) (by first | (simp only [go_sem, ↓reduceIte, Nat.reduceEqDiff, Nat.reduceAdd, Nat.reduceMul, Nat.reduceLeDiff, Nat.reduceLT, Int.reduceEq, Int.toNat_natCast, hF.at 0 rfl, hF.xat hX 0 rfl, hF.xat hX 1 rfl]; done) | rfl | (simp only [go_sem, ↓reduceIte, Nat.reduceEqDiff, Nat.reduceAdd, Nat.reduceMul, Nat.reduceLeDiff, Nat.reduceLT, Int.reduceEq, Int.toNat_natCast, hF.at 0 rfl, hF.xat hX 0 rfl, hF.xat hX 1 rfl]; rfl)) hX hF
    · intro e13x_1_0 he T14 σ15 τ16 hX hF
      have he := he.symm
      subst he
      try simp only [go_sem, ↓reduceIte, Nat.reduceEqDiff, Nat.reduceAdd, Nat.reduceMul, Nat.reduceLeDiff, Nat.reduceLT, Int.reduceEq, Int.toNat_natCast, hF.at 0 rfl, hF.xat hX 0 rfl, hF.xat hX 1 rfl]
      have e := pur H; subst e
      exact gRet (vs := []) (by first | (simp only [go_sem, ↓reduceIte, Nat.reduceEqDiff, Nat.reduceAdd, Nat.reduceMul, Nat.reduceLeDiff, Nat.reduceLT, Int.reduceEq, Int.toNat_natCast, hF.at 0 rfl, hF.xat hX 0 rfl, hF.xat hX 1 rfl]; done) | rfl | (simp only [go_sem, ↓reduceIte, Nat.reduceEqDiff, Nat.reduceAdd, Nat.reduceMul, Nat.reduceLeDiff, Nat.reduceLT, Int.reduceEq, Int.toNat_natCast, hF.at 0 rfl, hF.xat hX 0 rfl, hF.xat hX 1 rfl]; rfl)) (Wk.tup hF.sub .nil) ⟨_, rfl, hX, Fx.self _⟩
    · trivial
  · intro impl_eachForm__impl_CountName_c1 impl_eachForm__impl_CountName_c1_l0 C0 L0 a0 z0t_12 z0x_1_0 out H c hc Q τ0 e0 e1 b1 hE hR T σ τ t1 t10 t11 t12 hX hF
    obtain rfl := Option.some.inj ((rfl : loopAt Try.f19 0 = some _).symm.trans hc)
    refine aLoop_round ?_
    try simp only [go_sem, ↓reduceIte, Nat.reduceEqDiff, Nat.reduceAdd, Nat.reduceMul, Nat.reduceLeDiff, Nat.reduceLT, Int.reduceEq, Int.toNat_natCast, t1, t10, t11, t12, hF.at 0 rfl, hF.xat hX 0 rfl, hF.xat hX 1 rfl]
    refine aCnd_p (z0t_12 < (a0.kids.length : Int)) rfl (fun h => ?_) (fun h => ?_)
    · rw [if_pos h] at H
      obtain ⟨x14, hx14, H⟩ := bnd H
      try simp only [go_sem, ↓reduceIte, Nat.reduceEqDiff, Nat.reduceAdd, Nat.reduceMul, Nat.reduceLeDiff, Nat.reduceLT, Int.reduceEq, Int.toNat_natCast, t1, t10, t11, t12, hF.at 0 rfl, hF.xat hX 0 rfl, hF.xat hX 1 rfl, aidx_idx (g := Fm.cells) Fm.cells_len hx14]
      refine fx_alloc hF rfl fun b6 σ7 hF => ?_
      try simp only [go_sem, ↓reduceIte, Nat.reduceEqDiff, Nat.reduceAdd, Nat.reduceMul, Nat.reduceLeDiff, Nat.reduceLT, Int.reduceEq, Int.toNat_natCast, t1, t10, t11, t12, hF.at 0 rfl, hF.at 1 rfl, hF.xat hX 0 rfl, hF.xat hX 1 rfl]
      refine fx_store hF 0 (cells' := [.int .i64 x14.kind, .str x14.name, .int .i64 x14.num, .sl false (rws cI x14.sc), .sl false (rws Fm.cells x14.kids)]) rfl rfl rfl (by simp only [List.length_cons, List.length_nil]; decide) (by first | rfl | simp [splice_eq]) fun σ8 hF => ?_
      try simp only [go_sem, ↓reduceIte, Nat.reduceEqDiff, Nat.reduceAdd, Nat.reduceMul, Nat.reduceLeDiff, Nat.reduceLT, Int.reduceEq, Int.toNat_natCast, t1, t10, t11, t12, hF.at 0 rfl, hF.at 1 rfl, hF.xat hX 0 rfl, hF.xat hX 1 rfl]
      obtain ⟨x18, hx18, H⟩ := bnd H
      refine aCall_ctr (C0 x14 z0x_1_0 _ hx18 e0 e1  _ (Fx.pre (esL := []) (bsr := [(b6, ⟨26, 5, [.int .i64 x14.kind, .str x14.name, .int .i64 x14.num, .sl false (rws cI x14.sc), .sl false (rws Fm.cells x14.kids)]⟩), (b1, ⟨26, 5, [.int .i64 a0.kind, .str a0.name, .int .i64 a0.num, .sl false (rws cI a0.sc), .sl false (rws Fm.cells a0.kids)]⟩)]) (esX := [(e0, ⟨9, 1, [.str c0]⟩), (e1, ⟨3, 1, [.int .i64 z0x_1_0]⟩)]) (xsr := []) (ms0 := []) (msr := []) hF hX)) (by (try simp only [Fm.cells_eq]); exact WkVL.refl _) ?_
      rintro _ σ9 ⟨τ10, rfl, hT, hG⟩
      obtain ⟨τ11, hX, hF⟩ := Fx.after (bn := []) (esL := []) (bsr := [(b6, ⟨26, 5, [.int .i64 x14.kind, .str x14.name, .int .i64 x14.num, .sl false (rws cI x14.sc), .sl false (rws Fm.cells x14.kids)]⟩), (b1, ⟨26, 5, [.int .i64 a0.kind, .str a0.name, .int .i64 a0.num, .sl false (rws cI a0.sc), .sl false (rws Fm.cells a0.kids)]⟩)]) (esX := [(e0, ⟨9, 1, [.str c0]⟩), (e1, ⟨3, 1, [.int .i64 z0x_1_0]⟩)]) (xsr := []) (ms0 := []) (msr := []) (esL' := []) (esX' := [(e0, ⟨9, 1, [.str c0]⟩), (e1, ⟨3, 1, [.int .i64 x18]⟩)]) hF hX hT hG rfl rfl
      have hX : Tau τ0 [(e0, ⟨9, 1, [.str c0]⟩), (e1, ⟨3, 1, [.int .i64 x18]⟩)] τ11 := hX
      have hF : Fx τ11 σ9 [(b6, ⟨26, 5, [.int .i64 x14.kind, .str x14.name, .int .i64 x14.num, .sl false (rws cI x14.sc), .sl false (rws Fm.cells x14.kids)]⟩), (b1, ⟨26, 5, [.int .i64 a0.kind, .str a0.name, .int .i64 a0.num, .sl false (rws cI a0.sc), .sl false (rws Fm.cells a0.kids)]⟩)] [] := hF
      try simp only [go_sem, ↓reduceIte, Nat.reduceEqDiff, Nat.reduceAdd, Nat.reduceMul, Nat.reduceLeDiff, Nat.reduceLT, Int.reduceEq, Int.toNat_natCast, t1, t10, t11, t12, hF.at 0 rfl, hF.at 1 rfl, hF.xat hX 0 rfl, hF.xat hX 1 rfl]
      exact L0 a0 (IntKind.i64.wrap (z0t_12 + 1)) x18 _ H _ rfl Q τ0 e0 e1 b1 hE hR _ _ _  (by first | (simp only [go_sem, ↓reduceIte, Nat.reduceEqDiff, Nat.reduceAdd, Nat.reduceMul, Nat.reduceLeDiff, Nat.reduceLT, Int.reduceEq, Int.toNat_natCast, t1, t10, t11, t12, hF.at 0 rfl, hF.at 1 rfl, hF.xat hX 0 rfl, hF.xat hX 1 rfl]; done) | rfl | (simp only [go_sem, ↓reduceIte, Nat.reduceEqDiff, Nat.reduceAdd, Nat.reduceMul, Nat.reduceLeDiff, Nat.reduceLT, Int.reduceEq, Int.toNat_natCast, t1, t10, t11, t12, hF.at 0 rfl, hF.at 1 rfl, hF.xat hX 0 rfl, hF.xat hX 1 rfl]; rfl)) (by first | (simp only [go_sem, ↓reduceIte, Nat.reduceEqDiff, Nat.reduceAdd, Nat.reduceMul, Nat.reduceLeDiff, Nat.reduceLT, Int.reduceEq, Int.toNat_natCast, t1, t10, t11, t12, hF.at 0 rfl, hF.at 1 rfl, hF.xat hX 0 rfl, hF.xat hX 1 rfl]; done) | rfl | (simp only [go_sem, ↓reduceIte, Nat.reduceEqDiff, Nat.reduceAdd, Nat.reduceMul, Nat.reduceLeDiff, Nat.reduceLT, Int.reduceEq, Int.toNat_natCast, t1, t10, t11, t12, hF.at 0 rfl, hF.at 1 rfl, hF.xat hX 0 rfl, hF.xat hX 1 rfl]; rfl)) (by first | (simp only [go_sem, ↓reduceIte, Nat.reduceEqDiff, Nat.reduceAdd, Nat.reduceMul, Nat.reduceLeDiff, Nat.reduceLT, Int.reduceEq, Int.toNat_natCast, t1, t10, t11, t12, hF.at 0 rfl, hF.at 1 rfl, hF.xat hX 0 rfl, hF.xat hX 1 rfl]; done) | rfl | (simp only [go_sem, ↓reduceIte, Nat.reduceEqDiff, Nat.reduceAdd, Nat.reduceMul, Nat.reduceLeDiff, Nat.reduceLT, Int.reduceEq, Int.toNat_natCast, t1, t10, t11, t12, hF.at 0 rfl, hF.at 1 rfl, hF.xat hX 0 rfl, hF.xat hX 1 rfl]; rfl)) (by first | (simp only [go_sem, ↓reduceIte, Nat.reduceEqDiff, Nat.reduceAdd, Nat.reduceMul, Nat.reduceLeDiff, Nat.reduceLT, Int.reduceEq, Int.toNat_natCast, t1, t10, t11, t12, hF.at 0 rfl, hF.at 1 rfl, hF.xat hX 0 rfl, hF.xat hX 1 rfl]; done) | rfl | (simp only [go_sem, ↓reduceIte, Nat.reduceEqDiff, Nat.reduceAdd, Nat.reduceMul, Nat.reduceLeDiff, Nat.reduceLT, Int.reduceEq, Int.toNat_natCast, t1, t10, t11, t12, hF.at 0 rfl, hF.at 1 rfl, hF.xat hX 0 rfl, hF.xat hX 1 rfl]; rfl)) hX (hF.drop 1 0)
    · rw [if_neg h] at H
      try simp only [go_sem, ↓reduceIte, Nat.reduceEqDiff, Nat.reduceAdd, Nat.reduceMul, Nat.reduceLeDiff, Nat.reduceLT, Int.reduceEq, Int.toNat_natCast, t1, t10, t11, t12, hF.at 0 rfl, hF.xat hX 0 rfl, hF.xat hX 1 rfl]
      exact hE _ (pur H).symm _ _ _  hX hF
theorem impl_CountName_ok : ∀ (a0 : Fm) (a1 : ByteArray) r, impl_CountName a0 a1 = some r → PCtr Try.prog 7 [.agg (Fm.cells a0), .str a1] (.int .i64 r) := by
  intro a0 a1 r H
  intro σ
  unfold impl_CountName at H
  refine ctr_of mixed Try.func7 rfl (by kernel_rfl) (rs := [.tmp 4]) rfl (by kernel_rfl) ?_
  have hF := Fx.refl σ
  have hX := Tau.none σ
  try simp only [go_sem, ↓reduceIte, Nat.reduceEqDiff, Nat.reduceAdd, Nat.reduceMul, Nat.reduceLeDiff, Nat.reduceLT, Int.reduceEq, Int.toNat_natCast]
  refine fx_alloc hF rfl fun b1 σ2 hF => ?_
  try simp only [go_sem, ↓reduceIte, Nat.reduceEqDiff, Nat.reduceAdd, Nat.reduceMul, Nat.reduceLeDiff, Nat.reduceLT, Int.reduceEq, Int.toNat_natCast, hF.at 0 rfl]
  refine fx_alloc hF rfl fun b3 σ4 hF => ?_
  try simp only [go_sem, ↓reduceIte, Nat.reduceEqDiff, Nat.reduceAdd, Nat.reduceMul, Nat.reduceLeDiff, Nat.reduceLT, Int.reduceEq, Int.toNat_natCast, hF.at 0 rfl, hF.at 1 rfl]
  refine fx_alloc hF rfl fun b5 σ6 hF => ?_
  try simp only [go_sem, ↓reduceIte, Nat.reduceEqDiff, Nat.reduceAdd, Nat.reduceMul, Nat.reduceLeDiff, Nat.reduceLT, Int.reduceEq, Int.toNat_natCast, hF.at 0 rfl, hF.at 1 rfl, hF.at 2 rfl]
  refine fx_store hF 0 (cells' := [.int .i64 0]) rfl rfl rfl (by simp only [List.length_cons, List.length_nil]; decide) (by first | rfl | simp [splice_eq]) fun σ7 hF => ?_
  try simp only [go_sem, ↓reduceIte, Nat.reduceEqDiff, Nat.reduceAdd, Nat.reduceMul, Nat.reduceLeDiff, Nat.reduceLT, Int.reduceEq, Int.toNat_natCast, hF.at 0 rfl, hF.at 1 rfl, hF.at 2 rfl]
  have hF := hF.pick [1, 0, 2] [] (by decide) (by decide)
  obtain ⟨x8, hx8, H⟩ := bnd H
  refine aCall_ctr (impl_eachForm__impl_CountName_c1_ok a0 a1 0 _ hx8 b3 b5  _ (Fx.pre (esL := [(b3, ⟨9, 1, [.str a1]⟩), (b5, ⟨3, 1, [.int .i64 0]⟩)]) (bsr := [(b1, ⟨26, 5, [.int .i64 a0.kind, .str a0.name, .int .i64 a0.num, .sl false (rws cI a0.sc), .sl false (rws Fm.cells a0.kids)]⟩)]) (esX := []) (xsr := []) (ms0 := []) (msr := []) hF hX)) (by (try simp only [Fm.cells_eq]); exact WkVL.refl _) ?_
  rintro _ σ8 ⟨τ9, rfl, hT, hG⟩
  obtain ⟨τ10, hX, hF⟩ := Fx.after (bn := []) (esL := [(b3, ⟨9, 1, [.str a1]⟩), (b5, ⟨3, 1, [.int .i64 0]⟩)]) (bsr := [(b1, ⟨26, 5, [.int .i64 a0.kind, .str a0.name, .int .i64 a0.num, .sl false (rws cI a0.sc), .sl false (rws Fm.cells a0.kids)]⟩)]) (esX := []) (xsr := []) (ms0 := []) (msr := []) (esL' := [(b3, ⟨9, 1, [.str a1]⟩), (b5, ⟨3, 1, [.int .i64 x8]⟩)]) (esX' := []) hF hX hT hG rfl rfl
  have hq := hX.eq.symm
  subst hq
  have hF : Fx σ σ8 [(b3, ⟨9, 1, [.str a1]⟩), (b5, ⟨3, 1, [.int .i64 x8]⟩), (b1, ⟨26, 5, [.int .i64 a0.kind, .str a0.name, .int .i64 a0.num, .sl false (rws cI a0.sc), .sl false (rws Fm.cells a0.kids)]⟩)] [] := hF
  try simp only [go_sem, ↓reduceIte, Nat.reduceEqDiff, Nat.reduceAdd, Nat.reduceMul, Nat.reduceLeDiff, Nat.reduceLT, Int.reduceEq, Int.toNat_natCast, hF.at 0 rfl, hF.at 1 rfl, hF.at 2 rfl]
  have e := pur H; subst e
  exact fx_ret (vs := [.int .i64 x8]) (by first | (simp only [go_sem, ↓reduceIte, Nat.reduceEqDiff, Nat.reduceAdd, Nat.reduceMul, Nat.reduceLeDiff, Nat.reduceLT, Int.reduceEq, Int.toNat_natCast, hF.at 0 rfl, hF.at 1 rfl, hF.at 2 rfl]; done) | rfl | (simp only [go_sem, ↓reduceIte, Nat.reduceEqDiff, Nat.reduceAdd, Nat.reduceMul, Nat.reduceLeDiff, Nat.reduceLT, Int.reduceEq, Int.toNat_natCast, hF.at 0 rfl, hF.at 1 rfl, hF.at 2 rfl]; rfl)) (hF.wk0 _)
theorem spec_CountName_ok : ∀ (a0 : Fm) (a1 : ByteArray) r, spec_CountName a0 a1 = some r → PCtr Try.prog 8 [.agg (Fm.cells a0), .str a1] (.int .i64 r) := by
  intro a0 a1
  revert a0
  refine spec_CountName.partial_correctness a1 (motive_1 := fun a0 r => PCtr Try.prog 8 [.agg (Fm.cells a0), .str a1] (.int .i64 r)) (motive_2 := fun a0 z0t_5 z0t_6 out => ∀ c, loopAt Try.f8 0 = some c → ∀ (Q : AX → AS → Prop) (τ : Sto) (b1 : Nat), (∀ (e0t_5 : Int), out = e0t_5 → ∀ (T : Nat → AV) (σ : Sto), T 4 = .int .i64 0 → T 5 = .int .i64 e0t_5 → Fx τ σ [(b1, ⟨26, 5, [.int .i64 a0.kind, .str a0.name, .int .i64 a0.num, .sl false (rws cI a0.sc), .sl false (rws Fm.cells a0.kids)]⟩)] [] → Q (.ex 0) ⟨T, σ⟩) → True → ∀ (T : Nat → AV) (σ : Sto), T 1 = .str a1 → T 2 = .ptr b1 0 → T 4 = .int .i64 0 → T 5 = .int .i64 z0t_5 → T 6 = .int .i64 z0t_6 → Fx τ σ [(b1, ⟨26, 5, [.int .i64 a0.kind, .str a0.name, .int .i64 a0.num, .sl false (rws cI a0.sc), .sl false (rws Fm.cells a0.kids)]⟩)] [] → aLoop (acode Try.prog c) Q ⟨T, σ⟩) ?_ ?_
  · intro spec_CountName_l0 L0 a0 r H
    intro σ
    refine ctr_of mixed Try.func8 rfl (by kernel_rfl) (rs := [.tmp 4]) rfl (by kernel_rfl) ?_
    have hF := Fx.refl σ
    have hX := Tau.none σ
    try simp only [go_sem, ↓reduceIte, Nat.reduceEqDiff, Nat.reduceAdd, Nat.reduceMul, Nat.reduceLeDiff, Nat.reduceLT, Int.reduceEq, Int.toNat_natCast]
    refine fx_alloc hF rfl fun b1 σ2 hF => ?_
    try simp only [go_sem, ↓reduceIte, Nat.reduceEqDiff, Nat.reduceAdd, Nat.reduceMul, Nat.reduceLeDiff, Nat.reduceLT, Int.reduceEq, Int.toNat_natCast, hF.at 0 rfl]
    obtain ⟨x15, g3, H⟩ := bnd H
    refine aGd_cutN 4 11 15 (.bool x15) (aGd_intro (fun q4 => ?_) (fun q4 => ?_)) (fun J => ?_)
    · try simp only [go_sem, ↓reduceIte, Nat.reduceEqDiff, Nat.reduceAdd, Nat.reduceMul, Nat.reduceLeDiff, Nat.reduceLT, Int.reduceEq, Int.toNat_natCast, q4, hF.at 0 rfl]
      refine cut_done 11 (by have e := pur g3; subst e; (first | rfl | (simp only [go_sem, ↓reduceIte, Nat.reduceEqDiff, Nat.reduceAdd, Nat.reduceMul, Nat.reduceLeDiff, Nat.reduceLT, Int.reduceEq, Int.toNat_natCast, q4]; done) | (simp only [go_sem, ↓reduceIte, Nat.reduceEqDiff, Nat.reduceAdd, Nat.reduceMul, Nat.reduceLeDiff, Nat.reduceLT, Int.reduceEq, Int.toNat_natCast, q4]; simp_all [upd_app]) | simp_all [upd_app])) ?_
      (repeat (first | refine agree_upd (by decide) ?_ | refine agree_low (by decide) ?_)) <;> (repeat (first | refine agree_updR (by decide) ?_ | refine agree_lowR (by decide) ?_)) <;> exact fun _ _ _ => rfl
    · try simp only [go_sem, ↓reduceIte, Nat.reduceEqDiff, Nat.reduceAdd, Nat.reduceMul, Nat.reduceLeDiff, Nat.reduceLT, Int.reduceEq, Int.toNat_natCast, q4, hF.at 0 rfl]
      refine cut_done 11 (by have e := pur g3; subst e; (first | rfl | (simp only [go_sem, ↓reduceIte, Nat.reduceEqDiff, Nat.reduceAdd, Nat.reduceMul, Nat.reduceLeDiff, Nat.reduceLT, Int.reduceEq, Int.toNat_natCast, q4]; done) | (simp only [go_sem, ↓reduceIte, Nat.reduceEqDiff, Nat.reduceAdd, Nat.reduceMul, Nat.reduceLeDiff, Nat.reduceLT, Int.reduceEq, Int.toNat_natCast, q4]; simp_all [upd_app]) | simp_all [upd_app])) ?_
      (repeat (first | refine agree_upd (by decide) ?_ | refine agree_low (by decide) ?_)) <;> (repeat (first | refine agree_updR (by decide) ?_ | refine agree_lowR (by decide) ?_)) <;> exact fun _ _ _ => rfl
    try simp only [go_sem, ↓reduceIte, Nat.reduceEqDiff, Nat.reduceAdd, Nat.reduceMul, Nat.reduceLeDiff, Nat.reduceLT, Int.reduceEq, Int.toNat_natCast, hF.at 0 rfl]
    obtain ⟨y5t_5, j6, H⟩ := bnd H
    refine aCnd_join (fun s' => ∃ (T : Nat → AV) (σ1 : Sto), s' = ⟨T, σ1⟩ ∧ T 1 = .str a1 ∧ T 2 = .ptr b1 0 ∧ T 4 = .int .i64 0 ∧ T 5 = .int .i64 y5t_5 ∧ Fx σ σ1 [(b1, ⟨26, 5, [.int .i64 a0.kind, .str a0.name, .int .i64 a0.num, .sl false (rws cI a0.sc), .sl false (rws Fm.cells a0.kids)]⟩)] []) (aCnd_b x15 rfl (fun h => ?_) (fun h => ?_)) ?_
    · rw [if_pos h] at j6
      try simp only [go_sem, ↓reduceIte, Nat.reduceEqDiff, Nat.reduceAdd, Nat.reduceMul, Nat.reduceLeDiff, Nat.reduceLT, Int.reduceEq, Int.toNat_natCast, hF.at 0 rfl]
      have e := pur j6
      subst e
      exact ⟨_, _, rfl, (by first | (simp only [go_sem, ↓reduceIte, Nat.reduceEqDiff, Nat.reduceAdd, Nat.reduceMul, Nat.reduceLeDiff, Nat.reduceLT, Int.reduceEq, Int.toNat_natCast, hF.at 0 rfl]; done) | rfl | (simp only [go_sem, ↓reduceIte, Nat.reduceEqDiff, Nat.reduceAdd, Nat.reduceMul, Nat.reduceLeDiff, Nat.reduceLT, Int.reduceEq, Int.toNat_natCast, hF.at 0 rfl]; rfl)), (by first | (simp only [go_sem, ↓reduceIte, Nat.reduceEqDiff, Nat.reduceAdd, Nat.reduceMul, Nat.reduceLeDiff, Nat.reduceLT, Int.reduceEq, Int.toNat_natCast, hF.at 0 rfl]; done) | rfl | (simp only [go_sem, ↓reduceIte, Nat.reduceEqDiff, Nat.reduceAdd, Nat.reduceMul, Nat.reduceLeDiff, Nat.reduceLT, Int.reduceEq, Int.toNat_natCast, hF.at 0 rfl]; rfl)), (by first | (simp only [go_sem, ↓reduceIte, Nat.reduceEqDiff, Nat.reduceAdd, Nat.reduceMul, Nat.reduceLeDiff, Nat.reduceLT, Int.reduceEq, Int.toNat_natCast, hF.at 0 rfl]; done) | rfl | (simp only [go_sem, ↓reduceIte, Nat.reduceEqDiff, Nat.reduceAdd, Nat.reduceMul, Nat.reduceLeDiff, Nat.reduceLT, Int.reduceEq, Int.toNat_natCast, hF.at 0 rfl]; rfl)), (by first | (simp only [go_sem, ↓reduceIte, Nat.reduceEqDiff, Nat.reduceAdd, Nat.reduceMul, Nat.reduceLeDiff, Nat.reduceLT, Int.reduceEq, Int.toNat_natCast, hF.at 0 rfl]; done) | rfl | (simp only [go_sem, ↓reduceIte, Nat.reduceEqDiff, Nat.reduceAdd, Nat.reduceMul, Nat.reduceLeDiff, Nat.reduceLT, Int.reduceEq, Int.toNat_natCast, hF.at 0 rfl]; rfl)), hF⟩
    · rw [if_neg h] at j6
      try simp only [go_sem, ↓reduceIte, Nat.reduceEqDiff, Nat.reduceAdd, Nat.reduceMul, Nat.reduceLeDiff, Nat.reduceLT, Int.reduceEq, Int.toNat_natCast, hF.at 0 rfl]
      have e := pur j6
      subst e
      exact ⟨_, _, rfl, (by first | (simp only [go_sem, ↓reduceIte, Nat.reduceEqDiff, Nat.reduceAdd, Nat.reduceMul, Nat.reduceLeDiff, Nat.reduceLT, Int.reduceEq, Int.toNat_natCast, hF.at 0 rfl]; done) | rfl | (simp only [go_sem, ↓reduceIte, Nat.reduceEqDiff, Nat.reduceAdd, Nat.reduceMul, Nat.reduceLeDiff, Nat.reduceLT, Int.reduceEq, Int.toNat_natCast, hF.at 0 rfl]; rfl)), (by first | (simp only [go_sem, ↓reduceIte, Nat.reduceEqDiff, Nat.reduceAdd, Nat.reduceMul, Nat.reduceLeDiff, Nat.reduceLT, Int.reduceEq, Int.toNat_natCast, hF.at 0 rfl]; done) | rfl | (simp only [go_sem, ↓reduceIte, Nat.reduceEqDiff, Nat.reduceAdd, Nat.reduceMul, Nat.reduceLeDiff, Nat.reduceLT, Int.reduceEq, Int.toNat_natCast, hF.at 0 rfl]; rfl)), (by first | (simp only [go_sem, ↓reduceIte, Nat.reduceEqDiff, Nat.reduceAdd, Nat.reduceMul, Nat.reduceLeDiff, Nat.reduceLT, Int.reduceEq, Int.toNat_natCast, hF.at 0 rfl]; done) | rfl | (simp only [go_sem, ↓reduceIte, Nat.reduceEqDiff, Nat.reduceAdd, Nat.reduceMul, Nat.reduceLeDiff, Nat.reduceLT, Int.reduceEq, Int.toNat_natCast, hF.at 0 rfl]; rfl)), (by first | (simp only [go_sem, ↓reduceIte, Nat.reduceEqDiff, Nat.reduceAdd, Nat.reduceMul, Nat.reduceLeDiff, Nat.reduceLT, Int.reduceEq, Int.toNat_natCast, hF.at 0 rfl]; done) | rfl | (simp only [go_sem, ↓reduceIte, Nat.reduceEqDiff, Nat.reduceAdd, Nat.reduceMul, Nat.reduceLeDiff, Nat.reduceLT, Int.reduceEq, Int.toNat_natCast, hF.at 0 rfl]; rfl)), hF⟩
    · rintro s' ⟨T7, σ8, rfl, t1, t2, t4, t5, hF⟩
      try simp only [go_sem, ↓reduceIte, Nat.reduceEqDiff, Nat.reduceAdd, Nat.reduceMul, Nat.reduceLeDiff, Nat.reduceLT, Int.reduceEq, Int.toNat_natCast, t1, t2, t4, t5, hF.at 0 rfl]
      obtain ⟨o10, ho10, H⟩ := bnd H
      refine L0 a0 y5t_5 0 _ ho10 _ rfl _ _ b1 ?_ ?_ _ _  (by first | (simp only [go_sem, ↓reduceIte, Nat.reduceEqDiff, Nat.reduceAdd, Nat.reduceMul, Nat.reduceLeDiff, Nat.reduceLT, Int.reduceEq, Int.toNat_natCast, t1, t2, t4, t5, hF.at 0 rfl]; done) | rfl | (simp only [go_sem, ↓reduceIte, Nat.reduceEqDiff, Nat.reduceAdd, Nat.reduceMul, Nat.reduceLeDiff, Nat.reduceLT, Int.reduceEq, Int.toNat_natCast, t1, t2, t4, t5, hF.at 0 rfl]; rfl)) (by first | (simp only [go_sem, ↓reduceIte, Nat.reduceEqDiff, Nat.reduceAdd, Nat.reduceMul, Nat.reduceLeDiff, Nat.reduceLT, Int.reduceEq, Int.toNat_natCast, t1, t2, t4, t5, hF.at 0 rfl]; done) | rfl | (simp only [go_sem, ↓reduceIte, Nat.reduceEqDiff, Nat.reduceAdd, Nat.reduceMul, Nat.reduceLeDiff, Nat.reduceLT, Int.reduceEq, Int.toNat_natCast, t1, t2, t4, t5, hF.at 0 rfl]; rfl)) (by first | (simp only [go_sem, ↓reduceIte, Nat.reduceEqDiff, Nat.reduceAdd, Nat.reduceMul, Nat.reduceLeDiff, Nat.reduceLT, Int.reduceEq, Int.toNat_natCast, t1, t2, t4, t5, hF.at 0 rfl]; done) | rfl | (simp only [go_sem, ↓reduceIte, Nat.reduceEqDiff, Nat.reduceAdd, Nat.reduceMul, Nat.reduceLeDiff, Nat.reduceLT, Int.reduceEq, Int.toNat_natCast, t1, t2, t4, t5, hF.at 0 rfl]; rfl)) (by first | (simp only [go_sem, ↓reduceIte, Nat.reduceEqDiff, Nat.reduceAdd, Nat.reduceMul, Nat.reduceLeDiff, Nat.reduceLT, Int.reduceEq, Int.toNat_natCast, t1, t2, t4, t5, hF.at 0 rfl]; done) | rfl | (simp only [go_sem, ↓reduceIte, Nat.reduceEqDiff, Nat.reduceAdd, Nat.reduceMul, Nat.reduceLeDiff, Nat.reduceLT, Int.reduceEq, Int.toNat_natCast, t1, t2, t4, t5, hF.at 0 rfl]; rfl)) (by first | (simp only [go_sem, ↓reduceIte, Nat.reduceEqDiff, Nat.reduceAdd, Nat.reduceMul, Nat.reduceLeDiff, Nat.reduceLT, Int.reduceEq, Int.toNat_natCast, t1, t2, t4, t5, hF.at 0 rfl]; done) | rfl | (simp only [go_sem, ↓reduceIte, Nat.reduceEqDiff, Nat.reduceAdd, Nat.reduceMul, Nat.reduceLeDiff, Nat.reduceLT, Int.reduceEq, Int.toNat_natCast, t1, t2, t4, t5, hF.at 0 rfl]; rfl)) hF
      · intro e11t_5 he T12 σ13 t4 t5 hF
        have he := he.symm
        subst he
        try simp only [go_sem, ↓reduceIte, Nat.reduceEqDiff, Nat.reduceAdd, Nat.reduceMul, Nat.reduceLeDiff, Nat.reduceLT, Int.reduceEq, Int.toNat_natCast, t4, t5, hF.at 0 rfl]
        have e := pur H; subst e
        exact fx_ret (vs := [.int .i64 e11t_5]) (by first | (simp only [go_sem, ↓reduceIte, Nat.reduceEqDiff, Nat.reduceAdd, Nat.reduceMul, Nat.reduceLeDiff, Nat.reduceLT, Int.reduceEq, Int.toNat_natCast, t4, t5, hF.at 0 rfl]; done) | rfl | (simp only [go_sem, ↓reduceIte, Nat.reduceEqDiff, Nat.reduceAdd, Nat.reduceMul, Nat.reduceLeDiff, Nat.reduceLT, Int.reduceEq, Int.toNat_natCast, t4, t5, hF.at 0 rfl]; rfl)) (hF.wk0 _)
      · trivial
  · intro spec_CountName spec_CountName_l0 C0 L0 a0 z0t_5 z0t_6 out H c hc Q τ b1 hE hR T σ t1 t2 t4 t5 t6 hF
    obtain rfl := Option.some.inj ((rfl : loopAt Try.f8 0 = some _).symm.trans hc)
    refine aLoop_round ?_
    try simp only [go_sem, ↓reduceIte, Nat.reduceEqDiff, Nat.reduceAdd, Nat.reduceMul, Nat.reduceLeDiff, Nat.reduceLT, Int.reduceEq, Int.toNat_natCast, t1, t2, t4, t5, t6, hF.at 0 rfl]
    refine aCnd_p (z0t_6 < (a0.kids.length : Int)) rfl (fun h => ?_) (fun h => ?_)
    · rw [if_pos h] at H
      obtain ⟨x27, hx27, H⟩ := bnd H
      try simp only [go_sem, ↓reduceIte, Nat.reduceEqDiff, Nat.reduceAdd, Nat.reduceMul, Nat.reduceLeDiff, Nat.reduceLT, Int.reduceEq, Int.toNat_natCast, t1, t2, t4, t5, t6, hF.at 0 rfl, aidx_idx (g := Fm.cells) Fm.cells_len hx27]
      obtain ⟨x30, hx30, H⟩ := bnd H
      refine aCall_pure (C0 x27 _ hx30) (by (try simp only [Fm.cells_eq]); exact WkVL.refl _) ?_
      try simp only [go_sem, ↓reduceIte, Nat.reduceEqDiff, Nat.reduceAdd, Nat.reduceMul, Nat.reduceLeDiff, Nat.reduceLT, Int.reduceEq, Int.toNat_natCast, t1, t2, t4, t5, t6, hF.at 0 rfl]
      exact L0 a0 (IntKind.i64.wrap (z0t_5 + x30)) (IntKind.i64.wrap (z0t_6 + 1)) _ H _ rfl Q τ b1 hE hR _ _  (by first | (simp only [go_sem, ↓reduceIte, Nat.reduceEqDiff, Nat.reduceAdd, Nat.reduceMul, Nat.reduceLeDiff, Nat.reduceLT, Int.reduceEq, Int.toNat_natCast, t1, t2, t4, t5, t6, hF.at 0 rfl]; done) | rfl | (simp only [go_sem, ↓reduceIte, Nat.reduceEqDiff, Nat.reduceAdd, Nat.reduceMul, Nat.reduceLeDiff, Nat.reduceLT, Int.reduceEq, Int.toNat_natCast, t1, t2, t4, t5, t6, hF.at 0 rfl]; rfl)) (by first | (simp only [go_sem, ↓reduceIte, Nat.reduceEqDiff, Nat.reduceAdd, Nat.reduceMul, Nat.reduceLeDiff, Nat.reduceLT, Int.reduceEq, Int.toNat_natCast, t1, t2, t4, t5, t6, hF.at 0 rfl]; done) | rfl | (simp only [go_sem, ↓reduceIte, Nat.reduceEqDiff, Nat.reduceAdd, Nat.reduceMul, Nat.reduceLeDiff, Nat.reduceLT, Int.reduceEq, Int.toNat_natCast, t1, t2, t4, t5, t6, hF.at 0 rfl]; rfl)) (by first | (simp only [go_sem, ↓reduceIte, Nat.reduceEqDiff, Nat.reduceAdd, Nat.reduceMul, Nat.reduceLeDiff, Nat.reduceLT, Int.reduceEq, Int.toNat_natCast, t1, t2, t4, t5, t6, hF.at 0 rfl]; done) | rfl | (simp only [go_sem, ↓reduceIte, Nat.reduceEqDiff, Nat.reduceAdd, Nat.reduceMul, Nat.reduceLeDiff, Nat.reduceLT, Int.reduceEq, Int.toNat_natCast, t1, t2, t4, t5, t6, hF.at 0 rfl]; rfl)) (by first | (simp only [go_sem, ↓reduceIte, Nat.reduceEqDiff, Nat.reduceAdd, Nat.reduceMul, Nat.reduceLeDiff, Nat.reduceLT, Int.reduceEq, Int.toNat_natCast, t1, t2, t4, t5, t6, hF.at 0 rfl]; done) | rfl | (simp only [go_sem, ↓reduceIte, Nat.reduceEqDiff, Nat.reduceAdd, Nat.reduceMul, Nat.reduceLeDiff, Nat.reduceLT, Int.reduceEq, Int.toNat_natCast, t1, t2, t4, t5, t6, hF.at 0 rfl]; rfl)) (by first | (simp only [go_sem, ↓reduceIte, Nat.reduceEqDiff, Nat.reduceAdd, Nat.reduceMul, Nat.reduceLeDiff, Nat.reduceLT, Int.reduceEq, Int.toNat_natCast, t1, t2, t4, t5, t6, hF.at 0 rfl]; done) | rfl | (simp only [go_sem, ↓reduceIte, Nat.reduceEqDiff, Nat.reduceAdd, Nat.reduceMul, Nat.reduceLeDiff, Nat.reduceLT, Int.reduceEq, Int.toNat_natCast, t1, t2, t4, t5, t6, hF.at 0 rfl]; rfl)) hF
    · rw [if_neg h] at H
      try simp only [go_sem, ↓reduceIte, Nat.reduceEqDiff, Nat.reduceAdd, Nat.reduceMul, Nat.reduceLeDiff, Nat.reduceLT, Int.reduceEq, Int.toNat_natCast, t1, t2, t4, t5, t6, hF.at 0 rfl]
      exact hE _ (pur H).symm _ _  (by first | (simp only [go_sem, ↓reduceIte, Nat.reduceEqDiff, Nat.reduceAdd, Nat.reduceMul, Nat.reduceLeDiff, Nat.reduceLT, Int.reduceEq, Int.toNat_natCast, t1, t2, t4, t5, t6, hF.at 0 rfl]; done) | rfl | (simp only [go_sem, ↓reduceIte, Nat.reduceEqDiff, Nat.reduceAdd, Nat.reduceMul, Nat.reduceLeDiff, Nat.reduceLT, Int.reduceEq, Int.toNat_natCast, t1, t2, t4, t5, t6, hF.at 0 rfl]; rfl)) (by first | (simp only [go_sem, ↓reduceIte, Nat.reduceEqDiff, Nat.reduceAdd, Nat.reduceMul, Nat.reduceLeDiff, Nat.reduceLT, Int.reduceEq, Int.toNat_natCast, t1, t2, t4, t5, t6, hF.at 0 rfl]; done) | rfl | (simp only [go_sem, ↓reduceIte, Nat.reduceEqDiff, Nat.reduceAdd, Nat.reduceMul, Nat.reduceLeDiff, Nat.reduceLT, Int.reduceEq, Int.toNat_natCast, t1, t2, t4, t5, t6, hF.at 0 rfl]; rfl)) hF
theorem slices_Index_string_string_l0_ok : ∀ (a0 : List ByteArray) (a1 : ByteArray) (z0t_8 : Int) out, slices_Index_string_string_l0 a0 a1 z0t_8 = some out → ∀ c, loopAt Try.f36 0 = some c → ∀ (Q : AX → AS → Prop) (τ : Sto), (∀ (_u : Unit), out = Sum.inr () → ∀ (T : Nat → AV) (σ : Sto), T 4 = .int .i64 0 → Fx τ σ [] [] → Q (.ex 0) ⟨T, σ⟩) → (∀ r, out = Sum.inl r → ∀ s', aRet Try.prog [.tmp 4] (fun r' σ' => r' = .int .i64 r ∧ σ' = τ) s' → Q .ret s') → ∀ (T : Nat → AV) (σ : Sto), T 0 = .sl false (rws cS a0) → T 1 = .str a1 → T 4 = .int .i64 0 → T 7 = .int .i64 (a0.length : Int) → T 8 = .int .i64 z0t_8 → Fx τ σ [] [] → aLoop (acode Try.prog c) Q ⟨T, σ⟩ := by
  intro a0 a1 z0t_8
  revert z0t_8
  refine slices_Index_string_string_l0.partial_correctness a0 a1 _ ?_
  intro slices_Index_string_string_l0 IH z0t_8 out H c hc Q τ  hE hR T σ t0 t1 t4 t7 t8 hF
  obtain rfl := Option.some.inj ((rfl : loopAt Try.f36 0 = some _).symm.trans hc)
  refine aLoop_round ?_
  try simp only [go_sem, ↓reduceIte, Nat.reduceEqDiff, Nat.reduceAdd, Nat.reduceMul, Nat.reduceLeDiff, Nat.reduceLT, Int.reduceEq, Int.toNat_natCast, t0, t1, t4, t7, t8]
  refine aCnd_p (z0t_8 < (a0.length : Int)) rfl (fun h => ?_) (fun h => ?_)
  · rw [if_pos h] at H
    obtain ⟨x14, hx14, H⟩ := bnd H
    try simp only [go_sem, ↓reduceIte, Nat.reduceEqDiff, Nat.reduceAdd, Nat.reduceMul, Nat.reduceLeDiff, Nat.reduceLT, Int.reduceEq, Int.toNat_natCast, t0, t1, t4, t7, t8, aidx_idx (g := cS) (fun _ => rfl) hx14]
    refine aCnd_p (a1 = x14) rfl (fun h => ?_) (fun h => ?_)
    · rw [if_pos h] at H
      try simp only [go_sem, ↓reduceIte, Nat.reduceEqDiff, Nat.reduceAdd, Nat.reduceMul, Nat.reduceLeDiff, Nat.reduceLT, Int.reduceEq, Int.toNat_natCast, t0, t1, t4, t7, t8]
      exact hR _ (pur H).symm _ (fx_ret (vs := [.int .i64 z0t_8]) (by first | (simp only [go_sem, ↓reduceIte, Nat.reduceEqDiff, Nat.reduceAdd, Nat.reduceMul, Nat.reduceLeDiff, Nat.reduceLT, Int.reduceEq, Int.toNat_natCast, t0, t1, t4, t7, t8]; done) | rfl | (simp only [go_sem, ↓reduceIte, Nat.reduceEqDiff, Nat.reduceAdd, Nat.reduceMul, Nat.reduceLeDiff, Nat.reduceLT, Int.reduceEq, Int.toNat_natCast, t0, t1, t4, t7, t8]; rfl)) (hF.wk0 _))
    · rw [if_neg h] at H
      try simp only [go_sem, ↓reduceIte, Nat.reduceEqDiff, Nat.reduceAdd, Nat.reduceMul, Nat.reduceLeDiff, Nat.reduceLT, Int.reduceEq, Int.toNat_natCast, t0, t1, t4, t7, t8]
      exact IH  (IntKind.i64.wrap (z0t_8 + 1)) _ H _ rfl Q τ  hE hR _ _  (by first | (simp only [go_sem, ↓reduceIte, Nat.reduceEqDiff, Nat.reduceAdd, Nat.reduceMul, Nat.reduceLeDiff, Nat.reduceLT, Int.reduceEq, Int.toNat_natCast, t0, t1, t4, t7, t8]; done) | rfl | (simp only [go_sem, ↓reduceIte, Nat.reduceEqDiff, Nat.reduceAdd, Nat.reduceMul, Nat.reduceLeDiff, Nat.reduceLT, Int.reduceEq, Int.toNat_natCast, t0, t1, t4, t7, t8]; rfl)) (by first | (simp only [go_sem, ↓reduceIte, Nat.reduceEqDiff, Nat.reduceAdd, Nat.reduceMul, Nat.reduceLeDiff, Nat.reduceLT, Int.reduceEq, Int.toNat_natCast, t0, t1, t4, t7, t8]; done) | rfl | (simp only [go_sem, ↓reduceIte, Nat.reduceEqDiff, Nat.reduceAdd, Nat.reduceMul, Nat.reduceLeDiff, Nat.reduceLT, Int.reduceEq, Int.toNat_natCast, t0, t1, t4, t7, t8]; rfl)) (by first | (simp only [go_sem, ↓reduceIte, Nat.reduceEqDiff, Nat.reduceAdd, Nat.reduceMul, Nat.reduceLeDiff, Nat.reduceLT, Int.reduceEq, Int.toNat_natCast, t0, t1, t4, t7, t8]; done) | rfl | (simp only [go_sem, ↓reduceIte, Nat.reduceEqDiff, Nat.reduceAdd, Nat.reduceMul, Nat.reduceLeDiff, Nat.reduceLT, Int.reduceEq, Int.toNat_natCast, t0, t1, t4, t7, t8]; rfl)) (by first | (simp only [go_sem, ↓reduceIte, Nat.reduceEqDiff, Nat.reduceAdd, Nat.reduceMul, Nat.reduceLeDiff, Nat.reduceLT, Int.reduceEq, Int.toNat_natCast, t0, t1, t4, t7, t8]; done) | rfl | (simp only [go_sem, ↓reduceIte, Nat.reduceEqDiff, Nat.reduceAdd, Nat.reduceMul, Nat.reduceLeDiff, Nat.reduceLT, Int.reduceEq, Int.toNat_natCast, t0, t1, t4, t7, t8]; rfl)) (by first | (simp only [go_sem, ↓reduceIte, Nat.reduceEqDiff, Nat.reduceAdd, Nat.reduceMul, Nat.reduceLeDiff, Nat.reduceLT, Int.reduceEq, Int.toNat_natCast, t0, t1, t4, t7, t8]; done) | rfl | (simp only [go_sem, ↓reduceIte, Nat.reduceEqDiff, Nat.reduceAdd, Nat.reduceMul, Nat.reduceLeDiff, Nat.reduceLT, Int.reduceEq, Int.toNat_natCast, t0, t1, t4, t7, t8]; rfl)) hF
  · rw [if_neg h] at H
    try simp only [go_sem, ↓reduceIte, Nat.reduceEqDiff, Nat.reduceAdd, Nat.reduceMul, Nat.reduceLeDiff, Nat.reduceLT, Int.reduceEq, Int.toNat_natCast, t0, t1, t4, t7, t8]
    exact hE () (pur H).symm _ _  (by first | (simp only [go_sem, ↓reduceIte, Nat.reduceEqDiff, Nat.reduceAdd, Nat.reduceMul, Nat.reduceLeDiff, Nat.reduceLT, Int.reduceEq, Int.toNat_natCast, t0, t1, t4, t7, t8]; done) | rfl | (simp only [go_sem, ↓reduceIte, Nat.reduceEqDiff, Nat.reduceAdd, Nat.reduceMul, Nat.reduceLeDiff, Nat.reduceLT, Int.reduceEq, Int.toNat_natCast, t0, t1, t4, t7, t8]; rfl)) hF
theorem slices_Index_string_string_ok : ∀ (a0 : List ByteArray) (a1 : ByteArray) r, slices_Index_string_string a0 a1 = some r → PCtr Try.prog 36 [.sl false (rws cS a0), .str a1] (.int .i64 r) := by
  intro a0 a1 r H
  intro σ
  unfold slices_Index_string_string at H
  refine ctr_of mixed Try.func36 rfl (by kernel_rfl) (rs := [.tmp 4]) rfl (by kernel_rfl) ?_
  have hF := Fx.refl σ
  have hX := Tau.none σ
  try simp only [go_sem, ↓reduceIte, Nat.reduceEqDiff, Nat.reduceAdd, Nat.reduceMul, Nat.reduceLeDiff, Nat.reduceLT, Int.reduceEq, Int.toNat_natCast]
  obtain ⟨o1, ho1, H⟩ := bnd H
  refine slices_Index_string_string_l0_ok a0 a1 0 _ ho1 _ rfl _ _  ?_ ?_ _ _  (by first | (simp only [go_sem, ↓reduceIte, Nat.reduceEqDiff, Nat.reduceAdd, Nat.reduceMul, Nat.reduceLeDiff, Nat.reduceLT, Int.reduceEq, Int.toNat_natCast]; done) | rfl | (simp only [go_sem, ↓reduceIte, Nat.reduceEqDiff, Nat.reduceAdd, Nat.reduceMul, Nat.reduceLeDiff, Nat.reduceLT, Int.reduceEq, Int.toNat_natCast]; rfl)) (by first | (simp only [go_sem, ↓reduceIte, Nat.reduceEqDiff, Nat.reduceAdd, Nat.reduceMul, Nat.reduceLeDiff, Nat.reduceLT, Int.reduceEq, Int.toNat_natCast]; done) | rfl | (simp only [go_sem, ↓reduceIte, Nat.reduceEqDiff, Nat.reduceAdd, Nat.reduceMul, Nat.reduceLeDiff, Nat.reduceLT, Int.reduceEq, Int.toNat_natCast]; rfl)) (by first | (simp only [go_sem, ↓reduceIte, Nat.reduceEqDiff, Nat.reduceAdd, Nat.reduceMul, Nat.reduceLeDiff, Nat.reduceLT, Int.reduceEq, Int.toNat_natCast]; done) | rfl | (simp only [go_sem, ↓reduceIte, Nat.reduceEqDiff, Nat.reduceAdd, Nat.reduceMul, Nat.reduceLeDiff, Nat.reduceLT, Int.reduceEq, Int.toNat_natCast]; rfl)) (by first | (simp only [go_sem, ↓reduceIte, Nat.reduceEqDiff, Nat.reduceAdd, Nat.reduceMul, Nat.reduceLeDiff, Nat.reduceLT, Int.reduceEq, Int.toNat_natCast]; done) | rfl | (simp only [go_sem, ↓reduceIte, Nat.reduceEqDiff, Nat.reduceAdd, Nat.reduceMul, Nat.reduceLeDiff, Nat.reduceLT, Int.reduceEq, Int.toNat_natCast]; rfl)) (by first | (simp only [go_sem, ↓reduceIte, Nat.reduceEqDiff, Nat.reduceAdd, Nat.reduceMul, Nat.reduceLeDiff, Nat.reduceLT, Int.reduceEq, Int.toNat_natCast]; done) | rfl | (simp only [go_sem, ↓reduceIte, Nat.reduceEqDiff, Nat.reduceAdd, Nat.reduceMul, Nat.reduceLeDiff, Nat.reduceLT, Int.reduceEq, Int.toNat_natCast]; rfl)) hF
  · intro _ he T3 σ4 t4 hF
    have he := he.symm
    subst he
    dsimp only at H
    try simp only [go_sem, ↓reduceIte, Nat.reduceEqDiff, Nat.reduceAdd, Nat.reduceMul, Nat.reduceLeDiff, Nat.reduceLT, Int.reduceEq, Int.toNat_natCast, t4]
    have e := pur H; subst e
    exact fx_ret (vs := [.int .i64 (-1)]) (by first | (simp only [go_sem, ↓reduceIte, Nat.reduceEqDiff, Nat.reduceAdd, Nat.reduceMul, Nat.reduceLeDiff, Nat.reduceLT, Int.reduceEq, Int.toNat_natCast, t4]; done) | rfl | (simp only [go_sem, ↓reduceIte, Nat.reduceEqDiff, Nat.reduceAdd, Nat.reduceMul, Nat.reduceLeDiff, Nat.reduceLT, Int.reduceEq, Int.toNat_natCast, t4]; rfl)) (hF.wk0 _)
  · intro r hr s' hs
    subst hr
    have e := pur H; subst e
    first | exact hs | (try simp only [Fm.cells_eq] at hs ⊢; exact hs)
theorem slices_Contains_string_string_ok : ∀ (a0 : List ByteArray) (a1 : ByteArray) r, slices_Contains_string_string a0 a1 = some r → PCtr Try.prog 23 [.sl false (rws cS a0), .str a1] (.bool r) := by
  intro a0 a1 r H
  intro σ
  unfold slices_Contains_string_string at H
  refine ctr_of mixed Try.func23 rfl (by kernel_rfl) (rs := [.tmp 4]) rfl (by kernel_rfl) ?_
  have hF := Fx.refl σ
  have hX := Tau.none σ
  try simp only [go_sem, ↓reduceIte, Nat.reduceEqDiff, Nat.reduceAdd, Nat.reduceMul, Nat.reduceLeDiff, Nat.reduceLT, Int.reduceEq, Int.toNat_natCast]
  obtain ⟨x7, hx7, H⟩ := bnd H
  refine aCall_pure (slices_Index_string_string_ok a0 a1 _ hx7) (WkVL.refl _) ?_
  try simp only [go_sem, ↓reduceIte, Nat.reduceEqDiff, Nat.reduceAdd, Nat.reduceMul, Nat.reduceLeDiff, Nat.reduceLT, Int.reduceEq, Int.toNat_natCast]
  have e := pur H; subst e
  exact fx_ret (vs := [.bool (decide (x7 ≥ 0))]) (by first | (simp only [go_sem, ↓reduceIte, Nat.reduceEqDiff, Nat.reduceAdd, Nat.reduceMul, Nat.reduceLeDiff, Nat.reduceLT, Int.reduceEq, Int.toNat_natCast]; done) | rfl | (simp only [go_sem, ↓reduceIte, Nat.reduceEqDiff, Nat.reduceAdd, Nat.reduceMul, Nat.reduceLeDiff, Nat.reduceLT, Int.reduceEq, Int.toNat_natCast]; rfl)) (hF.wk0 _)
theorem impl_NamesOf_c1_ok : ∀ (a0 : Fm) (c0 : List ByteArray) r, impl_NamesOf_c1 a0 c0 = some r → ∀ (e0 : Nat) (o0_0 : AV) (σ : Sto), Pre σ [(e0, ⟨30, 1, [o0_0]⟩)] [⟨o0_0, 9, 1, rws cS c0⟩] → Ctr Try.prog 22 [.agg (Fm.cells a0), .ptr e0 0] σ (fun r' σ' => ∃ (τ' : Sto) (u0_0 : AV), r' = .tup [] ∧ Tau (strip σ [⟨o0_0, 9, 1, rws cS c0⟩]) [(e0, ⟨30, 1, [u0_0]⟩)] τ' ∧ Fx τ' σ' [] [⟨u0_0, 9, 1, rws cS r⟩]) := by
  intro a0 c0 r H
  intro e0 o0_0 σ hP
  unfold impl_NamesOf_c1 at H
  refine ctr_of mixed Try.func22 rfl (by kernel_rfl) (rs := []) rfl (by kernel_rfl) ?_
  obtain ⟨hF, hX⟩ := hP.start
  generalize strip σ [⟨o0_0, 9, 1, rws cS c0⟩] = τ0 at hF hX ⊢
  try simp only [go_sem, ↓reduceIte, Nat.reduceEqDiff, Nat.reduceAdd, Nat.reduceMul, Nat.reduceLeDiff, Nat.reduceLT, Int.reduceEq, Int.toNat_natCast, hF.xat hX 0 rfl, hF.cells 0 rfl, hF.len 0 rfl]
  refine fx_alloc hF rfl fun b1 σ2 hF => ?_
  try simp only [go_sem, ↓reduceIte, Nat.reduceEqDiff, Nat.reduceAdd, Nat.reduceMul, Nat.reduceLeDiff, Nat.reduceLT, Int.reduceEq, Int.toNat_natCast, hF.at 0 rfl, hF.xat hX 0 rfl, hF.cells 0 rfl, hF.len 0 rfl]
  obtain ⟨x12, g3, H⟩ := bnd H
  refine aGd_cutN 5 7 12 (.bool x12) (aGd_intro (fun q4 => ?_) (fun q4 => ?_)) (fun J => ?_)
  · rw [if_pos (of_decide_eq_true q4)] at g3
    try simp only [go_sem, ↓reduceIte, Nat.reduceEqDiff, Nat.reduceAdd, Nat.reduceMul, Nat.reduceLeDiff, Nat.reduceLT, Int.reduceEq, Int.toNat_natCast, q4, hF.at 0 rfl, hF.xat hX 0 rfl, hF.cells 0 rfl, hF.len 0 rfl]
    obtain ⟨x10, hx10, g3⟩ := bnd g3
    refine aCall_flat (slices_Contains_string_string_ok c0 a0.name _ hx10) .bool (.cons ((hF.wk 0 rfl).trans (Wk.sub (Sub.zero _) _)) (fun _ => rfl) (.cons (Wk.sub (Sub.zero _) _) id .nil)) ?_
    try simp only [go_sem, ↓reduceIte, Nat.reduceEqDiff, Nat.reduceAdd, Nat.reduceMul, Nat.reduceLeDiff, Nat.reduceLT, Int.reduceEq, Int.toNat_natCast, q4, hF.at 0 rfl, hF.xat hX 0 rfl, hF.cells 0 rfl, hF.len 0 rfl]
    refine cut_done 7 (by have e := pur g3; subst e; (first | rfl | (simp only [go_sem, ↓reduceIte, Nat.reduceEqDiff, Nat.reduceAdd, Nat.reduceMul, Nat.reduceLeDiff, Nat.reduceLT, Int.reduceEq, Int.toNat_natCast, q4]; done) | (simp only [go_sem, ↓reduceIte, Nat.reduceEqDiff, Nat.reduceAdd, Nat.reduceMul, Nat.reduceLeDiff, Nat.reduceLT, Int.reduceEq, Int.toNat_natCast, q4]; simp_all [upd_app]) | simp_all [upd_app])) ?_
    (repeat (first | refine agree_upd (by decide) ?_ | refine agree_low (by decide) ?_)) <;> (repeat (first | refine agree_updR (by decide) ?_ | refine agree_lowR (by decide) ?_)) <;> exact fun _ _ _ => rfl
  · rw [if_neg (of_decide_eq_false q4)] at g3
    try simp only [go_sem, ↓reduceIte, Nat.reduceEqDiff, Nat.reduceAdd, Nat.reduceMul, Nat.reduceLeDiff, Nat.reduceLT, Int.reduceEq, Int.toNat_natCast, q4, hF.at 0 rfl, hF.xat hX 0 rfl, hF.cells 0 rfl, hF.len 0 rfl]
    refine cut_done 7 (by have e := pur g3; subst e; (first | rfl | (simp only [go_sem, ↓reduceIte, Nat.reduceEqDiff, Nat.reduceAdd, Nat.reduceMul, Nat.reduceLeDiff, Nat.reduceLT, Int.reduceEq, Int.toNat_natCast, q4]; done) | (simp only [go_sem, ↓reduceIte, Nat.reduceEqDiff, Nat.reduceAdd, Nat.reduceMul, Nat.reduceLeDiff, Nat.reduceLT, Int.reduceEq, Int.toNat_natCast, q4]; simp_all [upd_app]) | simp_all [upd_app])) ?_
    (repeat (first | refine agree_upd (by decide) ?_ | refine agree_low (by decide) ?_)) <;> (repeat (first | refine agree_updR (by decide) ?_ | refine agree_lowR (by decide) ?_)) <;> exact fun _ _ _ => rfl
  try simp only [go_sem, ↓reduceIte, Nat.reduceEqDiff, Nat.reduceAdd, Nat.reduceMul, Nat.reduceLeDiff, Nat.reduceLT, Int.reduceEq, Int.toNat_natCast, hF.at 0 rfl, hF.xat hX 0 rfl, hF.cells 0 rfl, hF.len 0 rfl]
  refine aCnd_b x12 rfl (fun h => ?_) (fun h => ?_)
  · rw [if_pos h] at H
    try simp only [go_sem, ↓reduceIte, Nat.reduceEqDiff, Nat.reduceAdd, Nat.reduceMul, Nat.reduceLeDiff, Nat.reduceLT, Int.reduceEq, Int.toNat_natCast, hF.at 0 rfl, hF.xat hX 0 rfl, hF.cells 0 rfl, hF.len 0 rfl]
    obtain ⟨x17, hx17, H⟩ := bnd H
    refine fx_app hF 0 (g := cS) (xs := c0) (ys := [a0.name]) rfl (by decide) (by decide) (RdL.of (c := true) (fun _ => rfl) (by first | rfl | simp only [rws_cons, rws_nil, cI, cU, cS, cL])) hx17 fun v5 σ6 hF => ?_
    try simp only [go_sem, ↓reduceIte, Nat.reduceEqDiff, Nat.reduceAdd, Nat.reduceMul, Nat.reduceLeDiff, Nat.reduceLT, Int.reduceEq, Int.toNat_natCast, hF.at 0 rfl, hF.xat hX 0 rfl, hF.cells 0 rfl, hF.len 0 rfl]
    refine fx_storeT hF hX 0 (cells' := [v5]) rfl (hF.cells 0 rfl) rfl (by simp only [List.length_cons, List.length_nil]; decide) (by first | rfl | simp [splice_eq]) fun τ8 σ7 hF hX => ?_
    try simp only [go_sem, ↓reduceIte, Nat.reduceEqDiff, Nat.reduceAdd, Nat.reduceMul, Nat.reduceLeDiff, Nat.reduceLT, Int.reduceEq, Int.toNat_natCast, hF.at 0 rfl, hF.xat hX 0 rfl, hF.cells 0 rfl, hF.len 0 rfl]
    have e := pur H; subst e
    exact gRet (vs := []) (by first | (simp only [go_sem, ↓reduceIte, Nat.reduceEqDiff, Nat.reduceAdd, Nat.reduceMul, Nat.reduceLeDiff, Nat.reduceLT, Int.reduceEq, Int.toNat_natCast, hF.at 0 rfl, hF.xat hX 0 rfl, hF.cells 0 rfl, hF.len 0 rfl]; done) | rfl | (simp only [go_sem, ↓reduceIte, Nat.reduceEqDiff, Nat.reduceAdd, Nat.reduceMul, Nat.reduceLeDiff, Nat.reduceLT, Int.reduceEq, Int.toNat_natCast, hF.at 0 rfl, hF.xat hX 0 rfl, hF.cells 0 rfl, hF.len 0 rfl]; rfl)) (Wk.tup (Sub.refl _) .nil) ⟨_, _, rfl, hX, hF.pick [] [0] (by decide) (by decide)⟩
  · rw [if_neg h] at H
    try simp only [go_sem, ↓reduceIte, Nat.reduceEqDiff, Nat.reduceAdd, Nat.reduceMul, Nat.reduceLeDiff, Nat.reduceLT, Int.reduceEq, Int.toNat_natCast, hF.at 0 rfl, hF.xat hX 0 rfl, hF.cells 0 rfl, hF.len 0 rfl]
    have e := pur H; subst e
    exact gRet (vs := []) (by first | (simp only [go_sem, ↓reduceIte, Nat.reduceEqDiff, Nat.reduceAdd, Nat.reduceMul, Nat.reduceLeDiff, Nat.reduceLT, Int.reduceEq, Int.toNat_natCast, hF.at 0 rfl, hF.xat hX 0 rfl, hF.cells 0 rfl, hF.len 0 rfl]; done) | rfl | (simp only [go_sem, ↓reduceIte, Nat.reduceEqDiff, Nat.reduceAdd, Nat.reduceMul, Nat.reduceLeDiff, Nat.reduceLT, Int.reduceEq, Int.toNat_natCast, hF.at 0 rfl, hF.xat hX 0 rfl, hF.cells 0 rfl, hF.len 0 rfl]; rfl)) (Wk.tup (Sub.refl _) .nil) ⟨_, _, rfl, hX, hF.pick [] [0] (by decide) (by decide)⟩
theorem impl_eachForm__impl_NamesOf_c1_ok : ∀ (a0 : Fm) (c0 : List ByteArray) r, impl_eachForm__impl_NamesOf_c1 a0 c0 = some r → ∀ (e0 : Nat) (o0_0 : AV) (σ : Sto), Pre σ [(e0, ⟨30, 1, [o0_0]⟩)] [⟨o0_0, 9, 1, rws cS c0⟩] → Ctr Try.prog 19 [.agg (Fm.cells a0), .fn 22 [.ptr e0 0]] σ (fun r' σ' => ∃ (τ' : Sto) (u0_0 : AV), r' = .tup [] ∧ Tau (strip σ [⟨o0_0, 9, 1, rws cS c0⟩]) [(e0, ⟨30, 1, [u0_0]⟩)] τ' ∧ Fx τ' σ' [] [⟨u0_0, 9, 1, rws cS r⟩]) := by
  refine impl_eachForm__impl_NamesOf_c1.partial_correctness  (motive_1 := fun a0 c0 r => ∀ (e0 : Nat) (o0_0 : AV) (σ : Sto), Pre σ [(e0, ⟨30, 1, [o0_0]⟩)] [⟨o0_0, 9, 1, rws cS c0⟩] → Ctr Try.prog 19 [.agg (Fm.cells a0), .fn 22 [.ptr e0 0]] σ (fun r' σ' => ∃ (τ' : Sto) (u0_0 : AV), r' = .tup [] ∧ Tau (strip σ [⟨o0_0, 9, 1, rws cS c0⟩]) [(e0, ⟨30, 1, [u0_0]⟩)] τ' ∧ Fx τ' σ' [] [⟨u0_0, 9, 1, rws cS r⟩])) (motive_2 := fun a0 z0o_0 z0t_12 out => ∀ c, loopAt Try.f19 0 = some c → ∀ (Q : AX → AS → Prop) (τ0 : Sto) (e0 : Nat) (b1 : Nat), (∀ (e0o_0 : List ByteArray), out = e0o_0 → ∀ (T : Nat → AV) (σ : Sto) (τ : Sto) (e0v0 : AV), Tau τ0 [(e0, ⟨30, 1, [e0v0]⟩)] τ → Fx τ σ [(b1, ⟨26, 5, [.int .i64 a0.kind, .str a0.name, .int .i64 a0.num, .sl false (rws cI a0.sc), .sl false (rws Fm.cells a0.kids)]⟩)] [⟨e0v0, 9, 1, rws cS e0o_0⟩] → Q (.ex 0) ⟨T, σ⟩) → True → ∀ (T : Nat → AV) (σ : Sto) (τ : Sto) (z0v0 : AV), T 1 = .fn 22 [.ptr e0 0] → T 10 = .sl false (rws Fm.cells a0.kids) → T 11 = .int .i64 (a0.kids.length : Int) → T 12 = .int .i64 z0t_12 → Tau τ0 [(e0, ⟨30, 1, [z0v0]⟩)] τ → Fx τ σ [(b1, ⟨26, 5, [.int .i64 a0.kind, .str a0.name, .int .i64 a0.num, .sl false (rws cI a0.sc), .sl false (rws Fm.cells a0.kids)]⟩)] [⟨z0v0, 9, 1, rws cS z0o_0⟩] → aLoop (acode Try.prog c) Q ⟨T, σ⟩) ?_ ?_
  · intro impl_eachForm__impl_NamesOf_c1_l0 L0 a0 c0 r H
    intro e0 o0_0 σ hP
    refine ctr_of mixed Try.func19 rfl (by kernel_rfl) (rs := []) rfl (by kernel_rfl) ?_
    obtain ⟨hF, hX⟩ := hP.start
    generalize strip σ [⟨o0_0, 9, 1, rws cS c0⟩] = τ0 at hF hX ⊢
    try simp only [go_sem, ↓reduceIte, Nat.reduceEqDiff, Nat.reduceAdd, Nat.reduceMul, Nat.reduceLeDiff, Nat.reduceLT, Int.reduceEq, Int.toNat_natCast, hF.xat hX 0 rfl, hF.cells 0 rfl, hF.len 0 rfl]
    refine fx_alloc hF rfl fun b1 σ2 hF => ?_
    try simp only [go_sem, ↓reduceIte, Nat.reduceEqDiff, Nat.reduceAdd, Nat.reduceMul, Nat.reduceLeDiff, Nat.reduceLT, Int.reduceEq, Int.toNat_natCast, hF.at 0 rfl, hF.xat hX 0 rfl, hF.cells 0 rfl, hF.len 0 rfl]
    obtain ⟨x8, hx8, H⟩ := bnd H
    refine aCall_ctr (impl_NamesOf_c1_ok a0 c0 _ hx8 e0 o0_0 _ (Fx.pre (esL := []) (bsr := [(b1, ⟨26, 5, [.int .i64 a0.kind, .str a0.name, .int .i64 a0.num, .sl false (rws cI a0.sc), .sl false (rws Fm.cells a0.kids)]⟩)]) (esX := [(e0, ⟨30, 1, [o0_0]⟩)]) (xsr := []) (ms0 := [⟨o0_0, 9, 1, rws cS c0⟩]) (msr := []) hF hX)) (by (try simp only [Fm.cells_eq]); exact WkVL.refl _) ?_
    rintro _ σ4 ⟨τ5, v3, rfl, hT, hG⟩
    obtain ⟨τ6, hX, hF⟩ := Fx.after (bn := []) (esL := []) (bsr := [(b1, ⟨26, 5, [.int .i64 a0.kind, .str a0.name, .int .i64 a0.num, .sl false (rws cI a0.sc), .sl false (rws Fm.cells a0.kids)]⟩)]) (esX := [(e0, ⟨30, 1, [o0_0]⟩)]) (xsr := []) (ms0 := [⟨o0_0, 9, 1, rws cS c0⟩]) (msr := []) (esL' := []) (esX' := [(e0, ⟨30, 1, [v3]⟩)]) hF hX hT hG rfl rfl
    have hX : Tau τ0 [(e0, ⟨30, 1, [v3]⟩)] τ6 := hX
    have hF : Fx τ6 σ4 [(b1, ⟨26, 5, [.int .i64 a0.kind, .str a0.name, .int .i64 a0.num, .sl false (rws cI a0.sc), .sl false (rws Fm.cells a0.kids)]⟩)] [⟨v3, 9, 1, rws cS x8⟩] := hF
    try simp only [go_sem, ↓reduceIte, Nat.reduceEqDiff, Nat.reduceAdd, Nat.reduceMul, Nat.reduceLeDiff, Nat.reduceLT, Int.reduceEq, Int.toNat_natCast, hF.at 0 rfl, hF.xat hX 0 rfl, hF.cells 0 rfl, hF.len 0 rfl]
    obtain ⟨o14, ho14, H⟩ := bnd H
    refine L0 a0 x8 0 _ ho14 _ rfl _ τ0 e0 b1 ?_ ?_ _ _ _ v3 (by first | (simp only [go_sem, ↓reduceIte, Nat.reduceEqDiff, Nat.reduceAdd, Nat.reduceMul, Nat.reduceLeDiff, Nat.reduceLT, Int.reduceEq, Int.toNat_natCast, hF.at 0 rfl, hF.xat hX 0 rfl, hF.cells 0 rfl, hF.len 0 rfl]; done) | rfl | (simp only [go_sem, ↓reduceIte, Nat.reduceEqDiff, Nat.reduceAdd, Nat.reduceMul, Nat.reduceLeDiff, Nat.reduceLT, Int.reduceEq, Int.toNat_natCast, hF.at 0 rfl, hF.xat hX 0 rfl, hF.cells 0 rfl, hF.len 0 rfl]; rfl)) (by first | (simp only [go_sem, ↓reduceIte, Nat.reduceEqDiff, Nat.reduceAdd, Nat.reduceMul, Nat.reduceLeDiff, Nat.reduceLT, Int.reduceEq, Int.toNat_natCast, hF.at 0 rfl, hF.xat hX 0 rfl, hF.cells 0 rfl, hF.len 0 rfl]; done) | rfl | (simp only [go_sem, ↓reduceIte, Nat.reduceEqDiff, Nat.reduceAdd, Nat.reduceMul, Nat.reduceLeDiff, Nat.reduceLT, Int.reduceEq, Int.toNat_natCast, hF.at 0 rfl, hF.xat hX 0 rfl, hF.cells 0 rfl, hF.len 0 rfl]; rfl)) (by first | (simp only [go_sem, ↓reduceIte, Nat.reduceEqDiff, Nat.reduceAdd, Nat.reduceMul, Nat.reduceLeDiff, Nat.reduceLT, Int.reduceEq, Int.toNat_natCast, hF.at 0 rfl, hF.xat hX 0 rfl, hF.cells 0 rfl, hF.len 0 rfl]; done) | rfl | (simp only [go_sem, ↓reduceIte, Nat.reduceEqDiff, Nat.reduceAdd, Nat.reduceMul, Nat.reduceLeDiff, Nat.reduceLT, Int.reduceEq, Int.toNat_natCast, hF.at 0 rfl, hF.xat hX 0 rfl, hF.cells 0 rfl, hF.len 0 rfl]; rfl)) (by first | (simp only [go_sem, ↓reduceIte, Nat.reduceEqDiff, Nat.reduceAdd, Nat.reduceMul, Nat.reduceLeDiff, Nat.reduceLT, Int.reduceEq, Int.toNat_natCast, hF.at 0 rfl, hF.xat hX 0 rfl, hF.cells 0 rfl, hF.len 0 rfl]; done) | rfl | (simp only [go_sem, ↓reduceIte, Nat.reduceEqDiff, Nat.reduceAdd, Nat.reduceMul, Nat.reduceLeDiff, Nat.reduceLT, Int.reduceEq, Int.toNat_natCast, hF.at 0 rfl, hF.xat hX 0 rfl, hF.cells 0 rfl, hF.len 0 rfl]; rfl)) hX hF
    · intro e15o_0 he T16 σ17 τ18 e15v0 hX hF
      have he := he.symm
      subst he
      try simp only [go_sem, ↓reduceIte, Nat.reduceEqDiff, Nat.reduceAdd, Nat.reduceMul, Nat.reduceLeDiff, Nat.reduceLT, Int.reduceEq, Int.toNat_natCast, hF.at 0 rfl, hF.xat hX 0 rfl, hF.cells 0 rfl, hF.len 0 rfl]
      have e := pur H; subst e
      exact gRet (vs := []) (by first | (simp only [go_sem, ↓reduceIte, Nat.reduceEqDiff, Nat.reduceAdd, Nat.reduceMul, Nat.reduceLeDiff, Nat.reduceLT, Int.reduceEq, Int.toNat_natCast, hF.at 0 rfl, hF.xat hX 0 rfl, hF.cells 0 rfl, hF.len 0 rfl]; done) | rfl | (simp only [go_sem, ↓reduceIte, Nat.reduceEqDiff, Nat.reduceAdd, Nat.reduceMul, Nat.reduceLeDiff, Nat.reduceLT, Int.reduceEq, Int.toNat_natCast, hF.at 0 rfl, hF.xat hX 0 rfl, hF.cells 0 rfl, hF.len 0 rfl]; rfl)) (Wk.tup (Sub.refl _) .nil) ⟨_, _, rfl, hX, hF.pick [] [0] (by decide) (by decide)⟩
    · trivial
  · intro impl_eachForm__impl_NamesOf_c1 impl_eachForm__impl_NamesOf_c1_l0 C0 L0 a0 z0o_0 z0t_12 out H c hc Q τ0 e0 b1 hE hR T σ τ z0v0 t1 t10 t11 t12 hX hF
    obtain rfl := Option.some.inj ((rfl : loopAt Try.f19 0 = some _).symm.trans hc)
    refine aLoop_round ?_
    try simp only [go_sem, ↓reduceIte, Nat.reduceEqDiff, Nat.reduceAdd, Nat.reduceMul, Nat.reduceLeDiff, Nat.reduceLT, Int.reduceEq, Int.toNat_natCast, t1, t10, t11, t12, hF.at 0 rfl, hF.xat hX 0 rfl, hF.cells 0 rfl, hF.len 0 rfl]
    refine aCnd_p (z0t_12 < (a0.kids.length : Int)) rfl (fun h => ?_) (fun h => ?_)
    · rw [if_pos h] at H
      obtain ⟨x14, hx14, H⟩ := bnd H
      try simp only [go_sem, ↓reduceIte, Nat.reduceEqDiff, Nat.reduceAdd, Nat.reduceMul, Nat.reduceLeDiff, Nat.reduceLT, Int.reduceEq, Int.toNat_natCast, t1, t10, t11, t12, hF.at 0 rfl, hF.xat hX 0 rfl, hF.cells 0 rfl, hF.len 0 rfl, aidx_idx (g := Fm.cells) Fm.cells_len hx14]
      refine fx_alloc hF rfl fun b7 σ8 hF => ?_
      try simp only [go_sem, ↓reduceIte, Nat.reduceEqDiff, Nat.reduceAdd, Nat.reduceMul, Nat.reduceLeDiff, Nat.reduceLT, Int.reduceEq, Int.toNat_natCast, t1, t10, t11, t12, hF.at 0 rfl, hF.at 1 rfl, hF.xat hX 0 rfl, hF.cells 0 rfl, hF.len 0 rfl]
      refine fx_store hF 0 (cells' := [.int .i64 x14.kind, .str x14.name, .int .i64 x14.num, .sl false (rws cI x14.sc), .sl false (rws Fm.cells x14.kids)]) rfl rfl rfl (by simp only [List.length_cons, List.length_nil]; decide) (by first | rfl | simp [splice_eq]) fun σ9 hF => ?_
      try simp only [go_sem, ↓reduceIte, Nat.reduceEqDiff, Nat.reduceAdd, Nat.reduceMul, Nat.reduceLeDiff, Nat.reduceLT, Int.reduceEq, Int.toNat_natCast, t1, t10, t11, t12, hF.at 0 rfl, hF.at 1 rfl, hF.xat hX 0 rfl, hF.cells 0 rfl, hF.len 0 rfl]
      obtain ⟨x18, hx18, H⟩ := bnd H
      refine aCall_ctr (C0 x14 z0o_0 _ hx18 e0 z0v0 _ (Fx.pre (esL := []) (bsr := [(b7, ⟨26, 5, [.int .i64 x14.kind, .str x14.name, .int .i64 x14.num, .sl false (rws cI x14.sc), .sl false (rws Fm.cells x14.kids)]⟩), (b1, ⟨26, 5, [.int .i64 a0.kind, .str a0.name, .int .i64 a0.num, .sl false (rws cI a0.sc), .sl false (rws Fm.cells a0.kids)]⟩)]) (esX := [(e0, ⟨30, 1, [z0v0]⟩)]) (xsr := []) (ms0 := [⟨z0v0, 9, 1, rws cS z0o_0⟩]) (msr := []) hF hX)) (by (try simp only [Fm.cells_eq]); exact WkVL.refl _) ?_
      rintro _ σ11 ⟨τ12, v10, rfl, hT, hG⟩
      obtain ⟨τ13, hX, hF⟩ := Fx.after (bn := []) (esL := []) (bsr := [(b7, ⟨26, 5, [.int .i64 x14.kind, .str x14.name, .int .i64 x14.num, .sl false (rws cI x14.sc), .sl false (rws Fm.cells x14.kids)]⟩), (b1, ⟨26, 5, [.int .i64 a0.kind, .str a0.name, .int .i64 a0.num, .sl false (rws cI a0.sc), .sl false (rws Fm.cells a0.kids)]⟩)]) (esX := [(e0, ⟨30, 1, [z0v0]⟩)]) (xsr := []) (ms0 := [⟨z0v0, 9, 1, rws cS z0o_0⟩]) (msr := []) (esL' := []) (esX' := [(e0, ⟨30, 1, [v10]⟩)]) hF hX hT hG rfl rfl
      have hX : Tau τ0 [(e0, ⟨30, 1, [v10]⟩)] τ13 := hX
      have hF : Fx τ13 σ11 [(b7, ⟨26, 5, [.int .i64 x14.kind, .str x14.name, .int .i64 x14.num, .sl false (rws cI x14.sc), .sl false (rws Fm.cells x14.kids)]⟩), (b1, ⟨26, 5, [.int .i64 a0.kind, .str a0.name, .int .i64 a0.num, .sl false (rws cI a0.sc), .sl false (rws Fm.cells a0.kids)]⟩)] [⟨v10, 9, 1, rws cS x18⟩] := hF
      try simp only [go_sem, ↓reduceIte, Nat.reduceEqDiff, Nat.reduceAdd, Nat.reduceMul, Nat.reduceLeDiff, Nat.reduceLT, Int.reduceEq, Int.toNat_natCast, t1, t10, t11, t12, hF.at 0 rfl, hF.at 1 rfl, hF.xat hX 0 rfl, hF.cells 0 rfl, hF.len 0 rfl]
      exact L0 a0 x18 (IntKind.i64.wrap (z0t_12 + 1)) _ H _ rfl Q τ0 e0 b1 hE hR _ _ _ v10 (by first | (simp only [go_sem, ↓reduceIte, Nat.reduceEqDiff, Nat.reduceAdd, Nat.reduceMul, Nat.reduceLeDiff, Nat.reduceLT, Int.reduceEq, Int.toNat_natCast, t1, t10, t11, t12, hF.at 0 rfl, hF.at 1 rfl, hF.xat hX 0 rfl, hF.cells 0 rfl, hF.len 0 rfl]; done) | rfl | (simp only [go_sem, ↓reduceIte, Nat.reduceEqDiff, Nat.reduceAdd, Nat.reduceMul, Nat.reduceLeDiff, Nat.reduceLT, Int.reduceEq, Int.toNat_natCast, t1, t10, t11, t12, hF.at 0 rfl, hF.at 1 rfl, hF.xat hX 0 rfl, hF.cells 0 rfl, hF.len 0 rfl]; rfl)) (by first | (simp only [go_sem, ↓reduceIte, Nat.reduceEqDiff, Nat.reduceAdd, Nat.reduceMul, Nat.reduceLeDiff, Nat.reduceLT, Int.reduceEq, Int.toNat_natCast, t1, t10, t11, t12, hF.at 0 rfl, hF.at 1 rfl, hF.xat hX 0 rfl, hF.cells 0 rfl, hF.len 0 rfl]; done) | rfl | (simp only [go_sem, ↓reduceIte, Nat.reduceEqDiff, Nat.reduceAdd, Nat.reduceMul, Nat.reduceLeDiff, Nat.reduceLT, Int.reduceEq, Int.toNat_natCast, t1, t10, t11, t12, hF.at 0 rfl, hF.at 1 rfl, hF.xat hX 0 rfl, hF.cells 0 rfl, hF.len 0 rfl]; rfl)) (by first | (simp only [go_sem, ↓reduceIte, Nat.reduceEqDiff, Nat.reduceAdd, Nat.reduceMul, Nat.reduceLeDiff, Nat.reduceLT, Int.reduceEq, Int.toNat_natCast, t1, t10, t11, t12, hF.at 0 rfl, hF.at 1 rfl, hF.xat hX 0 rfl, hF.cells 0 rfl, hF.len 0 rfl]; done) | rfl | (simp only [go_sem, ↓reduceIte, Nat.reduceEqDiff, Nat.reduceAdd, Nat.reduceMul, Nat.reduceLeDiff, Nat.reduceLT, Int.reduceEq, Int.toNat_natCast, t1, t10, t11, t12, hF.at 0 rfl, hF.at 1 rfl, hF.xat hX 0 rfl, hF.cells 0 rfl, hF.len 0 rfl]; rfl)) (by first | (simp only [go_sem, ↓reduceIte, Nat.reduceEqDiff, Nat.reduceAdd, Nat.reduceMul, Nat.reduceLeDiff, Nat.reduceLT, Int.reduceEq, Int.toNat_natCast, t1, t10, t11, t12, hF.at 0 rfl, hF.at 1 rfl, hF.xat hX 0 rfl, hF.cells 0 rfl, hF.len 0 rfl]; done) | rfl | (simp only [go_sem, ↓reduceIte, Nat.reduceEqDiff, Nat.reduceAdd, Nat.reduceMul, Nat.reduceLeDiff, Nat.reduceLT, Int.reduceEq, Int.toNat_natCast, t1, t10, t11, t12, hF.at 0 rfl, hF.at 1 rfl, hF.xat hX 0 rfl, hF.cells 0 rfl, hF.len 0 rfl]; rfl)) hX (hF.drop 1 0)
    · rw [if_neg h] at H
      try simp only [go_sem, ↓reduceIte, Nat.reduceEqDiff, Nat.reduceAdd, Nat.reduceMul, Nat.reduceLeDiff, Nat.reduceLT, Int.reduceEq, Int.toNat_natCast, t1, t10, t11, t12, hF.at 0 rfl, hF.xat hX 0 rfl, hF.cells 0 rfl, hF.len 0 rfl]
      exact hE _ (pur H).symm _ _ _ z0v0 hX hF
theorem impl_NamesOf_ok : ∀ (a0 : Fm) r, impl_NamesOf a0 = some r → PCtr Try.prog 9 [.agg (Fm.cells a0)] (.sl false (rws cS r)) := by
  intro a0 r H
  intro σ
  unfold impl_NamesOf at H
  refine ctr_of mixed Try.func9 rfl (by kernel_rfl) (rs := [.tmp 2]) rfl (by kernel_rfl) ?_
  have hF := Fx.refl σ
  have hX := Tau.none σ
  try simp only [go_sem, ↓reduceIte, Nat.reduceEqDiff, Nat.reduceAdd, Nat.reduceMul, Nat.reduceLeDiff, Nat.reduceLT, Int.reduceEq, Int.toNat_natCast]
  refine fx_alloc hF rfl fun b1 σ2 hF => ?_
  try simp only [go_sem, ↓reduceIte, Nat.reduceEqDiff, Nat.reduceAdd, Nat.reduceMul, Nat.reduceLeDiff, Nat.reduceLT, Int.reduceEq, Int.toNat_natCast, hF.at 0 rfl]
  refine fx_alloc hF rfl fun b3 σ4 hF => ?_
  try simp only [go_sem, ↓reduceIte, Nat.reduceEqDiff, Nat.reduceAdd, Nat.reduceMul, Nat.reduceLeDiff, Nat.reduceLT, Int.reduceEq, Int.toNat_natCast, hF.at 0 rfl, hF.at 1 rfl]
  refine fx_store hF 0 (cells' := [.sl true (rws cS [])]) rfl rfl rfl (by simp only [List.length_cons, List.length_nil]; decide) (by first | rfl | simp [splice_eq]) fun σ5 hF => ?_
  have hF := hF.lit 9 1 (rws cS []) rfl
  try simp only [go_sem, ↓reduceIte, Nat.reduceEqDiff, Nat.reduceAdd, Nat.reduceMul, Nat.reduceLeDiff, Nat.reduceLT, Int.reduceEq, Int.toNat_natCast, hF.at 0 rfl, hF.at 1 rfl, hF.cells 0 rfl, hF.len 0 rfl]
  obtain ⟨x7, hx7, H⟩ := bnd H
  refine aCall_ctr (impl_eachForm__impl_NamesOf_c1_ok a0 [] _ hx7 b3 (.sl true (rws cS [])) _ (Fx.pre (esL := [(b3, ⟨30, 1, [.sl true (rws cS [])]⟩)]) (bsr := [(b1, ⟨26, 5, [.int .i64 a0.kind, .str a0.name, .int .i64 a0.num, .sl false (rws cI a0.sc), .sl false (rws Fm.cells a0.kids)]⟩)]) (esX := []) (xsr := []) (ms0 := [⟨.sl true (rws cS []), 9, 1, rws cS []⟩]) (msr := []) hF hX)) (by (try simp only [Fm.cells_eq]); exact WkVL.refl _) ?_
  rintro _ σ7 ⟨τ8, v6, rfl, hT, hG⟩
  obtain ⟨τ9, hX, hF⟩ := Fx.after (bn := []) (esL := [(b3, ⟨30, 1, [.sl true (rws cS [])]⟩)]) (bsr := [(b1, ⟨26, 5, [.int .i64 a0.kind, .str a0.name, .int .i64 a0.num, .sl false (rws cI a0.sc), .sl false (rws Fm.cells a0.kids)]⟩)]) (esX := []) (xsr := []) (ms0 := [⟨.sl true (rws cS []), 9, 1, rws cS []⟩]) (msr := []) (esL' := [(b3, ⟨30, 1, [v6]⟩)]) (esX' := []) hF hX hT hG rfl rfl
  have hq := hX.eq.symm
  subst hq
  have hF : Fx σ σ7 [(b3, ⟨30, 1, [v6]⟩), (b1, ⟨26, 5, [.int .i64 a0.kind, .str a0.name, .int .i64 a0.num, .sl false (rws cI a0.sc), .sl false (rws Fm.cells a0.kids)]⟩)] [⟨v6, 9, 1, rws cS x7⟩] := hF
  try simp only [go_sem, ↓reduceIte, Nat.reduceEqDiff, Nat.reduceAdd, Nat.reduceMul, Nat.reduceLeDiff, Nat.reduceLT, Int.reduceEq, Int.toNat_natCast, hF.at 0 rfl, hF.at 1 rfl, hF.cells 0 rfl, hF.len 0 rfl]
  have e := pur H; subst e
  exact fx_ret (vs := [v6]) (by first | (simp only [go_sem, ↓reduceIte, Nat.reduceEqDiff, Nat.reduceAdd, Nat.reduceMul, Nat.reduceLeDiff, Nat.reduceLT, Int.reduceEq, Int.toNat_natCast, hF.at 0 rfl, hF.at 1 rfl, hF.cells 0 rfl, hF.len 0 rfl]; done) | rfl | (simp only [go_sem, ↓reduceIte, Nat.reduceEqDiff, Nat.reduceAdd, Nat.reduceMul, Nat.reduceLeDiff, Nat.reduceLT, Int.reduceEq, Int.toNat_natCast, hF.at 0 rfl, hF.at 1 rfl, hF.cells 0 rfl, hF.len 0 rfl]; rfl)) (hF.wk 0 rfl)
theorem laws_mxHasText_l0_ok : ∀ (a0 : List ByteArray) (a1 : ByteArray) (z0t_5 : Int) out, laws_mxHasText_l0 a0 a1 z0t_5 = some out → ∀ c, loopAt Try.f10 0 = some c → ∀ (Q : AX → AS → Prop) (τ : Sto), (∀ (_u : Unit), out = Sum.inr () → ∀ (T : Nat → AV) (σ : Sto), T 4 = .bool false → Fx τ σ [] [] → Q (.ex 0) ⟨T, σ⟩) → (∀ r, out = Sum.inl r → ∀ s', aRet Try.prog [.tmp 4] (fun r' σ' => r' = .bool r ∧ σ' = τ) s' → Q .ret s') → ∀ (T : Nat → AV) (σ : Sto), T 0 = .sl false (rws cS a0) → T 1 = .str a1 → T 4 = .bool false → T 5 = .int .i64 z0t_5 → Fx τ σ [] [] → aLoop (acode Try.prog c) Q ⟨T, σ⟩ := by
  intro a0 a1 z0t_5
  revert z0t_5
  refine laws_mxHasText_l0.partial_correctness a0 a1 _ ?_
  intro laws_mxHasText_l0 IH z0t_5 out H c hc Q τ  hE hR T σ t0 t1 t4 t5 hF
  obtain rfl := Option.some.inj ((rfl : loopAt Try.f10 0 = some _).symm.trans hc)
  refine aLoop_round ?_
  try simp only [go_sem, ↓reduceIte, Nat.reduceEqDiff, Nat.reduceAdd, Nat.reduceMul, Nat.reduceLeDiff, Nat.reduceLT, Int.reduceEq, Int.toNat_natCast, t0, t1, t4, t5]
  refine aCnd_p (z0t_5 < (a0.length : Int)) rfl (fun h => ?_) (fun h => ?_)
  · rw [if_pos h] at H
    obtain ⟨x14, hx14, H⟩ := bnd H
    try simp only [go_sem, ↓reduceIte, Nat.reduceEqDiff, Nat.reduceAdd, Nat.reduceMul, Nat.reduceLeDiff, Nat.reduceLT, Int.reduceEq, Int.toNat_natCast, t0, t1, t4, t5, aidx_idx (g := cS) (fun _ => rfl) hx14]
    refine aCnd_p (x14 = a1) rfl (fun h => ?_) (fun h => ?_)
    · rw [if_pos h] at H
      try simp only [go_sem, ↓reduceIte, Nat.reduceEqDiff, Nat.reduceAdd, Nat.reduceMul, Nat.reduceLeDiff, Nat.reduceLT, Int.reduceEq, Int.toNat_natCast, t0, t1, t4, t5]
      exact hR _ (pur H).symm _ (fx_ret (vs := [.bool true]) (by first | (simp only [go_sem, ↓reduceIte, Nat.reduceEqDiff, Nat.reduceAdd, Nat.reduceMul, Nat.reduceLeDiff, Nat.reduceLT, Int.reduceEq, Int.toNat_natCast, t0, t1, t4, t5]; done) | rfl | (simp only [go_sem, ↓reduceIte, Nat.reduceEqDiff, Nat.reduceAdd, Nat.reduceMul, Nat.reduceLeDiff, Nat.reduceLT, Int.reduceEq, Int.toNat_natCast, t0, t1, t4, t5]; rfl)) (hF.wk0 _))
    · rw [if_neg h] at H
      try simp only [go_sem, ↓reduceIte, Nat.reduceEqDiff, Nat.reduceAdd, Nat.reduceMul, Nat.reduceLeDiff, Nat.reduceLT, Int.reduceEq, Int.toNat_natCast, t0, t1, t4, t5]
      exact IH  (IntKind.i64.wrap (z0t_5 + 1)) _ H _ rfl Q τ  hE hR _ _  (by first | (simp only [go_sem, ↓reduceIte, Nat.reduceEqDiff, Nat.reduceAdd, Nat.reduceMul, Nat.reduceLeDiff, Nat.reduceLT, Int.reduceEq, Int.toNat_natCast, t0, t1, t4, t5]; done) | rfl | (simp only [go_sem, ↓reduceIte, Nat.reduceEqDiff, Nat.reduceAdd, Nat.reduceMul, Nat.reduceLeDiff, Nat.reduceLT, Int.reduceEq, Int.toNat_natCast, t0, t1, t4, t5]; rfl)) (by first | (simp only [go_sem, ↓reduceIte, Nat.reduceEqDiff, Nat.reduceAdd, Nat.reduceMul, Nat.reduceLeDiff, Nat.reduceLT, Int.reduceEq, Int.toNat_natCast, t0, t1, t4, t5]; done) | rfl | (simp only [go_sem, ↓reduceIte, Nat.reduceEqDiff, Nat.reduceAdd, Nat.reduceMul, Nat.reduceLeDiff, Nat.reduceLT, Int.reduceEq, Int.toNat_natCast, t0, t1, t4, t5]; rfl)) (by first | (simp only [go_sem, ↓reduceIte, Nat.reduceEqDiff, Nat.reduceAdd, Nat.reduceMul, Nat.reduceLeDiff, Nat.reduceLT, Int.reduceEq, Int.toNat_natCast, t0, t1, t4, t5]; done) | rfl | (simp only [go_sem, ↓reduceIte, Nat.reduceEqDiff, Nat.reduceAdd, Nat.reduceMul, Nat.reduceLeDiff, Nat.reduceLT, Int.reduceEq, Int.toNat_natCast, t0, t1, t4, t5]; rfl)) (by first | (simp only [go_sem, ↓reduceIte, Nat.reduceEqDiff, Nat.reduceAdd, Nat.reduceMul, Nat.reduceLeDiff, Nat.reduceLT, Int.reduceEq, Int.toNat_natCast, t0, t1, t4, t5]; done) | rfl | (simp only [go_sem, ↓reduceIte, Nat.reduceEqDiff, Nat.reduceAdd, Nat.reduceMul, Nat.reduceLeDiff, Nat.reduceLT, Int.reduceEq, Int.toNat_natCast, t0, t1, t4, t5]; rfl)) hF
  · rw [if_neg h] at H
    try simp only [go_sem, ↓reduceIte, Nat.reduceEqDiff, Nat.reduceAdd, Nat.reduceMul, Nat.reduceLeDiff, Nat.reduceLT, Int.reduceEq, Int.toNat_natCast, t0, t1, t4, t5]
    exact hE () (pur H).symm _ _  (by first | (simp only [go_sem, ↓reduceIte, Nat.reduceEqDiff, Nat.reduceAdd, Nat.reduceMul, Nat.reduceLeDiff, Nat.reduceLT, Int.reduceEq, Int.toNat_natCast, t0, t1, t4, t5]; done) | rfl | (simp only [go_sem, ↓reduceIte, Nat.reduceEqDiff, Nat.reduceAdd, Nat.reduceMul, Nat.reduceLeDiff, Nat.reduceLT, Int.reduceEq, Int.toNat_natCast, t0, t1, t4, t5]; rfl)) hF
theorem laws_mxHasText_ok : ∀ (a0 : List ByteArray) (a1 : ByteArray) r, laws_mxHasText a0 a1 = some r → PCtr Try.prog 10 [.sl false (rws cS a0), .str a1] (.bool r) := by
  intro a0 a1 r H
  intro σ
  unfold laws_mxHasText at H
  refine ctr_of mixed Try.func10 rfl (by kernel_rfl) (rs := [.tmp 4]) rfl (by kernel_rfl) ?_
  have hF := Fx.refl σ
  have hX := Tau.none σ
  try simp only [go_sem, ↓reduceIte, Nat.reduceEqDiff, Nat.reduceAdd, Nat.reduceMul, Nat.reduceLeDiff, Nat.reduceLT, Int.reduceEq, Int.toNat_natCast]
  obtain ⟨o1, ho1, H⟩ := bnd H
  refine laws_mxHasText_l0_ok a0 a1 0 _ ho1 _ rfl _ _  ?_ ?_ _ _  (by first | (simp only [go_sem, ↓reduceIte, Nat.reduceEqDiff, Nat.reduceAdd, Nat.reduceMul, Nat.reduceLeDiff, Nat.reduceLT, Int.reduceEq, Int.toNat_natCast]; done) | rfl | (simp only [go_sem, ↓reduceIte, Nat.reduceEqDiff, Nat.reduceAdd, Nat.reduceMul, Nat.reduceLeDiff, Nat.reduceLT, Int.reduceEq, Int.toNat_natCast]; rfl)) (by first | (simp only [go_sem, ↓reduceIte, Nat.reduceEqDiff, Nat.reduceAdd, Nat.reduceMul, Nat.reduceLeDiff, Nat.reduceLT, Int.reduceEq, Int.toNat_natCast]; done) | rfl | (simp only [go_sem, ↓reduceIte, Nat.reduceEqDiff, Nat.reduceAdd, Nat.reduceMul, Nat.reduceLeDiff, Nat.reduceLT, Int.reduceEq, Int.toNat_natCast]; rfl)) (by first | (simp only [go_sem, ↓reduceIte, Nat.reduceEqDiff, Nat.reduceAdd, Nat.reduceMul, Nat.reduceLeDiff, Nat.reduceLT, Int.reduceEq, Int.toNat_natCast]; done) | rfl | (simp only [go_sem, ↓reduceIte, Nat.reduceEqDiff, Nat.reduceAdd, Nat.reduceMul, Nat.reduceLeDiff, Nat.reduceLT, Int.reduceEq, Int.toNat_natCast]; rfl)) (by first | (simp only [go_sem, ↓reduceIte, Nat.reduceEqDiff, Nat.reduceAdd, Nat.reduceMul, Nat.reduceLeDiff, Nat.reduceLT, Int.reduceEq, Int.toNat_natCast]; done) | rfl | (simp only [go_sem, ↓reduceIte, Nat.reduceEqDiff, Nat.reduceAdd, Nat.reduceMul, Nat.reduceLeDiff, Nat.reduceLT, Int.reduceEq, Int.toNat_natCast]; rfl)) hF
  · intro _ he T3 σ4 t4 hF
    have he := he.symm
    subst he
    dsimp only at H
    try simp only [go_sem, ↓reduceIte, Nat.reduceEqDiff, Nat.reduceAdd, Nat.reduceMul, Nat.reduceLeDiff, Nat.reduceLT, Int.reduceEq, Int.toNat_natCast, t4]
    have e := pur H; subst e
    exact fx_ret (vs := [.bool false]) (by first | (simp only [go_sem, ↓reduceIte, Nat.reduceEqDiff, Nat.reduceAdd, Nat.reduceMul, Nat.reduceLeDiff, Nat.reduceLT, Int.reduceEq, Int.toNat_natCast, t4]; done) | rfl | (simp only [go_sem, ↓reduceIte, Nat.reduceEqDiff, Nat.reduceAdd, Nat.reduceMul, Nat.reduceLeDiff, Nat.reduceLT, Int.reduceEq, Int.toNat_natCast, t4]; rfl)) (hF.wk0 _)
  · intro r hr s' hs
    subst hr
    have e := pur H; subst e
    first | exact hs | (try simp only [Fm.cells_eq] at hs ⊢; exact hs)
theorem impl_FormSize_ok : ∀ (a0 : Fm) r, impl_FormSize a0 = some r → PCtr Try.prog 11 [.agg (Fm.cells a0)] (.int .i64 r) := by
  refine impl_FormSize.partial_correctness  (motive_1 := fun a0 r => PCtr Try.prog 11 [.agg (Fm.cells a0)] (.int .i64 r)) (motive_2 := fun a0 z0t_3 z0t_9 out => ∀ c, loopAt Try.f11 0 = some c → ∀ (Q : AX → AS → Prop) (τ : Sto) (b1 : Nat), (∀ (e0t_3 : Int), out = e0t_3 → ∀ (T : Nat → AV) (σ : Sto), T 2 = .int .i64 0 → T 3 = .int .i64 e0t_3 → Fx τ σ [(b1, ⟨26, 5, [.int .i64 a0.kind, .str a0.name, .int .i64 a0.num, .sl false (rws cI a0.sc), .sl false (rws Fm.cells a0.kids)]⟩)] [] → Q (.ex 0) ⟨T, σ⟩) → True → ∀ (T : Nat → AV) (σ : Sto), T 2 = .int .i64 0 → T 3 = .int .i64 z0t_3 → T 7 = .sl false (rws Fm.cells a0.kids) → T 8 = .int .i64 (a0.kids.length : Int) → T 9 = .int .i64 z0t_9 → Fx τ σ [(b1, ⟨26, 5, [.int .i64 a0.kind, .str a0.name, .int .i64 a0.num, .sl false (rws cI a0.sc), .sl false (rws Fm.cells a0.kids)]⟩)] [] → aLoop (acode Try.prog c) Q ⟨T, σ⟩) ?_ ?_
  · intro impl_FormSize_l0 L0 a0 r H
    intro σ
    refine ctr_of mixed Try.func11 rfl (by kernel_rfl) (rs := [.tmp 2]) rfl (by kernel_rfl) ?_
    have hF := Fx.refl σ
    have hX := Tau.none σ
    try simp only [go_sem, ↓reduceIte, Nat.reduceEqDiff, Nat.reduceAdd, Nat.reduceMul, Nat.reduceLeDiff, Nat.reduceLT, Int.reduceEq, Int.toNat_natCast]
    refine fx_alloc hF rfl fun b1 σ2 hF => ?_
    try simp only [go_sem, ↓reduceIte, Nat.reduceEqDiff, Nat.reduceAdd, Nat.reduceMul, Nat.reduceLeDiff, Nat.reduceLT, Int.reduceEq, Int.toNat_natCast, hF.at 0 rfl]
    obtain ⟨o6, ho6, H⟩ := bnd H
    refine L0 a0 1 0 _ ho6 _ rfl _ _ b1 ?_ ?_ _ _  (by first | (simp only [go_sem, ↓reduceIte, Nat.reduceEqDiff, Nat.reduceAdd, Nat.reduceMul, Nat.reduceLeDiff, Nat.reduceLT, Int.reduceEq, Int.toNat_natCast, hF.at 0 rfl]; done) | rfl | (simp only [go_sem, ↓reduceIte, Nat.reduceEqDiff, Nat.reduceAdd, Nat.reduceMul, Nat.reduceLeDiff, Nat.reduceLT, Int.reduceEq, Int.toNat_natCast, hF.at 0 rfl]; rfl)) (by first | (simp only [go_sem, ↓reduceIte, Nat.reduceEqDiff, Nat.reduceAdd, Nat.reduceMul, Nat.reduceLeDiff, Nat.reduceLT, Int.reduceEq, Int.toNat_natCast, hF.at 0 rfl]; done) | rfl | (simp only [go_sem, ↓reduceIte, Nat.reduceEqDiff, Nat.reduceAdd, Nat.reduceMul, Nat.reduceLeDiff, Nat.reduceLT, Int.reduceEq, Int.toNat_natCast, hF.at 0 rfl]; rfl)) (by first | (simp only [go_sem, ↓reduceIte, Nat.reduceEqDiff, Nat.reduceAdd, Nat.reduceMul, Nat.reduceLeDiff, Nat.reduceLT, Int.reduceEq, Int.toNat_natCast, hF.at 0 rfl]; done) | rfl | (simp only [go_sem, ↓reduceIte, Nat.reduceEqDiff, Nat.reduceAdd, Nat.reduceMul, Nat.reduceLeDiff, Nat.reduceLT, Int.reduceEq, Int.toNat_natCast, hF.at 0 rfl]; rfl)) (by first | (simp only [go_sem, ↓reduceIte, Nat.reduceEqDiff, Nat.reduceAdd, Nat.reduceMul, Nat.reduceLeDiff, Nat.reduceLT, Int.reduceEq, Int.toNat_natCast, hF.at 0 rfl]; done) | rfl | (simp only [go_sem, ↓reduceIte, Nat.reduceEqDiff, Nat.reduceAdd, Nat.reduceMul, Nat.reduceLeDiff, Nat.reduceLT, Int.reduceEq, Int.toNat_natCast, hF.at 0 rfl]; rfl)) (by first | (simp only [go_sem, ↓reduceIte, Nat.reduceEqDiff, Nat.reduceAdd, Nat.reduceMul, Nat.reduceLeDiff, Nat.reduceLT, Int.reduceEq, Int.toNat_natCast, hF.at 0 rfl]; done) | rfl | (simp only [go_sem, ↓reduceIte, Nat.reduceEqDiff, Nat.reduceAdd, Nat.reduceMul, Nat.reduceLeDiff, Nat.reduceLT, Int.reduceEq, Int.toNat_natCast, hF.at 0 rfl]; rfl)) hF
    · intro e7t_3 he T8 σ9 t2 t3 hF
      have he := he.symm
      subst he
      try simp only [go_sem, ↓reduceIte, Nat.reduceEqDiff, Nat.reduceAdd, Nat.reduceMul, Nat.reduceLeDiff, Nat.reduceLT, Int.reduceEq, Int.toNat_natCast, t2, t3, hF.at 0 rfl]
      have e := pur H; subst e
      exact fx_ret (vs := [.int .i64 e7t_3]) (by first | (simp only [go_sem, ↓reduceIte, Nat.reduceEqDiff, Nat.reduceAdd, Nat.reduceMul, Nat.reduceLeDiff, Nat.reduceLT, Int.reduceEq, Int.toNat_natCast, t2, t3, hF.at 0 rfl]; done) | rfl | (simp only [go_sem, ↓reduceIte, Nat.reduceEqDiff, Nat.reduceAdd, Nat.reduceMul, Nat.reduceLeDiff, Nat.reduceLT, Int.reduceEq, Int.toNat_natCast, t2, t3, hF.at 0 rfl]; rfl)) (hF.wk0 _)
    · trivial
  · intro impl_FormSize impl_FormSize_l0 C0 L0 a0 z0t_3 z0t_9 out H c hc Q τ b1 hE hR T σ t2 t3 t7 t8 t9 hF
    obtain rfl := Option.some.inj ((rfl : loopAt Try.f11 0 = some _).symm.trans hc)
    refine aLoop_round ?_
    try simp only [go_sem, ↓reduceIte, Nat.reduceEqDiff, Nat.reduceAdd, Nat.reduceMul, Nat.reduceLeDiff, Nat.reduceLT, Int.reduceEq, Int.toNat_natCast, t2, t3, t7, t8, t9, hF.at 0 rfl]
    refine aCnd_p (z0t_9 < (a0.kids.length : Int)) rfl (fun h => ?_) (fun h => ?_)
    · rw [if_pos h] at H
      obtain ⟨x11, hx11, H⟩ := bnd H
      try simp only [go_sem, ↓reduceIte, Nat.reduceEqDiff, Nat.reduceAdd, Nat.reduceMul, Nat.reduceLeDiff, Nat.reduceLT, Int.reduceEq, Int.toNat_natCast, t2, t3, t7, t8, t9, hF.at 0 rfl, aidx_idx (g := Fm.cells) Fm.cells_len hx11]
      refine fx_alloc hF rfl fun b3 σ4 hF => ?_
      try simp only [go_sem, ↓reduceIte, Nat.reduceEqDiff, Nat.reduceAdd, Nat.reduceMul, Nat.reduceLeDiff, Nat.reduceLT, Int.reduceEq, Int.toNat_natCast, t2, t3, t7, t8, t9, hF.at 0 rfl, hF.at 1 rfl]
      refine fx_store hF 0 (cells' := [.int .i64 x11.kind, .str x11.name, .int .i64 x11.num, .sl false (rws cI x11.sc), .sl false (rws Fm.cells x11.kids)]) rfl rfl rfl (by simp only [List.length_cons, List.length_nil]; decide) (by first | rfl | simp [splice_eq]) fun σ5 hF => ?_
      try simp only [go_sem, ↓reduceIte, Nat.reduceEqDiff, Nat.reduceAdd, Nat.reduceMul, Nat.reduceLeDiff, Nat.reduceLT, Int.reduceEq, Int.toNat_natCast, t2, t3, t7, t8, t9, hF.at 0 rfl, hF.at 1 rfl]
      obtain ⟨x15, hx15, H⟩ := bnd H
      refine aCall_pure (C0 x11 _ hx15) (by (try simp only [Fm.cells_eq]); exact WkVL.refl _) ?_
      try simp only [go_sem, ↓reduceIte, Nat.reduceEqDiff, Nat.reduceAdd, Nat.reduceMul, Nat.reduceLeDiff, Nat.reduceLT, Int.reduceEq, Int.toNat_natCast, t2, t3, t7, t8, t9, hF.at 0 rfl, hF.at 1 rfl]
      exact L0 a0 (IntKind.i64.wrap (z0t_3 + x15)) (IntKind.i64.wrap (z0t_9 + 1)) _ H _ rfl Q τ b1 hE hR _ _  (by first | (simp only [go_sem, ↓reduceIte, Nat.reduceEqDiff, Nat.reduceAdd, Nat.reduceMul, Nat.reduceLeDiff, Nat.reduceLT, Int.reduceEq, Int.toNat_natCast, t2, t3, t7, t8, t9, hF.at 0 rfl, hF.at 1 rfl]; done) | rfl | (simp only [go_sem, ↓reduceIte, Nat.reduceEqDiff, Nat.reduceAdd, Nat.reduceMul, Nat.reduceLeDiff, Nat.reduceLT, Int.reduceEq, Int.toNat_natCast, t2, t3, t7, t8, t9, hF.at 0 rfl, hF.at 1 rfl]; rfl)) (by first | (simp only [go_sem, ↓reduceIte, Nat.reduceEqDiff, Nat.reduceAdd, Nat.reduceMul, Nat.reduceLeDiff, Nat.reduceLT, Int.reduceEq, Int.toNat_natCast, t2, t3, t7, t8, t9, hF.at 0 rfl, hF.at 1 rfl]; done) | rfl | (simp only [go_sem, ↓reduceIte, Nat.reduceEqDiff, Nat.reduceAdd, Nat.reduceMul, Nat.reduceLeDiff, Nat.reduceLT, Int.reduceEq, Int.toNat_natCast, t2, t3, t7, t8, t9, hF.at 0 rfl, hF.at 1 rfl]; rfl)) (by first | (simp only [go_sem, ↓reduceIte, Nat.reduceEqDiff, Nat.reduceAdd, Nat.reduceMul, Nat.reduceLeDiff, Nat.reduceLT, Int.reduceEq, Int.toNat_natCast, t2, t3, t7, t8, t9, hF.at 0 rfl, hF.at 1 rfl]; done) | rfl | (simp only [go_sem, ↓reduceIte, Nat.reduceEqDiff, Nat.reduceAdd, Nat.reduceMul, Nat.reduceLeDiff, Nat.reduceLT, Int.reduceEq, Int.toNat_natCast, t2, t3, t7, t8, t9, hF.at 0 rfl, hF.at 1 rfl]; rfl)) (by first | (simp only [go_sem, ↓reduceIte, Nat.reduceEqDiff, Nat.reduceAdd, Nat.reduceMul, Nat.reduceLeDiff, Nat.reduceLT, Int.reduceEq, Int.toNat_natCast, t2, t3, t7, t8, t9, hF.at 0 rfl, hF.at 1 rfl]; done) | rfl | (simp only [go_sem, ↓reduceIte, Nat.reduceEqDiff, Nat.reduceAdd, Nat.reduceMul, Nat.reduceLeDiff, Nat.reduceLT, Int.reduceEq, Int.toNat_natCast, t2, t3, t7, t8, t9, hF.at 0 rfl, hF.at 1 rfl]; rfl)) (by first | (simp only [go_sem, ↓reduceIte, Nat.reduceEqDiff, Nat.reduceAdd, Nat.reduceMul, Nat.reduceLeDiff, Nat.reduceLT, Int.reduceEq, Int.toNat_natCast, t2, t3, t7, t8, t9, hF.at 0 rfl, hF.at 1 rfl]; done) | rfl | (simp only [go_sem, ↓reduceIte, Nat.reduceEqDiff, Nat.reduceAdd, Nat.reduceMul, Nat.reduceLeDiff, Nat.reduceLT, Int.reduceEq, Int.toNat_natCast, t2, t3, t7, t8, t9, hF.at 0 rfl, hF.at 1 rfl]; rfl)) (hF.drop 1 0)
    · rw [if_neg h] at H
      try simp only [go_sem, ↓reduceIte, Nat.reduceEqDiff, Nat.reduceAdd, Nat.reduceMul, Nat.reduceLeDiff, Nat.reduceLT, Int.reduceEq, Int.toNat_natCast, t2, t3, t7, t8, t9, hF.at 0 rfl]
      exact hE _ (pur H).symm _ _  (by first | (simp only [go_sem, ↓reduceIte, Nat.reduceEqDiff, Nat.reduceAdd, Nat.reduceMul, Nat.reduceLeDiff, Nat.reduceLT, Int.reduceEq, Int.toNat_natCast, t2, t3, t7, t8, t9, hF.at 0 rfl]; done) | rfl | (simp only [go_sem, ↓reduceIte, Nat.reduceEqDiff, Nat.reduceAdd, Nat.reduceMul, Nat.reduceLeDiff, Nat.reduceLT, Int.reduceEq, Int.toNat_natCast, t2, t3, t7, t8, t9, hF.at 0 rfl]; rfl)) (by first | (simp only [go_sem, ↓reduceIte, Nat.reduceEqDiff, Nat.reduceAdd, Nat.reduceMul, Nat.reduceLeDiff, Nat.reduceLT, Int.reduceEq, Int.toNat_natCast, t2, t3, t7, t8, t9, hF.at 0 rfl]; done) | rfl | (simp only [go_sem, ↓reduceIte, Nat.reduceEqDiff, Nat.reduceAdd, Nat.reduceMul, Nat.reduceLeDiff, Nat.reduceLT, Int.reduceEq, Int.toNat_natCast, t2, t3, t7, t8, t9, hF.at 0 rfl]; rfl)) hF
theorem laws_FnCountName_l0_ok : ∀ (x14 : Fm × ByteArray) (x19 : Int) (x26 : List ByteArray) (z0t_6 : Int) (z0t_8 : Int) out, laws_FnCountName_l0 x14 x19 x26 z0t_6 z0t_8 = some out → ∀ c, loopAt Try.f3 0 = some c → ∀ (Q : AX → AS → Prop) (τ : Sto) (b1 : Nat), (∀ (e0t_6 : Int), out = e0t_6 → ∀ (T : Nat → AV) (σ : Sto), T 2 = .bool false → T 3 = .ptr b1 0 → T 4 = .str x14.2 → T 5 = .int .i64 x19 → T 6 = .int .i64 e0t_6 → T 7 = .sl false (rws cS x26) → Fx τ σ [(b1, ⟨26, 5, [.int .i64 x14.1.kind, .str x14.1.name, .int .i64 x14.1.num, .sl false (rws cI x14.1.sc), .sl false (rws Fm.cells x14.1.kids)]⟩)] [] → Q (.ex 0) ⟨T, σ⟩) → True → ∀ (T : Nat → AV) (σ : Sto), T 2 = .bool false → T 3 = .ptr b1 0 → T 4 = .str x14.2 → T 5 = .int .i64 x19 → T 6 = .int .i64 z0t_6 → T 7 = .sl false (rws cS x26) → T 8 = .int .i64 z0t_8 → Fx τ σ [(b1, ⟨26, 5, [.int .i64 x14.1.kind, .str x14.1.name, .int .i64 x14.1.num, .sl false (rws cI x14.1.sc), .sl false (rws Fm.cells x14.1.kids)]⟩)] [] → aLoop (acode Try.prog c) Q ⟨T, σ⟩ := by
  intro x14 x19 x26 z0t_6 z0t_8
  revert z0t_6 z0t_8
  refine laws_FnCountName_l0.partial_correctness x14 x19 x26 _ ?_
  intro laws_FnCountName_l0 IH z0t_6 z0t_8 out H c hc Q τ b1 hE hR T σ t2 t3 t4 t5 t6 t7 t8 hF
  obtain rfl := Option.some.inj ((rfl : loopAt Try.f3 0 = some _).symm.trans hc)
  refine aLoop_round ?_
  try simp only [go_sem, ↓reduceIte, Nat.reduceEqDiff, Nat.reduceAdd, Nat.reduceMul, Nat.reduceLeDiff, Nat.reduceLT, Int.reduceEq, Int.toNat_natCast, t2, t3, t4, t5, t6, t7, t8, hF.at 0 rfl]
  refine aCnd_p (z0t_8 < (x26.length : Int)) rfl (fun h => ?_) (fun h => ?_)
  · rw [if_pos h] at H
    try simp only [go_sem, ↓reduceIte, Nat.reduceEqDiff, Nat.reduceAdd, Nat.reduceMul, Nat.reduceLeDiff, Nat.reduceLT, Int.reduceEq, Int.toNat_natCast, t2, t3, t4, t5, t6, t7, t8, hF.at 0 rfl]
    refine draw_text E0 [.v, .v, .v, .v, .v, .v, .v, .v, .v] (by kernel_rfl) ?_
    obtain ⟨x37, hx37, H⟩ := bnd H
    try simp only [go_sem, ↓reduceIte, Nat.reduceEqDiff, Nat.reduceAdd, Nat.reduceMul, Nat.reduceLeDiff, Nat.reduceLT, Int.reduceEq, Int.toNat_natCast, t2, t3, t4, t5, t6, t7, t8, hF.at 0 rfl, aidx_idx (g := cS) (fun _ => rfl) hx37]
    obtain ⟨x39, hx39, H⟩ := bnd H
    refine vCall_pure (impl_CountName_ok x14.1 x37 _ hx39) (by (try simp only [Fm.cells_eq]); exact WkVL.refl _) ?_
    try simp only [go_sem, ↓reduceIte, Nat.reduceEqDiff, Nat.reduceAdd, Nat.reduceMul, Nat.reduceLeDiff, Nat.reduceLT, Int.reduceEq, Int.toNat_natCast, t2, t3, t4, t5, t6, t7, t8, hF.at 0 rfl]
    exact IH  (IntKind.i64.wrap (z0t_6 + x39)) (IntKind.i64.wrap (z0t_8 + 1)) _ H _ rfl Q τ b1 hE hR _ _  (by first | (simp only [go_sem, ↓reduceIte, Nat.reduceEqDiff, Nat.reduceAdd, Nat.reduceMul, Nat.reduceLeDiff, Nat.reduceLT, Int.reduceEq, Int.toNat_natCast, t2, t3, t4, t5, t6, t7, t8, hF.at 0 rfl]; done) | rfl | (simp only [go_sem, ↓reduceIte, Nat.reduceEqDiff, Nat.reduceAdd, Nat.reduceMul, Nat.reduceLeDiff, Nat.reduceLT, Int.reduceEq, Int.toNat_natCast, t2, t3, t4, t5, t6, t7, t8, hF.at 0 rfl]; rfl)) (by first | (simp only [go_sem, ↓reduceIte, Nat.reduceEqDiff, Nat.reduceAdd, Nat.reduceMul, Nat.reduceLeDiff, Nat.reduceLT, Int.reduceEq, Int.toNat_natCast, t2, t3, t4, t5, t6, t7, t8, hF.at 0 rfl]; done) | rfl | (simp only [go_sem, ↓reduceIte, Nat.reduceEqDiff, Nat.reduceAdd, Nat.reduceMul, Nat.reduceLeDiff, Nat.reduceLT, Int.reduceEq, Int.toNat_natCast, t2, t3, t4, t5, t6, t7, t8, hF.at 0 rfl]; rfl)) (by first | (simp only [go_sem, ↓reduceIte, Nat.reduceEqDiff, Nat.reduceAdd, Nat.reduceMul, Nat.reduceLeDiff, Nat.reduceLT, Int.reduceEq, Int.toNat_natCast, t2, t3, t4, t5, t6, t7, t8, hF.at 0 rfl]; done) | rfl | (simp only [go_sem, ↓reduceIte, Nat.reduceEqDiff, Nat.reduceAdd, Nat.reduceMul, Nat.reduceLeDiff, Nat.reduceLT, Int.reduceEq, Int.toNat_natCast, t2, t3, t4, t5, t6, t7, t8, hF.at 0 rfl]; rfl)) (by first | (simp only [go_sem, ↓reduceIte, Nat.reduceEqDiff, Nat.reduceAdd, Nat.reduceMul, Nat.reduceLeDiff, Nat.reduceLT, Int.reduceEq, Int.toNat_natCast, t2, t3, t4, t5, t6, t7, t8, hF.at 0 rfl]; done) | rfl | (simp only [go_sem, ↓reduceIte, Nat.reduceEqDiff, Nat.reduceAdd, Nat.reduceMul, Nat.reduceLeDiff, Nat.reduceLT, Int.reduceEq, Int.toNat_natCast, t2, t3, t4, t5, t6, t7, t8, hF.at 0 rfl]; rfl)) (by first | (simp only [go_sem, ↓reduceIte, Nat.reduceEqDiff, Nat.reduceAdd, Nat.reduceMul, Nat.reduceLeDiff, Nat.reduceLT, Int.reduceEq, Int.toNat_natCast, t2, t3, t4, t5, t6, t7, t8, hF.at 0 rfl]; done) | rfl | (simp only [go_sem, ↓reduceIte, Nat.reduceEqDiff, Nat.reduceAdd, Nat.reduceMul, Nat.reduceLeDiff, Nat.reduceLT, Int.reduceEq, Int.toNat_natCast, t2, t3, t4, t5, t6, t7, t8, hF.at 0 rfl]; rfl)) (by first | (simp only [go_sem, ↓reduceIte, Nat.reduceEqDiff, Nat.reduceAdd, Nat.reduceMul, Nat.reduceLeDiff, Nat.reduceLT, Int.reduceEq, Int.toNat_natCast, t2, t3, t4, t5, t6, t7, t8, hF.at 0 rfl]; done) | rfl | (simp only [go_sem, ↓reduceIte, Nat.reduceEqDiff, Nat.reduceAdd, Nat.reduceMul, Nat.reduceLeDiff, Nat.reduceLT, Int.reduceEq, Int.toNat_natCast, t2, t3, t4, t5, t6, t7, t8, hF.at 0 rfl]; rfl)) (by first | (simp only [go_sem, ↓reduceIte, Nat.reduceEqDiff, Nat.reduceAdd, Nat.reduceMul, Nat.reduceLeDiff, Nat.reduceLT, Int.reduceEq, Int.toNat_natCast, t2, t3, t4, t5, t6, t7, t8, hF.at 0 rfl]; done) | rfl | (simp only [go_sem, ↓reduceIte, Nat.reduceEqDiff, Nat.reduceAdd, Nat.reduceMul, Nat.reduceLeDiff, Nat.reduceLT, Int.reduceEq, Int.toNat_natCast, t2, t3, t4, t5, t6, t7, t8, hF.at 0 rfl]; rfl)) hF
  · rw [if_neg h] at H
    try simp only [go_sem, ↓reduceIte, Nat.reduceEqDiff, Nat.reduceAdd, Nat.reduceMul, Nat.reduceLeDiff, Nat.reduceLT, Int.reduceEq, Int.toNat_natCast, t2, t3, t4, t5, t6, t7, t8, hF.at 0 rfl]
    exact hE _ (pur H).symm _ _  (by first | (simp only [go_sem, ↓reduceIte, Nat.reduceEqDiff, Nat.reduceAdd, Nat.reduceMul, Nat.reduceLeDiff, Nat.reduceLT, Int.reduceEq, Int.toNat_natCast, t2, t3, t4, t5, t6, t7, t8, hF.at 0 rfl]; done) | rfl | (simp only [go_sem, ↓reduceIte, Nat.reduceEqDiff, Nat.reduceAdd, Nat.reduceMul, Nat.reduceLeDiff, Nat.reduceLT, Int.reduceEq, Int.toNat_natCast, t2, t3, t4, t5, t6, t7, t8, hF.at 0 rfl]; rfl)) (by first | (simp only [go_sem, ↓reduceIte, Nat.reduceEqDiff, Nat.reduceAdd, Nat.reduceMul, Nat.reduceLeDiff, Nat.reduceLT, Int.reduceEq, Int.toNat_natCast, t2, t3, t4, t5, t6, t7, t8, hF.at 0 rfl]; done) | rfl | (simp only [go_sem, ↓reduceIte, Nat.reduceEqDiff, Nat.reduceAdd, Nat.reduceMul, Nat.reduceLeDiff, Nat.reduceLT, Int.reduceEq, Int.toNat_natCast, t2, t3, t4, t5, t6, t7, t8, hF.at 0 rfl]; rfl)) (by first | (simp only [go_sem, ↓reduceIte, Nat.reduceEqDiff, Nat.reduceAdd, Nat.reduceMul, Nat.reduceLeDiff, Nat.reduceLT, Int.reduceEq, Int.toNat_natCast, t2, t3, t4, t5, t6, t7, t8, hF.at 0 rfl]; done) | rfl | (simp only [go_sem, ↓reduceIte, Nat.reduceEqDiff, Nat.reduceAdd, Nat.reduceMul, Nat.reduceLeDiff, Nat.reduceLT, Int.reduceEq, Int.toNat_natCast, t2, t3, t4, t5, t6, t7, t8, hF.at 0 rfl]; rfl)) (by first | (simp only [go_sem, ↓reduceIte, Nat.reduceEqDiff, Nat.reduceAdd, Nat.reduceMul, Nat.reduceLeDiff, Nat.reduceLT, Int.reduceEq, Int.toNat_natCast, t2, t3, t4, t5, t6, t7, t8, hF.at 0 rfl]; done) | rfl | (simp only [go_sem, ↓reduceIte, Nat.reduceEqDiff, Nat.reduceAdd, Nat.reduceMul, Nat.reduceLeDiff, Nat.reduceLT, Int.reduceEq, Int.toNat_natCast, t2, t3, t4, t5, t6, t7, t8, hF.at 0 rfl]; rfl)) (by first | (simp only [go_sem, ↓reduceIte, Nat.reduceEqDiff, Nat.reduceAdd, Nat.reduceMul, Nat.reduceLeDiff, Nat.reduceLT, Int.reduceEq, Int.toNat_natCast, t2, t3, t4, t5, t6, t7, t8, hF.at 0 rfl]; done) | rfl | (simp only [go_sem, ↓reduceIte, Nat.reduceEqDiff, Nat.reduceAdd, Nat.reduceMul, Nat.reduceLeDiff, Nat.reduceLT, Int.reduceEq, Int.toNat_natCast, t2, t3, t4, t5, t6, t7, t8, hF.at 0 rfl]; rfl)) (by first | (simp only [go_sem, ↓reduceIte, Nat.reduceEqDiff, Nat.reduceAdd, Nat.reduceMul, Nat.reduceLeDiff, Nat.reduceLT, Int.reduceEq, Int.toNat_natCast, t2, t3, t4, t5, t6, t7, t8, hF.at 0 rfl]; done) | rfl | (simp only [go_sem, ↓reduceIte, Nat.reduceEqDiff, Nat.reduceAdd, Nat.reduceMul, Nat.reduceLeDiff, Nat.reduceLT, Int.reduceEq, Int.toNat_natCast, t2, t3, t4, t5, t6, t7, t8, hF.at 0 rfl]; rfl)) hF
theorem laws_FnCountName_ok : ∀ (a0 : List Int) r, laws_FnCountName a0 = some r → PCtr Try.prog 3 [.sl false (rws cU a0)] (.bool r) := by
  intro a0 r H
  intro σ
  unfold laws_FnCountName at H
  refine ctr_of mixed Try.func3 rfl (by kernel_rfl) (rs := [.tmp 2]) rfl (by kernel_rfl) ?_
  have hF := Fx.refl σ
  have hX := Tau.none σ
  try simp only [go_sem, ↓reduceIte, Nat.reduceEqDiff, Nat.reduceAdd, Nat.reduceMul, Nat.reduceLeDiff, Nat.reduceLT, Int.reduceEq, Int.toNat_natCast]
  refine aCnd_p ((a0.length : Int) > 1048576) rfl (fun h => ?_) (fun h => ?_)
  · rw [if_pos h] at H
    try simp only [go_sem, ↓reduceIte, Nat.reduceEqDiff, Nat.reduceAdd, Nat.reduceMul, Nat.reduceLeDiff, Nat.reduceLT, Int.reduceEq, Int.toNat_natCast]
    have e := pur H; subst e
    exact fx_ret (vs := [.bool true]) (by first | (simp only [go_sem, ↓reduceIte, Nat.reduceEqDiff, Nat.reduceAdd, Nat.reduceMul, Nat.reduceLeDiff, Nat.reduceLT, Int.reduceEq, Int.toNat_natCast]; done) | rfl | (simp only [go_sem, ↓reduceIte, Nat.reduceEqDiff, Nat.reduceAdd, Nat.reduceMul, Nat.reduceLeDiff, Nat.reduceLT, Int.reduceEq, Int.toNat_natCast]; rfl)) (hF.wk0 _)
  · rw [if_neg h] at H
    try simp only [go_sem, ↓reduceIte, Nat.reduceEqDiff, Nat.reduceAdd, Nat.reduceMul, Nat.reduceLeDiff, Nat.reduceLT, Int.reduceEq, Int.toNat_natCast]
    obtain ⟨x14, hx14, H⟩ := bnd H
    refine aCall_pure (spec_DrawCountName_ok a0 _ hx14) (WkVL.refl _) ?_
    try simp only [go_sem, ↓reduceIte, Nat.reduceEqDiff, Nat.reduceAdd, Nat.reduceMul, Nat.reduceLeDiff, Nat.reduceLT, Int.reduceEq, Int.toNat_natCast]
    refine fx_alloc hF rfl fun b1 σ2 hF => ?_
    try simp only [go_sem, ↓reduceIte, Nat.reduceEqDiff, Nat.reduceAdd, Nat.reduceMul, Nat.reduceLeDiff, Nat.reduceLT, Int.reduceEq, Int.toNat_natCast, hF.at 0 rfl]
    refine fx_store hF 0 (cells' := [.int .i64 x14.1.kind, .str x14.1.name, .int .i64 x14.1.num, .sl false (rws cI x14.1.sc), .sl false (rws Fm.cells x14.1.kids)]) rfl rfl rfl (by simp only [List.length_cons, List.length_nil]; decide) (by first | rfl | simp [splice_eq]) fun σ3 hF => ?_
    try simp only [go_sem, ↓reduceIte, Nat.reduceEqDiff, Nat.reduceAdd, Nat.reduceMul, Nat.reduceLeDiff, Nat.reduceLT, Int.reduceEq, Int.toNat_natCast, hF.at 0 rfl]
    obtain ⟨x19, hx19, H⟩ := bnd H
    refine aCall_pure (impl_CountName_ok x14.1 x14.2 _ hx19) (by (try simp only [Fm.cells_eq]); exact WkVL.refl _) ?_
    try simp only [go_sem, ↓reduceIte, Nat.reduceEqDiff, Nat.reduceAdd, Nat.reduceMul, Nat.reduceLeDiff, Nat.reduceLT, Int.reduceEq, Int.toNat_natCast, hF.at 0 rfl]
    obtain ⟨x23, hx23, H⟩ := bnd H
    refine aCall_pure (spec_CountName_ok x14.1 x14.2 _ hx23) (by (try simp only [Fm.cells_eq]); exact WkVL.refl _) ?_
    try simp only [go_sem, ↓reduceIte, Nat.reduceEqDiff, Nat.reduceAdd, Nat.reduceMul, Nat.reduceLeDiff, Nat.reduceLT, Int.reduceEq, Int.toNat_natCast, hF.at 0 rfl]
    refine aCnd_n (x19 = x23) rfl (fun h => ?_) (fun h => ?_)
    · rw [if_neg h] at H
      try simp only [go_sem, ↓reduceIte, Nat.reduceEqDiff, Nat.reduceAdd, Nat.reduceMul, Nat.reduceLeDiff, Nat.reduceLT, Int.reduceEq, Int.toNat_natCast, hF.at 0 rfl]
      have e := pur H; subst e
      exact fx_ret (vs := [.bool false]) (by first | (simp only [go_sem, ↓reduceIte, Nat.reduceEqDiff, Nat.reduceAdd, Nat.reduceMul, Nat.reduceLeDiff, Nat.reduceLT, Int.reduceEq, Int.toNat_natCast, hF.at 0 rfl]; done) | rfl | (simp only [go_sem, ↓reduceIte, Nat.reduceEqDiff, Nat.reduceAdd, Nat.reduceMul, Nat.reduceLeDiff, Nat.reduceLT, Int.reduceEq, Int.toNat_natCast, hF.at 0 rfl]; rfl)) (hF.wk0 _)
    · rw [if_pos h] at H
      try simp only [go_sem, ↓reduceIte, Nat.reduceEqDiff, Nat.reduceAdd, Nat.reduceMul, Nat.reduceLeDiff, Nat.reduceLT, Int.reduceEq, Int.toNat_natCast, hF.at 0 rfl]
      obtain ⟨x26, hx26, H⟩ := bnd H
      refine aCall_pure (impl_NamesOf_ok x14.1 _ hx26) (by (try simp only [Fm.cells_eq]); exact WkVL.refl _) ?_
      try simp only [go_sem, ↓reduceIte, Nat.reduceEqDiff, Nat.reduceAdd, Nat.reduceMul, Nat.reduceLeDiff, Nat.reduceLT, Int.reduceEq, Int.toNat_natCast, hF.at 0 rfl]
      obtain ⟨o4, ho4, H⟩ := bnd H
      refine laws_FnCountName_l0_ok x14 x19 x26 0 0 _ ho4 _ rfl _ _ b1 ?_ ?_ _ _  (by first | (simp only [go_sem, ↓reduceIte, Nat.reduceEqDiff, Nat.reduceAdd, Nat.reduceMul, Nat.reduceLeDiff, Nat.reduceLT, Int.reduceEq, Int.toNat_natCast, hF.at 0 rfl]; done) | rfl | (simp only [go_sem, ↓reduceIte, Nat.reduceEqDiff, Nat.reduceAdd, Nat.reduceMul, Nat.reduceLeDiff, Nat.reduceLT, Int.reduceEq, Int.toNat_natCast, hF.at 0 rfl]; rfl)) (by first | (simp only [go_sem, ↓reduceIte, Nat.reduceEqDiff, Nat.reduceAdd, Nat.reduceMul, Nat.reduceLeDiff, Nat.reduceLT, Int.reduceEq, Int.toNat_natCast, hF.at 0 rfl]; done) | rfl | (simp only [go_sem, ↓reduceIte, Nat.reduceEqDiff, Nat.reduceAdd, Nat.reduceMul, Nat.reduceLeDiff, Nat.reduceLT, Int.reduceEq, Int.toNat_natCast, hF.at 0 rfl]; rfl)) (by first | (simp only [go_sem, ↓reduceIte, Nat.reduceEqDiff, Nat.reduceAdd, Nat.reduceMul, Nat.reduceLeDiff, Nat.reduceLT, Int.reduceEq, Int.toNat_natCast, hF.at 0 rfl]; done) | rfl | (simp only [go_sem, ↓reduceIte, Nat.reduceEqDiff, Nat.reduceAdd, Nat.reduceMul, Nat.reduceLeDiff, Nat.reduceLT, Int.reduceEq, Int.toNat_natCast, hF.at 0 rfl]; rfl)) (by first | (simp only [go_sem, ↓reduceIte, Nat.reduceEqDiff, Nat.reduceAdd, Nat.reduceMul, Nat.reduceLeDiff, Nat.reduceLT, Int.reduceEq, Int.toNat_natCast, hF.at 0 rfl]; done) | rfl | (simp only [go_sem, ↓reduceIte, Nat.reduceEqDiff, Nat.reduceAdd, Nat.reduceMul, Nat.reduceLeDiff, Nat.reduceLT, Int.reduceEq, Int.toNat_natCast, hF.at 0 rfl]; rfl)) (by first | (simp only [go_sem, ↓reduceIte, Nat.reduceEqDiff, Nat.reduceAdd, Nat.reduceMul, Nat.reduceLeDiff, Nat.reduceLT, Int.reduceEq, Int.toNat_natCast, hF.at 0 rfl]; done) | rfl | (simp only [go_sem, ↓reduceIte, Nat.reduceEqDiff, Nat.reduceAdd, Nat.reduceMul, Nat.reduceLeDiff, Nat.reduceLT, Int.reduceEq, Int.toNat_natCast, hF.at 0 rfl]; rfl)) (by first | (simp only [go_sem, ↓reduceIte, Nat.reduceEqDiff, Nat.reduceAdd, Nat.reduceMul, Nat.reduceLeDiff, Nat.reduceLT, Int.reduceEq, Int.toNat_natCast, hF.at 0 rfl]; done) | rfl | (simp only [go_sem, ↓reduceIte, Nat.reduceEqDiff, Nat.reduceAdd, Nat.reduceMul, Nat.reduceLeDiff, Nat.reduceLT, Int.reduceEq, Int.toNat_natCast, hF.at 0 rfl]; rfl)) (by first | (simp only [go_sem, ↓reduceIte, Nat.reduceEqDiff, Nat.reduceAdd, Nat.reduceMul, Nat.reduceLeDiff, Nat.reduceLT, Int.reduceEq, Int.toNat_natCast, hF.at 0 rfl]; done) | rfl | (simp only [go_sem, ↓reduceIte, Nat.reduceEqDiff, Nat.reduceAdd, Nat.reduceMul, Nat.reduceLeDiff, Nat.reduceLT, Int.reduceEq, Int.toNat_natCast, hF.at 0 rfl]; rfl)) hF
      · intro e5t_6 he T6 σ7 t2 t3 t4 t5 t6 t7 hF
        have he := he.symm
        subst he
        try simp only [go_sem, ↓reduceIte, Nat.reduceEqDiff, Nat.reduceAdd, Nat.reduceMul, Nat.reduceLeDiff, Nat.reduceLT, Int.reduceEq, Int.toNat_natCast, t2, t3, t4, t5, t6, t7, hF.at 0 rfl]
        obtain ⟨x45, hx45, H⟩ := bnd H
        refine aCall_pure (laws_mxHasText_ok x26 x14.2 _ hx45) (WkVL.refl _) ?_
        try simp only [go_sem, ↓reduceIte, Nat.reduceEqDiff, Nat.reduceAdd, Nat.reduceMul, Nat.reduceLeDiff, Nat.reduceLT, Int.reduceEq, Int.toNat_natCast, t2, t3, t4, t5, t6, t7, hF.at 0 rfl]
        obtain ⟨x51, g9, H⟩ := bnd H
        refine aGd_cutN 3 48 51 (.bool x51) (aGd_intro (fun q10 => ?_) (fun q10 => ?_)) (fun J => ?_)
        · try simp only [go_sem, ↓reduceIte, Nat.reduceEqDiff, Nat.reduceAdd, Nat.reduceMul, Nat.reduceLeDiff, Nat.reduceLT, Int.reduceEq, Int.toNat_natCast, t2, t3, t4, t5, t6, t7, q10, hF.at 0 rfl]
          refine cut_done 48 (by have e := pur g9; subst e; (first | rfl | (simp only [go_sem, ↓reduceIte, Nat.reduceEqDiff, Nat.reduceAdd, Nat.reduceMul, Nat.reduceLeDiff, Nat.reduceLT, Int.reduceEq, Int.toNat_natCast, q10]; done) | (simp only [go_sem, ↓reduceIte, Nat.reduceEqDiff, Nat.reduceAdd, Nat.reduceMul, Nat.reduceLeDiff, Nat.reduceLT, Int.reduceEq, Int.toNat_natCast, q10]; simp_all [upd_app]) | simp_all [upd_app])) ?_
          (repeat (first | refine agree_upd (by decide) ?_ | refine agree_low (by decide) ?_)) <;> (repeat (first | refine agree_updR (by decide) ?_ | refine agree_lowR (by decide) ?_)) <;> exact fun _ _ _ => rfl
        · try simp only [go_sem, ↓reduceIte, Nat.reduceEqDiff, Nat.reduceAdd, Nat.reduceMul, Nat.reduceLeDiff, Nat.reduceLT, Int.reduceEq, Int.toNat_natCast, t2, t3, t4, t5, t6, t7, q10, hF.at 0 rfl]
          refine cut_done 48 (by have e := pur g9; subst e; (first | rfl | (simp only [go_sem, ↓reduceIte, Nat.reduceEqDiff, Nat.reduceAdd, Nat.reduceMul, Nat.reduceLeDiff, Nat.reduceLT, Int.reduceEq, Int.toNat_natCast, q10]; done) | (simp only [go_sem, ↓reduceIte, Nat.reduceEqDiff, Nat.reduceAdd, Nat.reduceMul, Nat.reduceLeDiff, Nat.reduceLT, Int.reduceEq, Int.toNat_natCast, q10]; simp_all [upd_app]) | simp_all [upd_app])) ?_
          (repeat (first | refine agree_upd (by decide) ?_ | refine agree_low (by decide) ?_)) <;> (repeat (first | refine agree_updR (by decide) ?_ | refine agree_lowR (by decide) ?_)) <;> exact fun _ _ _ => rfl
        try simp only [go_sem, ↓reduceIte, Nat.reduceEqDiff, Nat.reduceAdd, Nat.reduceMul, Nat.reduceLeDiff, Nat.reduceLT, Int.reduceEq, Int.toNat_natCast, t2, t3, t4, t5, t6, t7, hF.at 0 rfl]
        obtain ⟨x57, g11, H⟩ := bnd H
        refine aGd_cutN 4 53 57 (.bool x57) (aGd_intro (fun q12 => ?_) (fun q12 => ?_)) (fun J => ?_)
        · rw [if_pos (q12)] at g11
          try simp only [go_sem, ↓reduceIte, Nat.reduceEqDiff, Nat.reduceAdd, Nat.reduceMul, Nat.reduceLeDiff, Nat.reduceLT, Int.reduceEq, Int.toNat_natCast, t2, t3, t4, t5, t6, t7, q12, hF.at 0 rfl]
          obtain ⟨x55, hx55, g11⟩ := bnd g11
          refine aCall_pure (impl_FormSize_ok x14.1 _ hx55) (by (try simp only [Fm.cells_eq]); exact WkVL.refl _) ?_
          try simp only [go_sem, ↓reduceIte, Nat.reduceEqDiff, Nat.reduceAdd, Nat.reduceMul, Nat.reduceLeDiff, Nat.reduceLT, Int.reduceEq, Int.toNat_natCast, t2, t3, t4, t5, t6, t7, q12, hF.at 0 rfl]
          refine cut_done 53 (by have e := pur g11; subst e; (first | rfl | (simp only [go_sem, ↓reduceIte, Nat.reduceEqDiff, Nat.reduceAdd, Nat.reduceMul, Nat.reduceLeDiff, Nat.reduceLT, Int.reduceEq, Int.toNat_natCast, q12]; done) | (simp only [go_sem, ↓reduceIte, Nat.reduceEqDiff, Nat.reduceAdd, Nat.reduceMul, Nat.reduceLeDiff, Nat.reduceLT, Int.reduceEq, Int.toNat_natCast, q12]; simp_all [upd_app]) | simp_all [upd_app])) ?_
          (repeat (first | refine agree_upd (by decide) ?_ | refine agree_low (by decide) ?_)) <;> (repeat (first | refine agree_updR (by decide) ?_ | refine agree_lowR (by decide) ?_)) <;> exact fun _ _ _ => rfl
        · rw [if_neg (b_f q12)] at g11
          try simp only [go_sem, ↓reduceIte, Nat.reduceEqDiff, Nat.reduceAdd, Nat.reduceMul, Nat.reduceLeDiff, Nat.reduceLT, Int.reduceEq, Int.toNat_natCast, t2, t3, t4, t5, t6, t7, q12, hF.at 0 rfl]
          refine cut_done 53 (by have e := pur g11; subst e; (first | rfl | (simp only [go_sem, ↓reduceIte, Nat.reduceEqDiff, Nat.reduceAdd, Nat.reduceMul, Nat.reduceLeDiff, Nat.reduceLT, Int.reduceEq, Int.toNat_natCast, q12]; done) | (simp only [go_sem, ↓reduceIte, Nat.reduceEqDiff, Nat.reduceAdd, Nat.reduceMul, Nat.reduceLeDiff, Nat.reduceLT, Int.reduceEq, Int.toNat_natCast, q12]; simp_all [upd_app]) | simp_all [upd_app])) ?_
          (repeat (first | refine agree_upd (by decide) ?_ | refine agree_low (by decide) ?_)) <;> (repeat (first | refine agree_updR (by decide) ?_ | refine agree_lowR (by decide) ?_)) <;> exact fun _ _ _ => rfl
        try simp only [go_sem, ↓reduceIte, Nat.reduceEqDiff, Nat.reduceAdd, Nat.reduceMul, Nat.reduceLeDiff, Nat.reduceLT, Int.reduceEq, Int.toNat_natCast, t2, t3, t4, t5, t6, t7, hF.at 0 rfl]
        have e := pur H; subst e
        exact fx_ret (vs := [.bool x57]) (by first | (simp only [go_sem, ↓reduceIte, Nat.reduceEqDiff, Nat.reduceAdd, Nat.reduceMul, Nat.reduceLeDiff, Nat.reduceLT, Int.reduceEq, Int.toNat_natCast, t2, t3, t4, t5, t6, t7, hF.at 0 rfl]; done) | rfl | (simp only [go_sem, ↓reduceIte, Nat.reduceEqDiff, Nat.reduceAdd, Nat.reduceMul, Nat.reduceLeDiff, Nat.reduceLT, Int.reduceEq, Int.toNat_natCast, t2, t3, t4, t5, t6, t7, hF.at 0 rfl]; rfl)) (hF.wk0 _)
      · trivial
end Go.Proofs.SA
