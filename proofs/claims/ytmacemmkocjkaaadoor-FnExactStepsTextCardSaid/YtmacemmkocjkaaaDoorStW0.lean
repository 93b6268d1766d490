/- Printed by a program of mine: the plain functions that the code computes (D), and the walks that show it (W). -/
import Derived.Test.YtmacemmkocjkaaaDoorGz
import Derived.Test.YtmacemmkocjkaaaDoorSaTy
import Derived.Test.YtmacemmkocjkaaaDoorChecked
import Derived.Lib.Strings
import Derived.Lib.Slices
import Derived.Lib.Walk
import Derived.Lib.Bytealg
import Derived.Test.YtmacemmkocjkaaaDoorGv
import Derived.Test.YtmacemmkocjkaaaDoorSf
import Derived.Test.YtmacemmkocjkaaaDoorGv
import Derived.Test.YtmacemmkocjkaaaDoorSf
import Derived.Test.YtmacemmkocjkaaaDoorStD
set_option maxRecDepth 100000
set_option linter.unusedSimpArgs false
set_option linter.unusedVariables false
open Go Go.Proofs Go.Proofs.Shadow
namespace Go.Proofs.SA
theorem laws_szIntS_ok : ∀ (a0 : List Int) (a1 : Int) r, laws_szIntS a0 a1 = some r → PCtr Tryd.prog 30 [.sl false (rws cI a0), .int .i64 a1] (.int .i64 r) := by
  intro a0 a1 r H
  intro σ
  unfold laws_szIntS at H
  refine ctr_of mixed Tryd.func30 rfl (by kernel_rfl) (rs := [.tmp 4]) rfl (by kernel_rfl) ?_
  have hF := Fx.refl σ
  have hX := Tau.none σ
  have q := dum
  have tT := dum
  refine go ?_
  refine cdp H (fun h H => ?_) (fun h H => ?_)
  · refine go ?_
    have e := pur H; subst e
    exact rt [.int .i64 (-1)]
  · refine go ?_
    have e := pur H; subst e
    exact rt [.int .i64 (IntKind.i64.wrap (a1 - (a0.length : Int)))]
theorem laws_szForm_all : (∀ (a0 : Fm) (a1 : Int) r, laws_szForm a0 a1 = some r → PCtr Tryd.prog 8 [.agg (Fm.cells a0), .int .i64 a1] (.int .i64 r)) ∧ (∀ (a0 : List Fm) (a1 : Int) r, laws_szFormS a0 a1 = some r → PCtr Tryd.prog 31 [.sl false (rws Fm.cells a0), .int .i64 a1] (.int .i64 r)) := by
  have h := laws_szForm.mutual_partial_correctness (motive_1 := fun a0 a1 r => PCtr Tryd.prog 8 [.agg (Fm.cells a0), .int .i64 a1] (.int .i64 r)) (motive_2 := fun a0 a1 r => PCtr Tryd.prog 31 [.sl false (rws Fm.cells a0), .int .i64 a1] (.int .i64 r)) (motive_3 := fun a0 z0t_1 z0t_5 out => ∀ c, loopAt Tryd.f31 0 = some c → ∀ (Q : AX → AS → Prop) (τ : Sto), (∀ (e0t_1 : Int), out = Sum.inr e0t_1 → ∀ (T : Nat → AV) (σ : Sto), T 1 = .int .i64 e0t_1 ∧ T 4 = .int .i64 0 → Fx τ σ [] [] → Q (.ex 0) ⟨T, σ⟩) → (∀ r, out = Sum.inl r → ∀ s', aRet Tryd.prog [.tmp 4] (fun r' σ' => r' = .int .i64 r ∧ σ' = τ) s' → Q .ret s') → ∀ (T : Nat → AV) (σ : Sto), T 0 = .sl false (rws Fm.cells a0) ∧ T 1 = .int .i64 z0t_1 ∧ T 4 = .int .i64 0 ∧ T 5 = .int .i64 z0t_5 → Fx τ σ [] [] → aLoop (acode Tryd.prog c) Q ⟨T, σ⟩) ?s0 ?s1 ?s2
  · exact ⟨h.1, h.2.1⟩
  · intro laws_szFormS C1 a0 a1 r H
    intro σ
    refine ctr_of mixed Tryd.func8 rfl (by kernel_rfl) (rs := [.tmp 4]) rfl (by kernel_rfl) ?_
    have hF := Fx.refl σ
    have hX := Tau.none σ
    have q := dum
    have tT := dum
    refine go ?_
    refine fx_alloc hF rfl fun b1 σ2 hF => ?_
    refine go ?_
    refine cdp H (fun h H => ?_) (fun h H => ?_)
    · refine go ?_
      have e := pur H; subst e
      exact rt [.int .i64 (-1)]
    · refine go ?_
      obtain ⟨x15, hx15, H⟩ := bnd H
      refine cl (laws_szIntS_ok a0.sc (IntKind.i64.wrap (a1 - (a0.name.size : Int))) _ hx15) ?_
      refine go ?_
      refine cdp H (fun h H => ?_) (fun h H => ?_)
      · refine go ?_
        have e := pur H; subst e
        exact rt [.int .i64 (-1)]
      · refine go ?_
        obtain ⟨x21, hx21, H⟩ := bnd H
        refine cl (C1 a0.kids x15 _ hx21) ?_
        refine go ?_
        refine cdp H (fun h H => ?_) (fun h H => ?_)
        · refine go ?_
          have e := pur H; subst e
          exact rt [.int .i64 (-1)]
        · refine go ?_
          have e := pur H; subst e
          exact rt [.int .i64 x21]
  · intro laws_szFormS_l0 L0 a0 a1 r H
    intro σ
    refine ctr_of mixed Tryd.func31 rfl (by kernel_rfl) (rs := [.tmp 4]) rfl (by kernel_rfl) ?_
    have hF := Fx.refl σ
    have hX := Tau.none σ
    have q := dum
    have tT := dum
    refine go ?_
    refine cdp H (fun h H => ?_) (fun h H => ?_)
    · refine go ?_
      have e := pur H; subst e
      exact rt [.int .i64 (-1)]
    · refine go ?_
      obtain ⟨o1, ho1, H⟩ := bnd H
      refine L0 a0 (IntKind.i64.wrap (a1 - (a0.length : Int))) 0 _ ho1 _ rfl _ _  ?_ ?_ _ _  S hF
      · intro e2t_1 he T3 σ4 tT hF
        have he := he.symm
        subst he
        dsimp only at H
        refine go ?_
        have e := pur H; subst e
        exact rt [.int .i64 e2t_1]
      · intro r hr s' hs
        subst hr
        have e := pur H; subst e
        first | exact hs | (try simp only [Fm.cells_eq] at hs ⊢; exact hs)
  · intro laws_szForm laws_szFormS_l0 C0 L0 a0 z0t_1 z0t_5 out H c hc Q τ  hE hR T σ tT hF
    obtain rfl := Option.some.inj ((rfl : loopAt Tryd.f31 0 = some _).symm.trans hc)
    refine aLoop_round ?_
    have q := dum
    have hX := Tau.none τ
    refine go ?_
    refine cdp H (fun h H => ?_) (fun h H => ?_)
    · obtain ⟨x20, f1, H⟩ := bil (g := Fm.cells) Fm.cells_len H
      refine go1 ?_
      obtain ⟨x23, hx23, H⟩ := bnd H
      refine cl (C0 x20 z0t_1 _ hx23) ?_
      refine go ?_
      refine cdp H (fun h H => ?_) (fun h H => ?_)
      · refine go ?_
        exact hR _ (pur H).symm _ (rt [.int .i64 (-1)])
      · refine go ?_
        exact L0 a0 x23 (IntKind.i64.wrap (z0t_5 + 1)) _ H _ rfl Q τ  hE hR _ _  S hF
    · refine go ?_
      exact hE _ (pur H).symm _ _  S hF
theorem laws_szForm_ok : ∀ (a0 : Fm) (a1 : Int) r, laws_szForm a0 a1 = some r → PCtr Tryd.prog 8 [.agg (Fm.cells a0), .int .i64 a1] (.int .i64 r) := laws_szForm_all.1
theorem laws_szFormS_ok : ∀ (a0 : List Fm) (a1 : Int) r, laws_szFormS a0 a1 = some r → PCtr Tryd.prog 31 [.sl false (rws Fm.cells a0), .int .i64 a1] (.int .i64 r) := laws_szForm_all.2
theorem laws_szStep_ok : ∀ (a0 : Stp) (a1 : Int) r, laws_szStep a0 a1 = some r → PCtr Tryd.prog 52 [.agg (Stp.cells a0), .int .i64 a1] (.int .i64 r) := by
  intro a0 a1 r H
  intro σ
  unfold laws_szStep at H
  refine ctr_of mixed Tryd.func52 rfl (by kernel_rfl) (rs := [.tmp 4]) rfl (by kernel_rfl) ?_
  have hF := Fx.refl σ
  have hX := Tau.none σ
  have q := dum
  have tT := dum
  refine go ?_
  refine fx_alloc hF rfl fun b1 σ2 hF => ?_
  refine go ?_
  obtain ⟨x8, hx8, H⟩ := bnd H
  refine cl (laws_szForm_ok a0.use a1 _ hx8) ?_
  refine go ?_
  refine cdp H (fun h H => ?_) (fun h H => ?_)
  · refine go ?_
    have e := pur H; subst e
    exact rt [.int .i64 (-1)]
  · refine go ?_
    obtain ⟨x14, hx14, H⟩ := bnd H
    refine cl (laws_szForm_ok a0.res x8 _ hx14) ?_
    refine go ?_
    refine cdp H (fun h H => ?_) (fun h H => ?_)
    · refine go ?_
      have e := pur H; subst e
      exact rt [.int .i64 (-1)]
    · refine go ?_
      have e := pur H; subst e
      exact rt [.int .i64 x14]
theorem laws_szStepS_l0_ok : ∀ (a0 : List Stp) (z0t_1 : Int) (z0t_5 : Int) out, laws_szStepS_l0 a0 z0t_1 z0t_5 = some out → ∀ c, loopAt Tryd.f18 0 = some c → ∀ (Q : AX → AS → Prop) (τ : Sto), (∀ (e0t_1 : Int), out = Sum.inr e0t_1 → ∀ (T : Nat → AV) (σ : Sto), T 1 = .int .i64 e0t_1 ∧ T 4 = .int .i64 0 → Fx τ σ [] [] → Q (.ex 0) ⟨T, σ⟩) → (∀ r, out = Sum.inl r → ∀ s', aRet Tryd.prog [.tmp 4] (fun r' σ' => r' = .int .i64 r ∧ σ' = τ) s' → Q .ret s') → ∀ (T : Nat → AV) (σ : Sto), T 0 = .sl false (rws Stp.cells a0) ∧ T 1 = .int .i64 z0t_1 ∧ T 4 = .int .i64 0 ∧ T 5 = .int .i64 z0t_5 → Fx τ σ [] [] → aLoop (acode Tryd.prog c) Q ⟨T, σ⟩ := by
  intro a0 z0t_1 z0t_5
  revert z0t_1 z0t_5
  refine laws_szStepS_l0.partial_correctness a0 _ ?_
  intro laws_szStepS_l0 IH z0t_1 z0t_5 out H c hc Q τ  hE hR T σ tT hF
  obtain rfl := Option.some.inj ((rfl : loopAt Tryd.f18 0 = some _).symm.trans hc)
  refine aLoop_round ?_
  have q := dum
  have hX := Tau.none τ
  refine go ?_
  refine cdp H (fun h H => ?_) (fun h H => ?_)
  · obtain ⟨x20, f1, H⟩ := bil (g := Stp.cells) Stp.cells_len H
    refine go1 ?_
    obtain ⟨x23, hx23, H⟩ := bnd H
    refine cl (laws_szStep_ok x20 z0t_1 _ hx23) ?_
    refine go ?_
    refine cdp H (fun h H => ?_) (fun h H => ?_)
    · refine go ?_
      exact hR _ (pur H).symm _ (rt [.int .i64 (-1)])
    · refine go ?_
      exact IH  x23 (IntKind.i64.wrap (z0t_5 + 1)) _ H _ rfl Q τ  hE hR _ _  S hF
  · refine go ?_
    exact hE _ (pur H).symm _ _  S hF
theorem laws_szStepS_ok : ∀ (a0 : List Stp) (a1 : Int) r, laws_szStepS a0 a1 = some r → PCtr Tryd.prog 18 [.sl false (rws Stp.cells a0), .int .i64 a1] (.int .i64 r) := by
  intro a0 a1 r H
  intro σ
  unfold laws_szStepS at H
  refine ctr_of mixed Tryd.func18 rfl (by kernel_rfl) (rs := [.tmp 4]) rfl (by kernel_rfl) ?_
  have hF := Fx.refl σ
  have hX := Tau.none σ
  have q := dum
  have tT := dum
  refine go ?_
  refine cdp H (fun h H => ?_) (fun h H => ?_)
  · refine go ?_
    have e := pur H; subst e
    exact rt [.int .i64 (-1)]
  · refine go ?_
    obtain ⟨o1, ho1, H⟩ := bnd H
    refine laws_szStepS_l0_ok a0 (IntKind.i64.wrap (a1 - (a0.length : Int))) 0 _ ho1 _ rfl _ _  ?_ ?_ _ _  S hF
    · intro e2t_1 he T3 σ4 tT hF
      have he := he.symm
      subst he
      dsimp only at H
      refine go ?_
      have e := pur H; subst e
      exact rt [.int .i64 e2t_1]
    · intro r hr s' hs
      subst hr
      have e := pur H; subst e
      first | exact hs | (try simp only [Fm.cells_eq] at hs ⊢; exact hs)
theorem laws_toIntS_l0_ok : ∀ (a0 : List Int) (z0o_0 : List Int) (z0t_4 : Int) out, laws_toIntS_l0 a0 z0o_0 z0t_4 = some out → ∀ c, loopAt Tryd.f35 0 = some c → ∀ (Q : AX → AS → Prop) (τ : Sto) (b1 : Nat), (∀ (e0o_0 : List Int), out = e0o_0 → ∀ (T : Nat → AV) (σ : Sto), T 2 = .nilsl ∧ T 3 = .ref b1 a0.length a0.length → Fx τ σ [] [⟨.ref b1 a0.length a0.length, 3, 1, rws cI e0o_0⟩] → Q (.ex 0) ⟨T, σ⟩) → True → ∀ (T : Nat → AV) (σ : Sto), T 0 = .sl false (rws cI a0) ∧ T 2 = .nilsl ∧ T 3 = .ref b1 a0.length a0.length ∧ T 4 = .int .i64 z0t_4 → Fx τ σ [] [⟨.ref b1 a0.length a0.length, 3, 1, rws cI z0o_0⟩] → aLoop (acode Tryd.prog c) Q ⟨T, σ⟩ := by
  intro a0 z0o_0 z0t_4
  revert z0o_0 z0t_4
  refine laws_toIntS_l0.partial_correctness a0 _ ?_
  intro laws_toIntS_l0 IH z0o_0 z0t_4 out H c hc Q τ b1 hE hR T σ tT hF
  obtain rfl := Option.some.inj ((rfl : loopAt Tryd.f35 0 = some _).symm.trans hc)
  refine aLoop_round ?_
  have q := dum
  have hX := Tau.none τ
  refine go ?_
  refine cdp H (fun h H => ?_) (fun h H => ?_)
  · obtain ⟨x18, f1, H⟩ := bil (g := cI) (fun _ => rfl) H
    obtain ⟨x20, hx20, H⟩ := bnd H
    try simp only [go_sem, ↓reduceIte, Nat.reduceEqDiff, Nat.reduceAdd, Nat.reduceMul, Nat.reduceLeDiff, Nat.reduceLT, Int.reduceEq, Int.toNat_natCast, q, tT, hF.f, hF.m, hF.x hX, f1, aidx_own (l := z0o_0) ((own_at hF 0 rfl).1.trans (rws_len _)) hx20]
    refine fx_oset hF 0 (o := 0) (sz := 1) (k := 1) (v := (.int .i64 x18)) (cs := [.int .i64 x18]) (g := cI) (i := z0t_4) x18 (fun _ => rfl) (by first | rfl | simp) rfl hx20 rfl rfl (by decide) (by first | rfl | simp [splice_eq, cI, cU, cS, cL, cB]) fun σ3 hF => ?_
    have hF : Fx τ σ3 [] [⟨.ref b1 a0.length a0.length, 3, 1, rws cI (z0o_0.set z0t_4.toNat x18)⟩] := hF
    refine go ?_
    exact IH  (z0o_0.set z0t_4.toNat x18) (IntKind.i64.wrap (z0t_4 + 1)) _ H _ rfl Q τ b1 hE hR _ _  S hF
  · refine go ?_
    exact hE _ (pur H).symm _ _  S hF
theorem laws_toIntS_ok : ∀ (a0 : List Int) r, laws_toIntS a0 = some r → PCtr Tryd.prog 35 [.sl false (rws cI a0)] (.sl false (rws cI r)) := by
  intro a0 r H
  intro σ
  unfold laws_toIntS at H
  refine ctr_of mixed Tryd.func35 rfl (by kernel_rfl) (rs := [.tmp 2]) rfl (by kernel_rfl) ?_
  have hF := Fx.refl σ
  have hX := Tau.none σ
  have q := dum
  have tT := dum
  refine go ?_
  obtain ⟨x7, hx7, H⟩ := bnd H
  refine fx_make (g := cI) 0 hF rfl (fun _ => rfl) (by (try simp only [cI, cU, cS, cL, cB]); exact (.cons (.refl _) id .nil)) hx7 fun b1 σ2 hF => ?_
  simp only [Int.toNat_natCast] at hF
  refine go ?_
  obtain ⟨o4, ho4, H⟩ := bnd H
  refine laws_toIntS_l0_ok a0 x7 0 _ ho4 _ rfl _ _ b1 ?_ ?_ _ _  S hF
  · intro e5o_0 he T6 σ7 tT hF
    have he := he.symm
    subst he
    refine go ?_
    have e := pur H; subst e
    exact rt [.ref b1 a0.length a0.length]
  · trivial
theorem laws_toForm_all : (∀ (a0 : Fm) r, laws_toForm a0 = some r → PCtr Tryd.prog 10 [.agg (Fm.cells a0)] (.agg (Fm.cells r))) ∧ (∀ (a0 : List Fm) r, laws_toFormS a0 = some r → PCtr Tryd.prog 36 [.sl false (rws Fm.cells a0)] (.sl false (rws Fm.cells r))) := by
  have h := laws_toForm.mutual_partial_correctness (motive_1 := fun a0 r => PCtr Tryd.prog 10 [.agg (Fm.cells a0)] (.agg (Fm.cells r))) (motive_2 := fun a0 r => PCtr Tryd.prog 36 [.sl false (rws Fm.cells a0)] (.sl false (rws Fm.cells r))) (motive_3 := fun a0 z0o_0 z0t_4 out => ∀ c, loopAt Tryd.f36 0 = some c → ∀ (Q : AX → AS → Prop) (τ : Sto) (b1 : Nat), (∀ (e0o_0 : List Fm), out = e0o_0 → ∀ (T : Nat → AV) (σ : Sto), T 2 = .nilsl ∧ T 3 = .ref b1 a0.length a0.length → Fx τ σ [] [⟨.ref b1 a0.length a0.length, 30, 5, rws Fm.cells e0o_0⟩] → Q (.ex 0) ⟨T, σ⟩) → True → ∀ (T : Nat → AV) (σ : Sto), T 0 = .sl false (rws Fm.cells a0) ∧ T 2 = .nilsl ∧ T 3 = .ref b1 a0.length a0.length ∧ T 4 = .int .i64 z0t_4 → Fx τ σ [] [⟨.ref b1 a0.length a0.length, 30, 5, rws Fm.cells z0o_0⟩] → aLoop (acode Tryd.prog c) Q ⟨T, σ⟩) ?s0 ?s1 ?s2
  · exact ⟨h.1, h.2.1⟩
  · intro laws_toFormS C1 a0 r H
    intro σ
    refine ctr_of mixed Tryd.func10 rfl (by kernel_rfl) (rs := [.cell 2 30]) rfl (by kernel_rfl) ?_
    have hF := Fx.refl σ
    have hX := Tau.none σ
    have q := dum
    have tT := dum
    refine go ?_
    refine fx_alloc hF rfl fun b1 σ2 hF => ?_
    refine go ?_
    refine fx_alloc hF rfl fun b3 σ4 hF => ?_
    refine go ?_
    refine fx_alloc hF rfl fun b5 σ6 hF => ?_
    refine go ?_
    refine st hF 0 rfl fun σ7 hF => ?_
    refine go ?_
    refine st hF 0 rfl fun σ8 hF => ?_
    refine go ?_
    refine st hF 0 rfl fun σ9 hF => ?_
    refine go ?_
    obtain ⟨x15, hx15, H⟩ := bnd H
    refine cl (laws_toIntS_ok a0.sc _ hx15) ?_
    refine go ?_
    refine st hF 0 rfl fun σ10 hF => ?_
    refine go ?_
    obtain ⟨x19, hx19, H⟩ := bnd H
    refine cl (C1 a0.kids _ hx19) ?_
    refine go ?_
    refine st hF 0 rfl fun σ11 hF => ?_
    refine go ?_
    refine st hF 1 rfl fun σ12 hF => ?_
    refine go ?_
    have e := pur H; subst e
    exact rt [.agg [.int .i64 a0.kind, .str a0.name, .int .i64 a0.num, .sl false (rws cI x15), .sl false (rws Fm.cells x19)]]
  · intro laws_toFormS_l0 L0 a0 r H
    intro σ
    refine ctr_of mixed Tryd.func36 rfl (by kernel_rfl) (rs := [.tmp 2]) rfl (by kernel_rfl) ?_
    have hF := Fx.refl σ
    have hX := Tau.none σ
    have q := dum
    have tT := dum
    refine go ?_
    obtain ⟨x7, hx7, H⟩ := bnd H
    refine fx_make (g := Fm.cells) (Fm.mk 0 (ByteArray.mk #[]) 0 [] []) hF rfl Fm.cells_len (by (try simp only [cI, cU, cS, cL, cB, Fm.cells_eq]); exact (.cons (.refl _) id (.cons (.refl _) id (.cons (.refl _) id (.cons .nilsl (fun _ => rfl) (.cons .nilsl (fun _ => rfl) .nil)))))) hx7 fun b1 σ2 hF => ?_
    simp only [Int.toNat_natCast] at hF
    refine go ?_
    obtain ⟨o4, ho4, H⟩ := bnd H
    refine L0 a0 x7 0 _ ho4 _ rfl _ _ b1 ?_ ?_ _ _  S hF
    · intro e5o_0 he T6 σ7 tT hF
      have he := he.symm
      subst he
      refine go ?_
      have e := pur H; subst e
      exact rt [.ref b1 a0.length a0.length]
    · trivial
  · intro laws_toForm laws_toFormS_l0 C0 L0 a0 z0o_0 z0t_4 out H c hc Q τ b1 hE hR T σ tT hF
    obtain rfl := Option.some.inj ((rfl : loopAt Tryd.f36 0 = some _).symm.trans hc)
    refine aLoop_round ?_
    have q := dum
    have hX := Tau.none τ
    refine go ?_
    refine cdp H (fun h H => ?_) (fun h H => ?_)
    · obtain ⟨x18, f1, H⟩ := bil (g := Fm.cells) Fm.cells_len H
      refine go1 ?_
      obtain ⟨x20, hx20, H⟩ := bnd H
      refine cl (C0 x18 _ hx20) ?_
      obtain ⟨x21, hx21, H⟩ := bnd H
      try simp only [go_sem, ↓reduceIte, Nat.reduceEqDiff, Nat.reduceAdd, Nat.reduceMul, Nat.reduceLeDiff, Nat.reduceLT, Int.reduceEq, Int.toNat_natCast, q, tT, hF.f, hF.m, hF.x hX, aidx_own (l := z0o_0) ((own_at hF 0 rfl).1.trans (rws_len _)) hx21]
      refine fx_oset hF 0 (o := 0) (sz := 5) (k := 5) (v := (.agg [.int .i64 x20.kind, .str x20.name, .int .i64 x20.num, .sl false (rws cI x20.sc), .sl false (rws Fm.cells x20.kids)])) (cs := [.int .i64 x20.kind, .str x20.name, .int .i64 x20.num, .sl false (rws cI x20.sc), .sl false (rws Fm.cells x20.kids)]) (g := Fm.cells) (i := z0t_4) x20 Fm.cells_len (by first | rfl | simp) rfl hx21 rfl rfl (by decide) (by first | rfl | simp [splice_eq, cI, cU, cS, cL, cB, Fm.cells_eq]) fun σ3 hF => ?_
      have hF : Fx τ σ3 [] [⟨.ref b1 a0.length a0.length, 30, 5, rws Fm.cells (z0o_0.set z0t_4.toNat x20)⟩] := hF
      refine go ?_
      exact L0 a0 (z0o_0.set z0t_4.toNat x20) (IntKind.i64.wrap (z0t_4 + 1)) _ H _ rfl Q τ b1 hE hR _ _  S hF
    · refine go ?_
      exact hE _ (pur H).symm _ _  S hF
theorem laws_toForm_ok : ∀ (a0 : Fm) r, laws_toForm a0 = some r → PCtr Tryd.prog 10 [.agg (Fm.cells a0)] (.agg (Fm.cells r)) := laws_toForm_all.1
theorem laws_toFormS_ok : ∀ (a0 : List Fm) r, laws_toFormS a0 = some r → PCtr Tryd.prog 36 [.sl false (rws Fm.cells a0)] (.sl false (rws Fm.cells r)) := laws_toForm_all.2
theorem laws_toStep_ok : ∀ (a0 : Stp) r, laws_toStep a0 = some r → PCtr Tryd.prog 55 [.agg (Stp.cells a0)] (.agg (Stp.cells r)) := by
  intro a0 r H
  intro σ
  unfold laws_toStep at H
  refine ctr_of mixed Tryd.func55 rfl (by kernel_rfl) (rs := [.cell 2 92]) rfl (by kernel_rfl) ?_
  have hF := Fx.refl σ
  have hX := Tau.none σ
  have q := dum
  have tT := dum
  refine go ?_
  refine fx_alloc hF rfl fun b1 σ2 hF => ?_
  refine go ?_
  refine fx_alloc hF rfl fun b3 σ4 hF => ?_
  refine go ?_
  refine fx_alloc hF rfl fun b5 σ6 hF => ?_
  refine go ?_
  refine st hF 0 rfl fun σ7 hF => ?_
  refine go ?_
  refine st hF 0 rfl fun σ8 hF => ?_
  refine go ?_
  refine st hF 0 rfl fun σ9 hF => ?_
  refine go ?_
  obtain ⟨x15, hx15, H⟩ := bnd H
  refine cl (laws_toForm_ok a0.use _ hx15) ?_
  refine go ?_
  refine st hF 0 rfl fun σ10 hF => ?_
  refine go ?_
  obtain ⟨x19, hx19, H⟩ := bnd H
  refine cl (laws_toForm_ok a0.res _ hx19) ?_
  refine go ?_
  refine st hF 0 rfl fun σ11 hF => ?_
  refine go ?_
  refine st hF 1 rfl fun σ12 hF => ?_
  refine go ?_
  have e := pur H; subst e
  exact rt [.agg [.int .i64 a0.id, .int .i64 a0.rule, .int .i64 a0.scope, .int .i64 x15.kind, .str x15.name, .int .i64 x15.num, .sl false (rws cI x15.sc), .sl false (rws Fm.cells x15.kids), .int .i64 x19.kind, .str x19.name, .int .i64 x19.num, .sl false (rws cI x19.sc), .sl false (rws Fm.cells x19.kids)]]
theorem laws_toStepS_l0_ok : ∀ (a0 : List Stp) (z0o_0 : List Stp) (z0t_4 : Int) out, laws_toStepS_l0 a0 z0o_0 z0t_4 = some out → ∀ c, loopAt Tryd.f20 0 = some c → ∀ (Q : AX → AS → Prop) (τ : Sto) (b1 : Nat), (∀ (e0o_0 : List Stp), out = e0o_0 → ∀ (T : Nat → AV) (σ : Sto), T 2 = .nilsl ∧ T 3 = .ref b1 a0.length a0.length → Fx τ σ [] [⟨.ref b1 a0.length a0.length, 92, 13, rws Stp.cells e0o_0⟩] → Q (.ex 0) ⟨T, σ⟩) → True → ∀ (T : Nat → AV) (σ : Sto), T 0 = .sl false (rws Stp.cells a0) ∧ T 2 = .nilsl ∧ T 3 = .ref b1 a0.length a0.length ∧ T 4 = .int .i64 z0t_4 → Fx τ σ [] [⟨.ref b1 a0.length a0.length, 92, 13, rws Stp.cells z0o_0⟩] → aLoop (acode Tryd.prog c) Q ⟨T, σ⟩ := by
  intro a0 z0o_0 z0t_4
  revert z0o_0 z0t_4
  refine laws_toStepS_l0.partial_correctness a0 _ ?_
  intro laws_toStepS_l0 IH z0o_0 z0t_4 out H c hc Q τ b1 hE hR T σ tT hF
  obtain rfl := Option.some.inj ((rfl : loopAt Tryd.f20 0 = some _).symm.trans hc)
  refine aLoop_round ?_
  have q := dum
  have hX := Tau.none τ
  refine go ?_
  refine cdp H (fun h H => ?_) (fun h H => ?_)
  · obtain ⟨x18, f1, H⟩ := bil (g := Stp.cells) Stp.cells_len H
    refine go1 ?_
    obtain ⟨x20, hx20, H⟩ := bnd H
    refine cl (laws_toStep_ok x18 _ hx20) ?_
    obtain ⟨x21, hx21, H⟩ := bnd H
    try simp only [go_sem, ↓reduceIte, Nat.reduceEqDiff, Nat.reduceAdd, Nat.reduceMul, Nat.reduceLeDiff, Nat.reduceLT, Int.reduceEq, Int.toNat_natCast, q, tT, hF.f, hF.m, hF.x hX, aidx_own (l := z0o_0) ((own_at hF 0 rfl).1.trans (rws_len _)) hx21]
    refine fx_oset hF 0 (o := 0) (sz := 13) (k := 13) (v := (.agg [.int .i64 x20.id, .int .i64 x20.rule, .int .i64 x20.scope, .int .i64 x20.use.kind, .str x20.use.name, .int .i64 x20.use.num, .sl false (rws cI x20.use.sc), .sl false (rws Fm.cells x20.use.kids), .int .i64 x20.res.kind, .str x20.res.name, .int .i64 x20.res.num, .sl false (rws cI x20.res.sc), .sl false (rws Fm.cells x20.res.kids)])) (cs := [.int .i64 x20.id, .int .i64 x20.rule, .int .i64 x20.scope, .int .i64 x20.use.kind, .str x20.use.name, .int .i64 x20.use.num, .sl false (rws cI x20.use.sc), .sl false (rws Fm.cells x20.use.kids), .int .i64 x20.res.kind, .str x20.res.name, .int .i64 x20.res.num, .sl false (rws cI x20.res.sc), .sl false (rws Fm.cells x20.res.kids)]) (g := Stp.cells) (i := z0t_4) x20 Stp.cells_len (by first | rfl | simp) rfl hx21 rfl rfl (by decide) (by first | rfl | simp [splice_eq, cI, cU, cS, cL, cB, Stp.cells_eq, Fm.cells_eq]) fun σ3 hF => ?_
    have hF : Fx τ σ3 [] [⟨.ref b1 a0.length a0.length, 92, 13, rws Stp.cells (z0o_0.set z0t_4.toNat x20)⟩] := hF
    refine go ?_
    exact IH  (z0o_0.set z0t_4.toNat x20) (IntKind.i64.wrap (z0t_4 + 1)) _ H _ rfl Q τ b1 hE hR _ _  S hF
  · refine go ?_
    exact hE _ (pur H).symm _ _  S hF
theorem laws_toStepS_ok : ∀ (a0 : List Stp) r, laws_toStepS a0 = some r → PCtr Tryd.prog 20 [.sl false (rws Stp.cells a0)] (.sl false (rws Stp.cells r)) := by
  intro a0 r H
  intro σ
  unfold laws_toStepS at H
  refine ctr_of mixed Tryd.func20 rfl (by kernel_rfl) (rs := [.tmp 2]) rfl (by kernel_rfl) ?_
  have hF := Fx.refl σ
  have hX := Tau.none σ
  have q := dum
  have tT := dum
  refine go ?_
  obtain ⟨x7, hx7, H⟩ := bnd H
  refine fx_make (g := Stp.cells) (Stp.mk 0 0 0 (Fm.mk 0 (ByteArray.mk #[]) 0 [] []) (Fm.mk 0 (ByteArray.mk #[]) 0 [] [])) hF rfl Stp.cells_len (by (try simp only [cI, cU, cS, cL, cB, Stp.cells_eq, Fm.cells_eq]); exact (.cons (.refl _) id (.cons (.refl _) id (.cons (.refl _) id (.cons (.refl _) id (.cons (.refl _) id (.cons (.refl _) id (.cons .nilsl (fun _ => rfl) (.cons .nilsl (fun _ => rfl) (.cons (.refl _) id (.cons (.refl _) id (.cons (.refl _) id (.cons .nilsl (fun _ => rfl) (.cons .nilsl (fun _ => rfl) .nil)))))))))))))) hx7 fun b1 σ2 hF => ?_
  simp only [Int.toNat_natCast] at hF
  refine go ?_
  obtain ⟨o4, ho4, H⟩ := bnd H
  refine laws_toStepS_l0_ok a0 x7 0 _ ho4 _ rfl _ _ b1 ?_ ?_ _ _  S hF
  · intro e5o_0 he T6 σ7 tT hF
    have he := he.symm
    subst he
    refine go ?_
    have e := pur H; subst e
    exact rt [.ref b1 a0.length a0.length]
  · trivial
theorem spec_StripForm_ok : ∀ (a0 : Fm) r, spec_StripForm a0 = some r → PCtr Tryd.prog 54 [.agg (Fm.cells a0)] (.agg (Fm.cells r)) := by
  refine spec_StripForm.partial_correctness  (motive_1 := fun a0 r => PCtr Tryd.prog 54 [.agg (Fm.cells a0)] (.agg (Fm.cells r))) (motive_2 := fun a0 z0o_0 z0t_4 out => ∀ c, loopAt Tryd.f54 0 = some c → ∀ (Q : AX → AS → Prop) (τ : Sto) (b1 : Nat) (b3 : Nat) (b5 : Nat), (∀ (e0o_0 : List Fm), out = e0o_0 → ∀ (T : Nat → AV) (σ : Sto) (e0v0 : AV), T 2 = .ptr b3 0 ∧ T 3 = .ptr b5 0 → Fx τ σ [(b5, ⟨30, 5, [.int .i64 a0.kind, .str a0.name, .int .i64 a0.num, .nilsl, e0v0]⟩), (b3, ⟨30, 5, [.int .i64 0, .str (ByteArray.mk #[]), .int .i64 0, .nilsl, .nilsl]⟩), (b1, ⟨30, 5, [.int .i64 a0.kind, .str a0.name, .int .i64 a0.num, .sl false (rws cI a0.sc), .sl false (rws Fm.cells a0.kids)]⟩)] [⟨e0v0, 30, 5, rws Fm.cells e0o_0⟩] → Q (.ex 0) ⟨T, σ⟩) → True → ∀ (T : Nat → AV) (σ : Sto) (z0v0 : AV), T 1 = .ptr b1 0 ∧ T 2 = .ptr b3 0 ∧ T 3 = .ptr b5 0 ∧ T 4 = .int .i64 z0t_4 → Fx τ σ [(b5, ⟨30, 5, [.int .i64 a0.kind, .str a0.name, .int .i64 a0.num, .nilsl, z0v0]⟩), (b3, ⟨30, 5, [.int .i64 0, .str (ByteArray.mk #[]), .int .i64 0, .nilsl, .nilsl]⟩), (b1, ⟨30, 5, [.int .i64 a0.kind, .str a0.name, .int .i64 a0.num, .sl false (rws cI a0.sc), .sl false (rws Fm.cells a0.kids)]⟩)] [⟨z0v0, 30, 5, rws Fm.cells z0o_0⟩] → aLoop (acode Tryd.prog c) Q ⟨T, σ⟩) ?_ ?_
  · intro spec_StripForm_l0 L0 a0 r H
    intro σ
    refine ctr_of mixed Tryd.func54 rfl (by kernel_rfl) (rs := [.cell 2 30]) rfl (by kernel_rfl) ?_
    have hF := Fx.refl σ
    have hX := Tau.none σ
    have q := dum
    have tT := dum
    refine go ?_
    refine fx_alloc hF rfl fun b1 σ2 hF => ?_
    refine go ?_
    refine fx_alloc hF rfl fun b3 σ4 hF => ?_
    refine go ?_
    refine fx_alloc hF rfl fun b5 σ6 hF => ?_
    refine go ?_
    refine st hF 0 rfl fun σ7 hF => ?_
    have hF := hF.nil 30 5
    refine go ?_
    obtain ⟨o11, ho11, H⟩ := bnd H
    refine L0 a0 [] 0 _ ho11 _ rfl _ _ b1 b3 b5 ?_ ?_ _ _ .nilsl S hF
    · intro e12o_0 he T13 σ14 e12v0 tT hF
      have he := he.symm
      subst he
      refine go ?_
      refine st hF 1 rfl fun σ16 hF => ?_
      refine go ?_
      have e := pur H; subst e
      exact rt [.agg [.int .i64 a0.kind, .str a0.name, .int .i64 a0.num, .nilsl, e12v0]]
    · trivial
  · intro spec_StripForm spec_StripForm_l0 C0 L0 a0 z0o_0 z0t_4 out H c hc Q τ b1 b3 b5 hE hR T σ z0v0 tT hF
    obtain rfl := Option.some.inj ((rfl : loopAt Tryd.f54 0 = some _).symm.trans hc)
    refine aLoop_round ?_
    have q := dum
    have hX := Tau.none τ
    refine go ?_
    refine cdp H (fun h H => ?_) (fun h H => ?_)
    · refine go ?_
      refine draw_text E0 [.v, .v, .v, .v, .v, .v, .v, .v, .v, .x, .v, .z] (by kernel_rfl) ?_
      obtain ⟨x24, f1, H⟩ := bil (g := Fm.cells) Fm.cells_len H
      refine go1 ?_
      obtain ⟨x26, hx26, H⟩ := bnd H
      refine cv (C0 x24 _ hx26) ?_
      refine go ?_
      refine apdK (g := Fm.cells) hF 0 H (rdo (c := true) (g := Fm.cells) Fm.cells_len) fun x28 H v8 σ9 hF => ?_
      refine go ?_
      refine st hF 0 (hF.cells 0 rfl) fun σ10 hF => ?_
      refine go ?_
      exact L0 a0 x28 (IntKind.i64.wrap (z0t_4 + 1)) _ H _ rfl Q τ b1 b3 b5 hE hR _ _ v8 S hF
    · refine go ?_
      exact hE _ (pur H).symm _ _ z0v0 S hF
theorem spec_l1Letter_ok : ∀ (a0 : Int) (a1 : Bool) r, spec_l1Letter a0 a1 = some r → PCtr Tryd.prog 119 [.int .u8 a0, .bool a1] (.bool r) := by
  intro a0 a1 r H
  intro σ
  unfold spec_l1Letter at H
  refine ctr_of mixed Tryd.func119 rfl (by kernel_rfl) (rs := [.tmp 4]) rfl (by kernel_rfl) ?_
  have hF := Fx.refl σ
  have hX := Tau.none σ
  have q := dum
  have tT := dum
  refine go ?_
  obtain ⟨x10, g1, H⟩ := bnd H
  refine aGd_cutN 2 8 10 (.bool x10) (gi q (fun q => ?_) (fun q => ?_)) (fun J => ?_)
  · refine go ?_
    exact cutd 8 g1
  · refine go ?_
    exact cutd 8 g1
  refine go ?_
  obtain ⟨x14, g3, H⟩ := bnd H
  refine aGd_cutN 2 12 14 (.bool x14) (giN q (fun q => ?_) (fun q => ?_)) (fun J => ?_)
  · refine go ?_
    exact cutd 12 g3
  · refine go ?_
    exact cutd 12 g3
  refine go ?_
  obtain ⟨x18, g5, H⟩ := bnd H
  refine aGd_cutN 2 16 18 (.bool x18) (giN q (fun q => ?_) (fun q => ?_)) (fun J => ?_)
  · refine go ?_
    exact cutd 16 g5
  · refine go ?_
    exact cutd 16 g5
  refine go ?_
  obtain ⟨x22, g7, H⟩ := bnd H
  refine aGd_cutN 2 20 22 (.bool x22) (giN q (fun q => ?_) (fun q => ?_)) (fun J => ?_)
  · refine go ?_
    exact cutd 20 g7
  · refine go ?_
    exact cutd 20 g7
  refine go ?_
  obtain ⟨x26, g9, H⟩ := bnd H
  refine aGd_cutN 2 24 26 (.bool x26) (giN q (fun q => ?_) (fun q => ?_)) (fun J => ?_)
  · refine go ?_
    exact cutd 24 g9
  · refine go ?_
    exact cutd 24 g9
  refine go ?_
  obtain ⟨x30, g11, H⟩ := bnd H
  refine aGd_cutN 2 28 30 (.bool x30) (giN q (fun q => ?_) (fun q => ?_)) (fun J => ?_)
  · refine go ?_
    exact cutd 28 g11
  · refine go ?_
    exact cutd 28 g11
  refine go ?_
  refine cdb H (fun h H => ?_) (fun h H => ?_)
  · refine go ?_
    have e := pur H; subst e
    exact rt [.bool true]
  · refine go ?_
    obtain ⟨x44, g13, H⟩ := bnd H
    refine aGd_cutN 10 34 44 (.bool x44) (gi q (fun q => ?_) (fun q => ?_)) (fun J => ?_)
    · rw [if_pos (dbt q)] at g13
      refine go ?_
      obtain ⟨x39, g15, g13⟩ := bnd g13
      refine aGd_cutN 2 37 39 (.bool x39) (gi q (fun q => ?_) (fun q => ?_)) (fun J => ?_)
      · refine go ?_
        exact cutd 37 g15
      · refine go ?_
        exact cutd 37 g15
      refine go ?_
      obtain ⟨x43, g17, g13⟩ := bnd g13
      refine aGd_cutN 2 41 43 (.bool x43) (giN q (fun q => ?_) (fun q => ?_)) (fun J => ?_)
      · refine go ?_
        exact cutd 41 g17
      · refine go ?_
        exact cutd 41 g17
      refine go ?_
      exact cutd 34 g13
    · rw [if_neg (dbf q)] at g13
      refine go ?_
      exact cutd 34 g13
    refine go ?_
    have e := pur H; subst e
    exact rt [.bool x44]
theorem spec_NameValid_l0_ok : ∀ (a0 : ByteArray) (z0t_3 : Int) out, spec_NameValid_l0 a0 z0t_3 = some out → ∀ c, loopAt Tryd.f106 0 = some c → ∀ (Q : AX → AS → Prop) (τ : Sto), (∀ (_u : Unit), out = Sum.inr () → ∀ (T : Nat → AV) (σ : Sto), T 0 = .str a0 ∧ T 2 = .bool false → Fx τ σ [] [] → Q (.ex 0) ⟨T, σ⟩) → (∀ r, out = Sum.inl r → ∀ s', aRet Tryd.prog [.tmp 2] (fun r' σ' => r' = .bool r ∧ σ' = τ) s' → Q .ret s') → ∀ (T : Nat → AV) (σ : Sto), T 0 = .str a0 ∧ T 2 = .bool false ∧ T 3 = .int .i64 z0t_3 → Fx τ σ [] [] → aLoop (acode Tryd.prog c) Q ⟨T, σ⟩ := by
  intro a0 z0t_3
  revert z0t_3
  refine spec_NameValid_l0.partial_correctness a0 _ ?_
  intro spec_NameValid_l0 IH z0t_3 out H c hc Q τ  hE hR T σ tT hF
  obtain rfl := Option.some.inj ((rfl : loopAt Tryd.f106 0 = some _).symm.trans hc)
  refine aLoop_round ?_
  have q := dum
  have hX := Tau.none τ
  refine go ?_
  obtain ⟨x17, g3, H⟩ := bnd H
  refine aGd_cutN 2 15 17 (.bool x17) (gi q (fun q => ?_) (fun q => ?_)) (fun J => ?_)
  · refine go ?_
    exact cutd 15 g3
  · refine go ?_
    exact cutd 15 g3
  refine go ?_
  refine cdb H (fun h H => ?_) (fun h H => ?_)
  · obtain ⟨x22, f1, H⟩ := bsx H
    refine go1 ?_
    obtain ⟨x25, hx25, H⟩ := bnd H
    refine cl (spec_l1Letter_ok x22 (decide (z0t_3 = 0)) _ hx25) ?_
    refine go ?_
    refine cdb H (fun h H => ?_) (fun h H => ?_)
    · refine go ?_
      exact hR _ (pur H).symm _ (rt [.bool false])
    · refine go ?_
      exact IH  (IntKind.i64.wrap (z0t_3 + 1)) _ H _ rfl Q τ  hE hR _ _  S hF
  · refine go ?_
    exact hE () (pur H).symm _ _  S hF
theorem spec_NameValid_ok : ∀ (a0 : ByteArray) r, spec_NameValid a0 = some r → PCtr Tryd.prog 106 [.str a0] (.bool r) := by
  intro a0 r H
  intro σ
  unfold spec_NameValid at H
  refine ctr_of mixed Tryd.func106 rfl (by kernel_rfl) (rs := [.tmp 2]) rfl (by kernel_rfl) ?_
  have hF := Fx.refl σ
  have hX := Tau.none σ
  have q := dum
  have tT := dum
  refine go ?_
  obtain ⟨x9, g1, H⟩ := bnd H
  refine aGd_cutN 2 7 9 (.bool x9) (giN q (fun q => ?_) (fun q => ?_)) (fun J => ?_)
  · refine go ?_
    exact cutd 7 g1
  · refine go ?_
    exact cutd 7 g1
  refine go ?_
  refine cdb H (fun h H => ?_) (fun h H => ?_)
  · refine go ?_
    have e := pur H; subst e
    exact rt [.bool true]
  · refine go ?_
    obtain ⟨o5, ho5, H⟩ := bnd H
    refine spec_NameValid_l0_ok a0 0 _ ho5 _ rfl _ _  ?_ ?_ _ _  S hF
    · intro _ he T7 σ8 tT hF
      have he := he.symm
      subst he
      dsimp only at H
      refine go ?_
      obtain ⟨x34, g10, H⟩ := bnd H
      refine aGd_cutN 3 31 34 (.bool x34) (gi q (fun q => ?_) (fun q => ?_)) (fun J => ?_)
      · refine go ?_
        exact cutd 31 g10
      · refine go ?_
        exact cutd 31 g10
      refine go ?_
      have e := pur H; subst e
      exact rt [.bool x34]
    · intro r hr s' hs
      subst hr
      have e := pur H; subst e
      first | exact hs | (try simp only [Fm.cells_eq] at hs ⊢; exact hs)
theorem spec_l1Scopes_l0_ok : ∀ (a0 : List Int) (z0t_3 : Int) out, spec_l1Scopes_l0 a0 z0t_3 = some out → ∀ c, loopAt Tryd.f107 0 = some c → ∀ (Q : AX → AS → Prop) (τ : Sto), (∀ (_u : Unit), out = Sum.inr () → ∀ (T : Nat → AV) (σ : Sto), T 0 = .sl false (rws cI a0) ∧ T 2 = .bool false → Fx τ σ [] [] → Q (.ex 0) ⟨T, σ⟩) → (∀ r, out = Sum.inl r → ∀ s', aRet Tryd.prog [.tmp 2] (fun r' σ' => r' = .bool r ∧ σ' = τ) s' → Q .ret s') → ∀ (T : Nat → AV) (σ : Sto), T 0 = .sl false (rws cI a0) ∧ T 2 = .bool false ∧ T 3 = .int .i64 z0t_3 → Fx τ σ [] [] → aLoop (acode Tryd.prog c) Q ⟨T, σ⟩ := by
  intro a0 z0t_3
  revert z0t_3
  refine spec_l1Scopes_l0.partial_correctness a0 _ ?_
  intro spec_l1Scopes_l0 IH z0t_3 out H c hc Q τ  hE hR T σ tT hF
  obtain rfl := Option.some.inj ((rfl : loopAt Tryd.f107 0 = some _).symm.trans hc)
  refine aLoop_round ?_
  have q := dum
  have hX := Tau.none τ
  refine go ?_
  obtain ⟨x11, g1, H⟩ := bnd H
  refine aGd_cutN 2 9 11 (.bool x11) (gi q (fun q => ?_) (fun q => ?_)) (fun J => ?_)
  · refine go ?_
    exact cutd 9 g1
  · refine go ?_
    exact cutd 9 g1
  refine go ?_
  refine cdb H (fun h H => ?_) (fun h H => ?_)
  · refine go ?_
    refine draw_text E0 [.v, .v, .v, .v, .v, .v, .v, .v, .v, .v, .v, .v, .v, .v, .v, .v, .v, .v, .v, .v, .v, .v, .v, .v, .v, .v, .v, .v] (by kernel_rfl) ?_
    obtain ⟨x16, f1, H⟩ := bil (g := cI) (fun _ => rfl) H
    refine go1 ?_
    obtain ⟨x25, g3, H⟩ := bnd H
    refine tGd_cutN 5 20 25 (.bool x25) (tiN q (fun q => ?_) (fun q => ?_)) (fun J => ?_)
    · rw [if_neg (df q)] at g3
      obtain ⟨x22, f1, g3⟩ := bil (g := cI) (fun _ => rfl) g3
      refine go1 ?_
      refine go ?_
      exact cutd 20 g3
    · rw [if_pos (dt q)] at g3
      refine go ?_
      exact cutd 20 g3
    refine go ?_
    obtain ⟨x41, g5, H⟩ := bnd H
    refine tGd_cutN 14 27 41 (.bool x41) (tiN q (fun q => ?_) (fun q => ?_)) (fun J => ?_)
    · rw [if_neg (dbf q)] at g5
      refine go ?_
      obtain ⟨x40, g7, g5⟩ := bnd g5
      refine tGd_cutN 10 30 40 (.bool x40) (ti q (fun q => ?_) (fun q => ?_)) (fun J => ?_)
      · rw [if_pos (dt q)] at g7
        obtain ⟨x32, f1, g7⟩ := bil (g := cI) (fun _ => rfl) g7
        obtain ⟨x37, f2, g7⟩ := bil (g := cI) (fun _ => rfl) g7
        refine go2 ?_
        refine go ?_
        exact cutd 30 g7
      · rw [if_neg (df q)] at g7
        refine go ?_
        exact cutd 30 g7
      refine go ?_
      exact cutd 27 g5
    · rw [if_pos (dbt q)] at g5
      refine go ?_
      exact cutd 27 g5
    refine go ?_
    refine cdb H (fun h H => ?_) (fun h H => ?_)
    · refine go ?_
      exact hR _ (pur H).symm _ (rt [.bool false])
    · refine go ?_
      exact IH  (IntKind.i64.wrap (z0t_3 + 1)) _ H _ rfl Q τ  hE hR _ _  S hF
  · refine go ?_
    exact hE () (pur H).symm _ _  S hF
theorem spec_l1Scopes_ok : ∀ (a0 : List Int) r, spec_l1Scopes a0 = some r → PCtr Tryd.prog 107 [.sl false (rws cI a0)] (.bool r) := by
  intro a0 r H
  intro σ
  unfold spec_l1Scopes at H
  refine ctr_of mixed Tryd.func107 rfl (by kernel_rfl) (rs := [.tmp 2]) rfl (by kernel_rfl) ?_
  have hF := Fx.refl σ
  have hX := Tau.none σ
  have q := dum
  have tT := dum
  refine go ?_
  obtain ⟨o9, ho9, H⟩ := bnd H
  refine spec_l1Scopes_l0_ok a0 0 _ ho9 _ rfl _ _  ?_ ?_ _ _  S hF
  · intro _ he T11 σ12 tT hF
    have he := he.symm
    subst he
    dsimp only at H
    refine go ?_
    have e := pur H; subst e
    exact rt [.bool (decide ((a0.length : Int) ≤ 24))]
  · intro r hr s' hs
    subst hr
    have e := pur H; subst e
    first | exact hs | (try simp only [Fm.cells_eq] at hs ⊢; exact hs)
theorem spec_l1Is_ok : ∀ (a0 : Fm) (a1 : Int) r, spec_l1Is a0 a1 = some r → PCtr Tryd.prog 93 [.agg (Fm.cells a0), .int .i64 a1] (.bool r) := by
  refine spec_l1Is.partial_correctness  (motive_1 := fun a0 a1 r => PCtr Tryd.prog 93 [.agg (Fm.cells a0), .int .i64 a1] (.bool r)) (motive_2 := fun a0 a1 z0t_5 out => ∀ c, loopAt Tryd.f93 0 = some c → ∀ (Q : AX → AS → Prop) (τ : Sto) (b1 : Nat), (∀ (_u : Unit), out = Sum.inr () → ∀ (T : Nat → AV) (σ : Sto), T 4 = .bool false → Fx τ σ [(b1, ⟨30, 5, [.int .i64 a0.kind, .str a0.name, .int .i64 a0.num, .sl false (rws cI a0.sc), .sl false (rws Fm.cells a0.kids)]⟩)] [] → Q (.ex 1) ⟨T, σ⟩) → (∀ r, out = Sum.inl r → ∀ s', aRet Tryd.prog [.tmp 4] (fun r' σ' => r' = .bool r ∧ σ' = τ) s' → Q .ret s') → ∀ (T : Nat → AV) (σ : Sto), T 1 = .int .i64 a1 ∧ T 2 = .ptr b1 0 ∧ T 4 = .bool false ∧ T 5 = .int .i64 z0t_5 → Fx τ σ [(b1, ⟨30, 5, [.int .i64 a0.kind, .str a0.name, .int .i64 a0.num, .sl false (rws cI a0.sc), .sl false (rws Fm.cells a0.kids)]⟩)] [] → aLoop (acode Tryd.prog c) Q ⟨T, σ⟩) ?_ ?_
  · intro spec_l1Is_l0 L0 a0 a1 r H
    intro σ
    refine ctr_of mixed Tryd.func93 rfl (by kernel_rfl) (rs := [.tmp 4]) rfl (by kernel_rfl) ?_
    have hF := Fx.refl σ
    have hX := Tau.none σ
    have q := dum
    have tT := dum
    refine go ?_
    refine fx_alloc hF rfl fun b1 σ2 hF => ?_
    refine go ?_
    refine cdp H (fun h H => ?_) (fun h H => ?_)
    · refine go ?_
      have e := pur H; subst e
      exact rt [.bool false]
    · refine go ?_
      refine cdp H (fun h H => ?_) (fun h H => ?_)
      · refine go ?_
        obtain ⟨x14, hx14, H⟩ := bnd H
        refine cl (spec_NameValid_ok a0.name _ hx14) ?_
        refine go ?_
        obtain ⟨x19, g3, H⟩ := bnd H
        refine aGd_cutN 3 16 19 (.bool x19) (gi q (fun q => ?_) (fun q => ?_)) (fun J => ?_)
        · refine go ?_
          exact cutd 16 g3
        · refine go ?_
          exact cutd 16 g3
        refine go ?_
        obtain ⟨x24, g5, H⟩ := bnd H
        refine aGd_cutN 3 21 24 (.bool x24) (gi q (fun q => ?_) (fun q => ?_)) (fun J => ?_)
        · rw [if_pos (dbt q)] at g5
          refine go ?_
          obtain ⟨x23, hx23, g5⟩ := bnd g5
          refine cl (spec_l1Scopes_ok a0.sc _ hx23) ?_
          refine go ?_
          exact cutd 21 g5
        · rw [if_neg (dbf q)] at g5
          refine go ?_
          exact cutd 21 g5
        refine go ?_
        obtain ⟨x30, g7, H⟩ := bnd H
        refine aGd_cutN 4 26 30 (.bool x30) (gi q (fun q => ?_) (fun q => ?_)) (fun J => ?_)
        · refine go ?_
          exact cutd 26 g7
        · refine go ?_
          exact cutd 26 g7
        refine go ?_
        have e := pur H; subst e
        exact rt [.bool x30]
      · refine go ?_
        refine cdp H (fun h H => ?_) (fun h H => ?_)
        · refine go ?_
          obtain ⟨x40, g9, H⟩ := bnd H
          refine aGd_cutN 3 37 40 (.bool x40) (gi q (fun q => ?_) (fun q => ?_)) (fun J => ?_)
          · refine go ?_
            exact cutd 37 g9
          · refine go ?_
            exact cutd 37 g9
          refine go ?_
          obtain ⟨x45, g11, H⟩ := bnd H
          refine aGd_cutN 3 42 45 (.bool x45) (gi q (fun q => ?_) (fun q => ?_)) (fun J => ?_)
          · refine go ?_
            exact cutd 42 g11
          · refine go ?_
            exact cutd 42 g11
          refine go ?_
          obtain ⟨x51, g13, H⟩ := bnd H
          refine aGd_cutN 4 47 51 (.bool x51) (gi q (fun q => ?_) (fun q => ?_)) (fun J => ?_)
          · refine go ?_
            exact cutd 47 g13
          · refine go ?_
            exact cutd 47 g13
          refine go ?_
          obtain ⟨x57, g15, H⟩ := bnd H
          refine aGd_cutN 4 53 57 (.bool x57) (gi q (fun q => ?_) (fun q => ?_)) (fun J => ?_)
          · refine go ?_
            exact cutd 53 g15
          · refine go ?_
            exact cutd 53 g15
          refine go ?_
          have e := pur H; subst e
          exact rt [.bool x57]
        · refine go ?_
          obtain ⟨x65, g17, H⟩ := bnd H
          refine aGd_cutN 3 62 65 (.bool x65) (giN q (fun q => ?_) (fun q => ?_)) (fun J => ?_)
          · refine go ?_
            exact cutd 62 g17
          · refine go ?_
            exact cutd 62 g17
          refine go ?_
          obtain ⟨x70, g19, H⟩ := bnd H
          refine aGd_cutN 3 67 70 (.bool x70) (giN q (fun q => ?_) (fun q => ?_)) (fun J => ?_)
          · refine go ?_
            exact cutd 67 g19
          · refine go ?_
            exact cutd 67 g19
          refine go ?_
          obtain ⟨x76, g21, H⟩ := bnd H
          refine aGd_cutN 4 72 76 (.bool x76) (giN q (fun q => ?_) (fun q => ?_)) (fun J => ?_)
          · refine go ?_
            exact cutd 72 g21
          · refine go ?_
            exact cutd 72 g21
          refine go ?_
          refine cdb H (fun h H => ?_) (fun h H => ?_)
          · refine go ?_
            have e := pur H; subst e
            exact rt [.bool false]
          · refine go ?_
            obtain ⟨o23, ho23, H⟩ := bnd H
            refine L0 a0 a1 0 _ ho23 _ rfl _ _ b1 ?_ ?_ _ _  S hF
            · intro _ he T25 σ26 tT hF
              have he := he.symm
              subst he
              dsimp only at H
              refine go ?_
              have e := pur H; subst e
              exact rt [.bool true]
            · intro r hr s' hs
              subst hr
              have e := pur H; subst e
              first | exact hs | (try simp only [Fm.cells_eq] at hs ⊢; exact hs)
  · intro spec_l1Is spec_l1Is_l0 C0 L0 a0 a1 z0t_5 out H c hc Q τ b1 hE hR T σ tT hF
    obtain rfl := Option.some.inj ((rfl : loopAt Tryd.f93 0 = some _).symm.trans hc)
    refine aLoop_round ?_
    have q := dum
    have hX := Tau.none τ
    refine go ?_
    refine cdp H (fun h H => ?_) (fun h H => ?_)
    · obtain ⟨x87, f1, H⟩ := bil (g := Fm.cells) Fm.cells_len H
      refine go1 ?_
      obtain ⟨x91, hx91, H⟩ := bnd H
      refine cl (C0 x87 (IntKind.i64.wrap (a1 - 1)) _ hx91) ?_
      refine go ?_
      refine cdb H (fun h H => ?_) (fun h H => ?_)
      · refine go ?_
        exact hR _ (pur H).symm _ (rt [.bool false])
      · refine go ?_
        exact L0 a0 a1 (IntKind.i64.wrap (z0t_5 + 1)) _ H _ rfl Q τ b1 hE hR _ _  S hF
    · refine go ?_
      exact hE () (pur H).symm _ _  S hF
theorem spec_l1Count_ok : ∀ (a0 : Fm) r, spec_l1Count a0 = some r → PCtr Tryd.prog 94 [.agg (Fm.cells a0)] (.int .i64 r) := by
  refine spec_l1Count.partial_correctness  (motive_1 := fun a0 r => PCtr Tryd.prog 94 [.agg (Fm.cells a0)] (.int .i64 r)) (motive_2 := fun a0 z0t_3 z0t_4 out => ∀ c, loopAt Tryd.f94 0 = some c → ∀ (Q : AX → AS → Prop) (τ : Sto) (b1 : Nat), (∀ (e0t_3 : Int), out = e0t_3 → ∀ (T : Nat → AV) (σ : Sto), T 2 = .int .i64 0 ∧ T 3 = .int .i64 e0t_3 → Fx τ σ [(b1, ⟨30, 5, [.int .i64 a0.kind, .str a0.name, .int .i64 a0.num, .sl false (rws cI a0.sc), .sl false (rws Fm.cells a0.kids)]⟩)] [] → Q (.ex 0) ⟨T, σ⟩) → True → ∀ (T : Nat → AV) (σ : Sto), T 1 = .ptr b1 0 ∧ T 2 = .int .i64 0 ∧ T 3 = .int .i64 z0t_3 ∧ T 4 = .int .i64 z0t_4 → Fx τ σ [(b1, ⟨30, 5, [.int .i64 a0.kind, .str a0.name, .int .i64 a0.num, .sl false (rws cI a0.sc), .sl false (rws Fm.cells a0.kids)]⟩)] [] → aLoop (acode Tryd.prog c) Q ⟨T, σ⟩) ?_ ?_
  · intro spec_l1Count_l0 L0 a0 r H
    intro σ
    refine ctr_of mixed Tryd.func94 rfl (by kernel_rfl) (rs := [.tmp 2]) rfl (by kernel_rfl) ?_
    have hF := Fx.refl σ
    have hX := Tau.none σ
    have q := dum
    have tT := dum
    refine go ?_
    refine fx_alloc hF rfl fun b1 σ2 hF => ?_
    refine go ?_
    obtain ⟨o3, ho3, H⟩ := bnd H
    refine L0 a0 1 0 _ ho3 _ rfl _ _ b1 ?_ ?_ _ _  S hF
    · intro e4t_3 he T5 σ6 tT hF
      have he := he.symm
      subst he
      refine go ?_
      have e := pur H; subst e
      exact rt [.int .i64 e4t_3]
    · trivial
  · intro spec_l1Count spec_l1Count_l0 C0 L0 a0 z0t_3 z0t_4 out H c hc Q τ b1 hE hR T σ tT hF
    obtain rfl := Option.some.inj ((rfl : loopAt Tryd.f94 0 = some _).symm.trans hc)
    refine aLoop_round ?_
    have q := dum
    have hX := Tau.none τ
    refine go ?_
    refine cdp H (fun h H => ?_) (fun h H => ?_)
    · obtain ⟨x16, f1, H⟩ := bil (g := Fm.cells) Fm.cells_len H
      refine go1 ?_
      obtain ⟨x18, hx18, H⟩ := bnd H
      refine cl (C0 x16 _ hx18) ?_
      refine go ?_
      exact L0 a0 (IntKind.i64.wrap (z0t_3 + x18)) (IntKind.i64.wrap (z0t_4 + 1)) _ H _ rfl Q τ b1 hE hR _ _  S hF
    · refine go ?_
      exact hE _ (pur H).symm _ _  S hF
theorem spec_FormValid_ok : ∀ (a0 : Fm) r, spec_FormValid a0 = some r → PCtr Tryd.prog 81 [.agg (Fm.cells a0)] (.bool r) := by
  intro a0 r H
  intro σ
  unfold spec_FormValid at H
  refine ctr_of mixed Tryd.func81 rfl (by kernel_rfl) (rs := [.tmp 2]) rfl (by kernel_rfl) ?_
  have hF := Fx.refl σ
  have hX := Tau.none σ
  have q := dum
  have tT := dum
  refine go ?_
  refine fx_alloc hF rfl fun b1 σ2 hF => ?_
  refine go ?_
  obtain ⟨x4, hx4, H⟩ := bnd H
  refine cl (spec_l1Is_ok a0 40 _ hx4) ?_
  refine go ?_
  obtain ⟨x9, g3, H⟩ := bnd H
  refine aGd_cutN 3 6 9 (.bool x9) (gi q (fun q => ?_) (fun q => ?_)) (fun J => ?_)
  · rw [if_pos (dbt q)] at g3
    refine go ?_
    obtain ⟨x7, hx7, g3⟩ := bnd g3
    refine cl (spec_l1Count_ok a0 _ hx7) ?_
    refine go ?_
    exact cutd 6 g3
  · rw [if_neg (dbf q)] at g3
    refine go ?_
    exact cutd 6 g3
  refine go ?_
  have e := pur H; subst e
  exact rt [.bool x9]
theorem spec_l15Dec_l0_ok : ∀ (z0t_0 : Int) (z0t_3 : ByteArray) out, spec_l15Dec_l0 z0t_0 z0t_3 = some out → ∀ c, loopAt Tryd.f34 0 = some c → ∀ (Q : AX → AS → Prop) (τ : Sto), (∀ (e0t_0 : Int) (e0t_3 : ByteArray), out = (e0t_0, e0t_3) → ∀ (T : Nat → AV) (σ : Sto), T 0 = .int .i64 e0t_0 ∧ T 2 = .str (ByteArray.mk #[]) ∧ T 3 = .str e0t_3 → Fx τ σ [] [] → Q (.ex 0) ⟨T, σ⟩) → True → ∀ (T : Nat → AV) (σ : Sto), T 0 = .int .i64 z0t_0 ∧ T 2 = .str (ByteArray.mk #[]) ∧ T 3 = .str z0t_3 → Fx τ σ [] [] → aLoop (acode Tryd.prog c) Q ⟨T, σ⟩ := by
  refine spec_l15Dec_l0.partial_correctness  _ ?_
  intro spec_l15Dec_l0 IH z0t_0 z0t_3 out H c hc Q τ  hE hR T σ tT hF
  obtain rfl := Option.some.inj ((rfl : loopAt Tryd.f34 0 = some _).symm.trans hc)
  refine aLoop_round ?_
  have q := dum
  have hX := Tau.none τ
  refine go ?_
  refine cdp H (fun h H => ?_) (fun h H => ?_)
  · obtain ⟨x21, f1, H⟩ := bsc H
    refine go1 ?_
    refine go ?_
    exact IH  (IntKind.i64.wrap (z0t_0.tdiv 10)) x21 _ H _ rfl Q τ  hE hR _ _  S hF
  · refine go ?_
    exact hE _ _ (pur H).symm _ _  S hF
theorem spec_l15Dec_ok : ∀ (a0 : Int) r, spec_l15Dec a0 = some r → PCtr Tryd.prog 34 [.int .i64 a0] (.str r) := by
  refine spec_l15Dec.partial_correctness  (motive := fun a0 r => PCtr Tryd.prog 34 [.int .i64 a0] (.str r)) ?_
  · intro spec_l15Dec C0 a0 r H
    intro σ
    refine ctr_of mixed Tryd.func34 rfl (by kernel_rfl) (rs := [.tmp 2]) rfl (by kernel_rfl) ?_
    have hF := Fx.refl σ
    have hX := Tau.none σ
    have q := dum
    have tT := dum
    refine go ?_
    refine cdp H (fun h H => ?_) (fun h H => ?_)
    · refine go ?_
      have e := pur H; subst e
      exact rt [.str (ByteArray.mk #[45, 57, 50, 50, 51, 51, 55, 50, 48, 51, 54, 56, 53, 52, 55, 55, 53, 56, 48, 56])]
    · refine go ?_
      refine cdp H (fun h H => ?_) (fun h H => ?_)
      · refine go ?_
        obtain ⟨x10, hx10, H⟩ := bnd H
        refine cl (C0 (IntKind.i64.wrap (0 - a0)) _ hx10) ?_
        obtain ⟨x11, f1, H⟩ := bsc H
        refine go1 ?_
        refine go ?_
        have e := pur H; subst e
        exact rt [.str x11]
      · refine go ?_
        obtain ⟨o1, ho1, H⟩ := bnd H
        refine spec_l15Dec_l0_ok  a0 (ByteArray.mk #[]) _ ho1 _ rfl _ _  ?_ ?_ _ _  S hF
        · intro e2t_0 e2t_3 he T3 σ4 tT hF
          have he := he.symm
          subst he
          dsimp only at H
          obtain ⟨x30, f1, H⟩ := bsc H
          refine go1 ?_
          refine go ?_
          have e := pur H; subst e
          exact rt [.str x30]
        · trivial
theorem spec_l1Text_l0_ok : ∀ (a0 : Fm) (z0t_3 : ByteArray) (z0t_4 : Int) out, spec_l1Text_l0 a0 z0t_3 z0t_4 = some out → ∀ c, loopAt Tryd.f82 0 = some c → ∀ (Q : AX → AS → Prop) (τ : Sto) (b1 : Nat), (∀ (e0t_3 : ByteArray), out = e0t_3 → ∀ (T : Nat → AV) (σ : Sto), T 1 = .ptr b1 0 ∧ T 2 = .str (ByteArray.mk #[]) ∧ T 3 = .str e0t_3 → Fx τ σ [(b1, ⟨30, 5, [.int .i64 a0.kind, .str a0.name, .int .i64 a0.num, .sl false (rws cI a0.sc), .sl false (rws Fm.cells a0.kids)]⟩)] [] → Q (.ex 0) ⟨T, σ⟩) → True → ∀ (T : Nat → AV) (σ : Sto), T 1 = .ptr b1 0 ∧ T 2 = .str (ByteArray.mk #[]) ∧ T 3 = .str z0t_3 ∧ T 4 = .int .i64 z0t_4 → Fx τ σ [(b1, ⟨30, 5, [.int .i64 a0.kind, .str a0.name, .int .i64 a0.num, .sl false (rws cI a0.sc), .sl false (rws Fm.cells a0.kids)]⟩)] [] → aLoop (acode Tryd.prog c) Q ⟨T, σ⟩ := by
  intro a0 z0t_3 z0t_4
  revert z0t_3 z0t_4
  refine spec_l1Text_l0.partial_correctness a0 _ ?_
  intro spec_l1Text_l0 IH z0t_3 z0t_4 out H c hc Q τ b1 hE hR T σ tT hF
  obtain rfl := Option.some.inj ((rfl : loopAt Tryd.f82 0 = some _).symm.trans hc)
  refine aLoop_round ?_
  have q := dum
  have hX := Tau.none τ
  refine go ?_
  refine cdp H (fun h H => ?_) (fun h H => ?_)
  · refine go ?_
    obtain ⟨y3t_5, j4, H⟩ := bnd H
    refine aCnd_join (fun s' => ∃ (T : Nat → AV) (σ1 : Sto), s' = ⟨T, σ1⟩ ∧ (T 1 = .ptr b1 0 ∧ T 2 = .str (ByteArray.mk #[]) ∧ T 3 = .str z0t_3 ∧ T 4 = .int .i64 z0t_4 ∧ T 5 = .str y3t_5 ∧ T 19 = .int .i64 z0t_4 ∧ T 20 = .ptr b1 3 ∧ T 21 = .sl false (rws cI a0.sc) ∧ T 22 = .int .i64 (a0.sc.length : Int) ∧ T 23 = .bool (decide (z0t_4 < (a0.sc.length : Int))) ∧ T 26 = .int .i64 z0t_4 ∧ T 27 = .bool (decide (z0t_4 = 0))) ∧ Fx τ σ1 [(b1, ⟨30, 5, [.int .i64 a0.kind, .str a0.name, .int .i64 a0.num, .sl false (rws cI a0.sc), .sl false (rws Fm.cells a0.kids)]⟩)] []) (cdp j4 (fun h j4 => ?_) (fun h j4 => ?_)) ?_
    · refine go ?_
      have e := pur j4
      subst e
      exact ⟨_, _, rfl, S, hF⟩
    · refine go ?_
      have e := pur j4
      subst e
      exact ⟨_, _, rfl, S, hF⟩
    · rintro s' ⟨T5, σ6, rfl, tT, hF⟩
      obtain ⟨x30, f1, H⟩ := bsc H
      obtain ⟨x34, f2, H⟩ := bil (g := cI) (fun _ => rfl) H
      refine go2 ?_
      obtain ⟨x36, hx36, H⟩ := bnd H
      refine cl (spec_l15Dec_ok x34 _ hx36) ?_
      obtain ⟨x37, f1, H⟩ := bsc H
      refine go1 ?_
      refine go ?_
      exact IH  x37 (IntKind.i64.wrap (z0t_4 + 1)) _ H _ rfl Q τ b1 hE hR _ _  S hF
  · refine go ?_
    exact hE _ (pur H).symm _ _  S hF
theorem spec_l1Text_ok : ∀ (a0 : Fm) r, spec_l1Text a0 = some r → PCtr Tryd.prog 82 [.agg (Fm.cells a0)] (.str r) := by
  refine spec_l1Text.partial_correctness  (motive_1 := fun a0 r => PCtr Tryd.prog 82 [.agg (Fm.cells a0)] (.str r)) (motive_2 := fun a0 z1t_6 z1t_7 out => ∀ c, loopAt Tryd.f82 1 = some c → ∀ (Q : AX → AS → Prop) (τ : Sto) (b1 : Nat), (∀ (e1t_6 : ByteArray), out = e1t_6 → ∀ (T : Nat → AV) (σ : Sto), T 2 = .str (ByteArray.mk #[]) ∧ T 6 = .str e1t_6 → Fx τ σ [(b1, ⟨30, 5, [.int .i64 a0.kind, .str a0.name, .int .i64 a0.num, .sl false (rws cI a0.sc), .sl false (rws Fm.cells a0.kids)]⟩)] [] → Q (.ex 2) ⟨T, σ⟩) → True → ∀ (T : Nat → AV) (σ : Sto), T 1 = .ptr b1 0 ∧ T 2 = .str (ByteArray.mk #[]) ∧ T 6 = .str z1t_6 ∧ T 7 = .int .i64 z1t_7 → Fx τ σ [(b1, ⟨30, 5, [.int .i64 a0.kind, .str a0.name, .int .i64 a0.num, .sl false (rws cI a0.sc), .sl false (rws Fm.cells a0.kids)]⟩)] [] → aLoop (acode Tryd.prog c) Q ⟨T, σ⟩) ?_ ?_
  · intro spec_l1Text_l1 L0 a0 r H
    intro σ
    refine ctr_of mixed Tryd.func82 rfl (by kernel_rfl) (rs := [.tmp 2]) rfl (by kernel_rfl) ?_
    have hF := Fx.refl σ
    have hX := Tau.none σ
    have q := dum
    have tT := dum
    refine go ?_
    refine fx_alloc hF rfl fun b1 σ2 hF => ?_
    refine go ?_
    refine cdp H (fun h H => ?_) (fun h H => ?_)
    · refine go ?_
      obtain ⟨x13, hx13, H⟩ := bnd H
      refine cl (spec_l15Dec_ok a0.num _ hx13) ?_
      refine go ?_
      have e := pur H; subst e
      exact rt [.str x13]
    · refine go ?_
      refine cdp H (fun h H => ?_) (fun h H => ?_)
      · refine go ?_
        obtain ⟨o8, ho8, H⟩ := bnd H
        refine spec_l1Text_l0_ok a0 a0.name 0 _ ho8 _ rfl _ _ b1 ?_ ?_ _ _  S hF
        · intro e9t_3 he T10 σ11 tT hF
          have he := he.symm
          subst he
          refine go ?_
          refine cdp H (fun h H => ?_) (fun h H => ?_)
          · obtain ⟨x43, f1, H⟩ := bsc H
            refine go1 ?_
            refine go ?_
            have e := pur H; subst e
            exact rt [.str x43]
          · refine go ?_
            have e := pur H; subst e
            exact rt [.str e9t_3]
        · trivial
      · refine go ?_
        obtain ⟨o18, ho18, H⟩ := bnd H
        refine L0 a0 (ByteArray.mk #[40]) 0 _ ho18 _ rfl _ _ b1 ?_ ?_ _ _  S hF
        · intro e19t_6 he T20 σ21 tT hF
          have he := he.symm
          subst he
          obtain ⟨x65, f1, H⟩ := bsc H
          refine go1 ?_
          refine go ?_
          have e := pur H; subst e
          exact rt [.str x65]
        · trivial
  · intro spec_l1Text spec_l1Text_l1 C0 L0 a0 z1t_6 z1t_7 out H c hc Q τ b1 hE hR T σ tT hF
    obtain rfl := Option.some.inj ((rfl : loopAt Tryd.f82 1 = some _).symm.trans hc)
    refine aLoop_round ?_
    have q := dum
    have hX := Tau.none τ
    refine go ?_
    refine cdp H (fun h H => ?_) (fun h H => ?_)
    · refine go ?_
      obtain ⟨y13t_6, j14, H⟩ := bnd H
      refine aCnd_join (fun s' => ∃ (T : Nat → AV) (σ1 : Sto), s' = ⟨T, σ1⟩ ∧ (T 1 = .ptr b1 0 ∧ T 2 = .str (ByteArray.mk #[]) ∧ T 6 = .str y13t_6 ∧ T 7 = .int .i64 z1t_7 ∧ T 45 = .int .i64 z1t_7 ∧ T 46 = .ptr b1 4 ∧ T 47 = .sl false (rws Fm.cells a0.kids) ∧ T 48 = .int .i64 (a0.kids.length : Int) ∧ T 49 = .bool (decide (z1t_7 < (a0.kids.length : Int))) ∧ T 52 = .int .i64 z1t_7 ∧ T 53 = .bool (decide (z1t_7 > 0))) ∧ Fx τ σ1 [(b1, ⟨30, 5, [.int .i64 a0.kind, .str a0.name, .int .i64 a0.num, .sl false (rws cI a0.sc), .sl false (rws Fm.cells a0.kids)]⟩)] []) (cdp j14 (fun h j14 => ?_) (fun h j14 => ?_)) ?_
      · obtain ⟨x55, f1, j14⟩ := bsc j14
        refine go1 ?_
        refine go ?_
        have e := pur j14
        subst e
        exact ⟨_, _, rfl, S, hF⟩
      · refine go ?_
        have e := pur j14
        subst e
        exact ⟨_, _, rfl, S, hF⟩
      · rintro s' ⟨T15, σ16, rfl, tT, hF⟩
        obtain ⟨x60, f1, H⟩ := bil (g := Fm.cells) Fm.cells_len H
        refine go1 ?_
        obtain ⟨x62, hx62, H⟩ := bnd H
        refine cl (C0 x60 _ hx62) ?_
        obtain ⟨x63, f1, H⟩ := bsc H
        refine go1 ?_
        refine go ?_
        exact L0 a0 x63 (IntKind.i64.wrap (z1t_7 + 1)) _ H _ rfl Q τ b1 hE hR _ _  S hF
    · refine go ?_
      exact hE _ (pur H).symm _ _  S hF
theorem spec_FormatForm_ok : ∀ (a0 : Fm) r, spec_FormatForm a0 = some r → PCtr Tryd.prog 53 [.agg (Fm.cells a0)] (.str r) := by
  intro a0 r H
  intro σ
  unfold spec_FormatForm at H
  refine ctr_of mixed Tryd.func53 rfl (by kernel_rfl) (rs := [.tmp 2]) rfl (by kernel_rfl) ?_
  have hF := Fx.refl σ
  have hX := Tau.none σ
  have q := dum
  have tT := dum
  refine go ?_
  refine fx_alloc hF rfl fun b1 σ2 hF => ?_
  refine go ?_
  obtain ⟨x4, hx4, H⟩ := bnd H
  refine cl (spec_FormValid_ok a0 _ hx4) ?_
  refine go ?_
  refine cdb H (fun h H => ?_) (fun h H => ?_)
  · refine go ?_
    have e := pur H; subst e
    exact rt [.str (ByteArray.mk #[])]
  · refine go ?_
    obtain ⟨x7, hx7, H⟩ := bnd H
    refine cl (spec_l1Text_ok a0 _ hx7) ?_
    refine go ?_
    have e := pur H; subst e
    exact rt [.str x7]
theorem spec_StepsText_l0_ok : ∀ (a0 : List Stp) (z0t_3 : ByteArray) (z0t_4 : Int) out, spec_StepsText_l0 a0 z0t_3 z0t_4 = some out → ∀ c, loopAt Tryd.f19 0 = some c → ∀ (Q : AX → AS → Prop) (τ : Sto), (∀ (e0t_3 : ByteArray), out = e0t_3 → ∀ (T : Nat → AV) (σ : Sto), T 2 = .str (ByteArray.mk #[]) ∧ T 3 = .str e0t_3 → Fx τ σ [] [] → Q (.ex 0) ⟨T, σ⟩) → True → ∀ (T : Nat → AV) (σ : Sto), T 0 = .sl false (rws Stp.cells a0) ∧ T 2 = .str (ByteArray.mk #[]) ∧ T 3 = .str z0t_3 ∧ T 4 = .int .i64 z0t_4 → Fx τ σ [] [] → aLoop (acode Tryd.prog c) Q ⟨T, σ⟩ := by
  intro a0 z0t_3 z0t_4
  revert z0t_3 z0t_4
  refine spec_StepsText_l0.partial_correctness a0 _ ?_
  intro spec_StepsText_l0 IH z0t_3 z0t_4 out H c hc Q τ  hE hR T σ tT hF
  obtain rfl := Option.some.inj ((rfl : loopAt Tryd.f19 0 = some _).symm.trans hc)
  refine aLoop_round ?_
  have q := dum
  have hX := Tau.none τ
  refine go ?_
  refine cdp H (fun h H => ?_) (fun h H => ?_)
  · refine go ?_
    refine draw_text E0 [.v, .v, .v, .v, .v, .v, .v, .v, .v, .v, .v, .v, .v, .v, .v, .v, .v, .v, .v, .v] (by kernel_rfl) ?_
    obtain ⟨x14, f1, H⟩ := bil (g := Stp.cells) Stp.cells_len H
    refine go1 ?_
    obtain ⟨x17, hx17, H⟩ := bnd H
    refine cv (spec_StripForm_ok x14.use _ hx17) ?_
    refine go ?_
    obtain ⟨x18, hx18, H⟩ := bnd H
    refine cv (spec_FormatForm_ok x17 _ hx18) ?_
    obtain ⟨x19, f1, H⟩ := bsc H
    obtain ⟨x20, f2, H⟩ := bsc H
    obtain ⟨x23, f3, H⟩ := bil (g := Stp.cells) Stp.cells_len H
    refine go3 ?_
    obtain ⟨x26, hx26, H⟩ := bnd H
    refine cv (spec_StripForm_ok x23.res _ hx26) ?_
    refine go ?_
    obtain ⟨x27, hx27, H⟩ := bnd H
    refine cv (spec_FormatForm_ok x26 _ hx27) ?_
    obtain ⟨x28, f1, H⟩ := bsc H
    obtain ⟨x29, f2, H⟩ := bsc H
    refine go2 ?_
    refine go ?_
    exact IH  x29 (IntKind.i64.wrap (z0t_4 + 1)) _ H _ rfl Q τ  hE hR _ _  S hF
  · refine go ?_
    exact hE _ (pur H).symm _ _  S hF
theorem spec_StepsText_ok : ∀ (a0 : List Stp) r, spec_StepsText a0 = some r → PCtr Tryd.prog 19 [.sl false (rws Stp.cells a0)] (.str r) := by
  intro a0 r H
  intro σ
  unfold spec_StepsText at H
  refine ctr_of mixed Tryd.func19 rfl (by kernel_rfl) (rs := [.tmp 2]) rfl (by kernel_rfl) ?_
  have hF := Fx.refl σ
  have hX := Tau.none σ
  have q := dum
  have tT := dum
  refine go ?_
  obtain ⟨o1, ho1, H⟩ := bnd H
  refine spec_StepsText_l0_ok a0 (ByteArray.mk #[]) 0 _ ho1 _ rfl _ _  ?_ ?_ _ _  S hF
  · intro e2t_3 he T3 σ4 tT hF
    have he := he.symm
    subst he
    refine go ?_
    have e := pur H; subst e
    exact rt [.str e2t_3]
  · trivial
theorem impl_StripForm_ok : ∀ (a0 : Fm) r, impl_StripForm a0 = some r → PCtr Tryd.prog 57 [.agg (Fm.cells a0)] (.agg (Fm.cells r)) := by
  refine impl_StripForm.partial_correctness  (motive_1 := fun a0 r => PCtr Tryd.prog 57 [.agg (Fm.cells a0)] (.agg (Fm.cells r))) (motive_2 := fun a0 z0o_0 z0t_16 out => ∀ c, loopAt Tryd.f57 0 = some c → ∀ (Q : AX → AS → Prop) (τ : Sto) (b1 : Nat) (b3 : Nat) (b5 : Nat), (∀ (e0o_0 : List Fm), out = e0o_0 → ∀ (T : Nat → AV) (σ : Sto) (e0v0 : AV), T 2 = .ptr b3 0 ∧ T 3 = .ptr b5 0 → Fx τ σ [(b5, ⟨30, 5, [.int .i64 a0.kind, .str a0.name, .int .i64 a0.num, .nilsl, e0v0]⟩), (b3, ⟨30, 5, [.int .i64 0, .str (ByteArray.mk #[]), .int .i64 0, .nilsl, .nilsl]⟩), (b1, ⟨30, 5, [.int .i64 a0.kind, .str a0.name, .int .i64 a0.num, .sl false (rws cI a0.sc), .sl false (rws Fm.cells a0.kids)]⟩)] [⟨e0v0, 30, 5, rws Fm.cells e0o_0⟩] → Q (.ex 0) ⟨T, σ⟩) → True → ∀ (T : Nat → AV) (σ : Sto) (z0v0 : AV), T 2 = .ptr b3 0 ∧ T 3 = .ptr b5 0 ∧ T 14 = .sl false (rws Fm.cells a0.kids) ∧ T 15 = .int .i64 (a0.kids.length : Int) ∧ T 16 = .int .i64 z0t_16 → Fx τ σ [(b5, ⟨30, 5, [.int .i64 a0.kind, .str a0.name, .int .i64 a0.num, .nilsl, z0v0]⟩), (b3, ⟨30, 5, [.int .i64 0, .str (ByteArray.mk #[]), .int .i64 0, .nilsl, .nilsl]⟩), (b1, ⟨30, 5, [.int .i64 a0.kind, .str a0.name, .int .i64 a0.num, .sl false (rws cI a0.sc), .sl false (rws Fm.cells a0.kids)]⟩)] [⟨z0v0, 30, 5, rws Fm.cells z0o_0⟩] → aLoop (acode Tryd.prog c) Q ⟨T, σ⟩) ?_ ?_
  · intro impl_StripForm_l0 L0 a0 r H
    intro σ
    refine ctr_of mixed Tryd.func57 rfl (by kernel_rfl) (rs := [.cell 2 30]) rfl (by kernel_rfl) ?_
    have hF := Fx.refl σ
    have hX := Tau.none σ
    have q := dum
    have tT := dum
    refine go ?_
    refine fx_alloc hF rfl fun b1 σ2 hF => ?_
    refine go ?_
    refine fx_alloc hF rfl fun b3 σ4 hF => ?_
    refine go ?_
    refine fx_alloc hF rfl fun b5 σ6 hF => ?_
    refine go ?_
    refine st hF 0 rfl fun σ7 hF => ?_
    have hF := hF.nil 30 5
    refine go ?_
    obtain ⟨o14, ho14, H⟩ := bnd H
    refine L0 a0 [] 0 _ ho14 _ rfl _ _ b1 b3 b5 ?_ ?_ _ _ .nilsl S hF
    · intro e15o_0 he T16 σ17 e15v0 tT hF
      have he := he.symm
      subst he
      refine go ?_
      refine st hF 1 rfl fun σ19 hF => ?_
      refine go ?_
      have e := pur H; subst e
      exact rt [.agg [.int .i64 a0.kind, .str a0.name, .int .i64 a0.num, .nilsl, e15v0]]
    · trivial
  · intro impl_StripForm impl_StripForm_l0 C0 L0 a0 z0o_0 z0t_16 out H c hc Q τ b1 b3 b5 hE hR T σ z0v0 tT hF
    obtain rfl := Option.some.inj ((rfl : loopAt Tryd.f57 0 = some _).symm.trans hc)
    refine aLoop_round ?_
    have q := dum
    have hX := Tau.none τ
    refine go ?_
    refine cdp H (fun h H => ?_) (fun h H => ?_)
    · obtain ⟨x18, f1, H⟩ := bil (g := Fm.cells) Fm.cells_len H
      refine go1 ?_
      refine fx_alloc hF rfl fun b8 σ9 hF => ?_
      refine go ?_
      refine st hF 0 rfl fun σ10 hF => ?_
      refine go ?_
      refine draw_text E0 [.v, .v, .v, .v, .v, .x, .v, .z] (by kernel_rfl) ?_
      refine go ?_
      obtain ⟨x23, hx23, H⟩ := bnd H
      refine cv (C0 x18 _ hx23) ?_
      refine go ?_
      refine apdK (g := Fm.cells) hF 0 H (rdo (c := true) (g := Fm.cells) Fm.cells_len) fun x25 H v11 σ12 hF => ?_
      refine go ?_
      refine st hF 1 (hF.cells 0 rfl) fun σ13 hF => ?_
      refine go ?_
      exact L0 a0 x25 (IntKind.i64.wrap (z0t_16 + 1)) _ H _ rfl Q τ b1 b3 b5 hE hR _ _ v11 S (hF.drop 1 0)
    · refine go ?_
      exact hE _ (pur H).symm _ _ z0v0 S hF
set_option maxHeartbeats 1000000 in
set_option maxRecDepth 100000 in
theorem ib_lite (s : ByteArray) (c : Int) (w : World) :
    Calls Tryd.prog 88 #[.string s, .int .u8 c] w fun e w' => e = .returned (.int .i64 (Lib.indexByte s.data.toList c.toNat.toUInt8)) ∧ w' = w := by
  go_enter Tryd.func88, Tryd.ntmps88
  go_wp2
  rw [run_callFunc_extern Tryd.func99 (by kernel_rfl) (by kernel_rfl) (by kernel_rfl) (e := Extern.BytealgIndexByte.indexByte) (by kernel_rfl), Lib.run_indexByteString]
  simp only [Result.andThen]
  rw [Oper.upon_value]
  go_wp2
  go_ret
  exact ⟨rfl, rfl⟩
set_option maxHeartbeats 1000000 in
theorem ib_str (s : ByteArray) (c : Int) (w : World) :
    Calls Tryd.prog 69 #[.string s, .int .u8 c] w fun e w' => e = .returned (.int .i64 (Lib.indexByte s.data.toList c.toNat.toUInt8)) ∧ w' = w := by
  go_enter Tryd.func69, Tryd.ntmps69
  go_wp2_with (go_at_call 88; refine (ib_lite _ _ _).mono ?_; rintro e w' ⟨rfl, rfl⟩)
  go_ret
  exact ⟨rfl, rfl⟩
theorem ib_ctr {P : Program} {f : FuncId} {fn : Func} (hf : P.funcs[f]? = some fn) (hb : fn.body.isNone = false) (hn : (fn.name == "runtime.NumGoroutine") = false) {s : ByteArray} {c r : Int}
    (h : ∀ w, Calls P f #[.string s, .int .u8 c] w fun e w' => e = .returned (.int .i64 r) ∧ w' = w) : PCtr P f [.str s, .int .u8 c] (.int .i64 r) := by
  intro σ
  refine ⟨⟨fn, hf, hb, hn⟩, fun w cargs hsim htb hl hr => ?_⟩
  have h0 := hr 0 _ rfl
  have h1 := hr 1 _ rfl
  match cargs, hl with
  | [x, y], _ =>
    simp only [List.getD_cons_zero, List.getD_cons_succ] at h0 h1
    cases h0
    cases h1
    refine (h w).mono ?_
    rintro e w' ⟨rfl, rfl⟩
    exact ⟨_, _, σ, rfl, Step.refl _ _, hsim, .int, rfl, rfl⟩
theorem strings_IndexByte_ok : ∀ (a0 : ByteArray) (a1 : Int) r, strings_IndexByte a0 a1 = some r → PCtr Tryd.prog 69 [.str a0, .int .u8 a1] (.int .i64 r) := by
  intro a0 a1 r H
  injection H with H
  subst H
  exact ib_ctr Tryd.func69 (by kernel_rfl) (by kernel_rfl) (ib_str a0 a1)
theorem impl_within_ok : ∀ (a0 : Int) (a1 : Int) (a2 : Int) r, impl_within a0 a1 a2 = some r → PCtr Tryd.prog 70 [.int .i64 a0, .int .i64 a1, .int .i64 a2] (.bool r) := by
  intro a0 a1 a2 r H
  intro σ
  unfold impl_within at H
  refine ctr_of mixed Tryd.func70 rfl (by kernel_rfl) (rs := [.tmp 6]) rfl (by kernel_rfl) ?_
  have hF := Fx.refl σ
  have hX := Tau.none σ
  have q := dum
  have tT := dum
  refine go ?_
  obtain ⟨x14, g1, H⟩ := bnd H
  refine aGd_cutN 3 11 14 (.bool x14) (gi q (fun q => ?_) (fun q => ?_)) (fun J => ?_)
  · refine go ?_
    exact cutd 11 g1
  · refine go ?_
    exact cutd 11 g1
  refine go ?_
  have e := pur H; subst e
  exact rt [.bool x14]
theorem impl_NameValid_l0_ok : ∀ (a0 : ByteArray) (z0t_3 : Int) out, impl_NameValid_l0 a0 z0t_3 = some out → ∀ c, loopAt Tryd.f27 0 = some c → ∀ (Q : AX → AS → Prop) (τ : Sto), (∀ (_u : Unit), out = Sum.inr () → ∀ (T : Nat → AV) (σ : Sto), T 0 = .str a0 ∧ T 2 = .bool false → Fx τ σ [] [] → Q (.ex 0) ⟨T, σ⟩) → (∀ r, out = Sum.inl r → ∀ s', aRet Tryd.prog [.tmp 2] (fun r' σ' => r' = .bool r ∧ σ' = τ) s' → Q .ret s') → ∀ (T : Nat → AV) (σ : Sto), T 0 = .str a0 ∧ T 2 = .bool false ∧ T 3 = .int .i64 z0t_3 → Fx τ σ [] [] → aLoop (acode Tryd.prog c) Q ⟨T, σ⟩ := by
  intro a0 z0t_3
  revert z0t_3
  refine impl_NameValid_l0.partial_correctness a0 _ ?_
  intro impl_NameValid_l0 IH z0t_3 out H c hc Q τ  hE hR T σ tT hF
  obtain rfl := Option.some.inj ((rfl : loopAt Tryd.f27 0 = some _).symm.trans hc)
  refine aLoop_round ?_
  have q := dum
  have hX := Tau.none τ
  refine go ?_
  refine cdp H (fun h H => ?_) (fun h H => ?_)
  · obtain ⟨x19, f1, H⟩ := bsx H
    refine go1 ?_
    refine go ?_
    obtain ⟨x26, g3, H⟩ := bnd H
    refine aGd_cutN 2 24 26 (.bool x26) (gi q (fun q => ?_) (fun q => ?_)) (fun J => ?_)
    · refine go ?_
      exact cutd 24 g3
    · refine go ?_
      exact cutd 24 g3
    refine go ?_
    obtain ⟨x31, g5, H⟩ := bnd H
    refine aGd_cutN 3 28 31 (.bool x31) (giN q (fun q => ?_) (fun q => ?_)) (fun J => ?_)
    · rw [if_neg (dbf q)] at g5
      refine go ?_
      obtain ⟨x29, hx29, g5⟩ := bnd g5
      refine cl (strings_IndexByte_ok (ByteArray.mk #[42, 63, 61, 43, 60]) x19 _ hx29) ?_
      refine go ?_
      exact cutd 28 g5
    · rw [if_pos (dbt q)] at g5
      refine go ?_
      exact cutd 28 g5
    refine go ?_
    refine cdb H (fun h H => ?_) (fun h H => ?_)
    · refine go ?_
      exact IH  (IntKind.i64.wrap (z0t_3 + 1)) _ H _ rfl Q τ  hE hR _ _  S hF
    · refine go ?_
      obtain ⟨x46, g7, H⟩ := bnd H
      refine aGd_cutN 10 36 46 (.bool x46) (gi q (fun q => ?_) (fun q => ?_)) (fun J => ?_)
      · rw [if_pos (dt q)] at g7
        refine go ?_
        obtain ⟨x41, g9, g7⟩ := bnd g7
        refine aGd_cutN 2 39 41 (.bool x41) (gi q (fun q => ?_) (fun q => ?_)) (fun J => ?_)
        · refine go ?_
          exact cutd 39 g9
        · refine go ?_
          exact cutd 39 g9
        refine go ?_
        obtain ⟨x45, g11, g7⟩ := bnd g7
        refine aGd_cutN 2 43 45 (.bool x45) (giN q (fun q => ?_) (fun q => ?_)) (fun J => ?_)
        · refine go ?_
          exact cutd 43 g11
        · refine go ?_
          exact cutd 43 g11
        refine go ?_
        exact cutd 36 g7
      · rw [if_neg (df q)] at g7
        refine go ?_
        exact cutd 36 g7
      refine go ?_
      refine cdb H (fun h H => ?_) (fun h H => ?_)
      · refine go ?_
        exact IH  (IntKind.i64.wrap (z0t_3 + 1)) _ H _ rfl Q τ  hE hR _ _  S hF
      · refine go ?_
        exact hR _ (pur H).symm _ (rt [.bool false])
  · refine go ?_
    exact hE () (pur H).symm _ _  S hF
theorem impl_NameValid_ok : ∀ (a0 : ByteArray) r, impl_NameValid a0 = some r → PCtr Tryd.prog 27 [.str a0] (.bool r) := by
  intro a0 r H
  intro σ
  unfold impl_NameValid at H
  refine ctr_of mixed Tryd.func27 rfl (by kernel_rfl) (rs := [.tmp 2]) rfl (by kernel_rfl) ?_
  have hF := Fx.refl σ
  have hX := Tau.none σ
  have q := dum
  have tT := dum
  refine go ?_
  obtain ⟨x10, g1, H⟩ := bnd H
  refine aGd_cutN 2 8 10 (.bool x10) (giN q (fun q => ?_) (fun q => ?_)) (fun J => ?_)
  · refine go ?_
    exact cutd 8 g1
  · refine go ?_
    exact cutd 8 g1
  refine go ?_
  refine cdb H (fun h H => ?_) (fun h H => ?_)
  · refine go ?_
    have e := pur H; subst e
    exact rt [.bool true]
  · refine go ?_
    obtain ⟨o13, ho13, H⟩ := bnd H
    refine impl_NameValid_l0_ok a0 0 _ ho13 _ rfl _ _  ?_ ?_ _ _  S hF
    · intro _ he T15 σ16 tT hF
      have he := he.symm
      subst he
      dsimp only at H
      refine go ?_
      obtain ⟨x49, hx49, H⟩ := bnd H
      refine cl (impl_within_ok (a0.size : Int) 1 12 _ hx49) ?_
      refine go ?_
      have e := pur H; subst e
      exact rt [.bool x49]
    · intro r hr s' hs
      subst hr
      have e := pur H; subst e
      first | exact hs | (try simp only [Fm.cells_eq] at hs ⊢; exact hs)
theorem impl_scopesOk_l0_ok : ∀ (a0 : List Int) (z0t_7 : Int) out, impl_scopesOk_l0 a0 z0t_7 = some out → ∀ c, loopAt Tryd.f108 0 = some c → ∀ (Q : AX → AS → Prop) (τ : Sto), (∀ (_u : Unit), out = Sum.inr () → ∀ (T : Nat → AV) (σ : Sto), T 0 = .sl false (rws cI a0) ∧ T 2 = .bool false → Fx τ σ [] [] → Q (.ex 0) ⟨T, σ⟩) → (∀ r, out = Sum.inl r → ∀ s', aRet Tryd.prog [.tmp 2] (fun r' σ' => r' = .bool r ∧ σ' = τ) s' → Q .ret s') → ∀ (T : Nat → AV) (σ : Sto), T 0 = .sl false (rws cI a0) ∧ T 2 = .bool false ∧ T 5 = .sl false (rws cI a0) ∧ T 6 = .int .i64 (a0.length : Int) ∧ T 7 = .int .i64 z0t_7 → Fx τ σ [] [] → aLoop (acode Tryd.prog c) Q ⟨T, σ⟩ := by
  intro a0 z0t_7
  revert z0t_7
  refine impl_scopesOk_l0.partial_correctness a0 _ ?_
  intro impl_scopesOk_l0 IH z0t_7 out H c hc Q τ  hE hR T σ tT hF
  obtain rfl := Option.some.inj ((rfl : loopAt Tryd.f108 0 = some _).symm.trans hc)
  refine aLoop_round ?_
  have q := dum
  have hX := Tau.none τ
  refine go ?_
  refine cdp H (fun h H => ?_) (fun h H => ?_)
  · obtain ⟨x10, f1, H⟩ := bil (g := cI) (fun _ => rfl) H
    refine go1 ?_
    refine go ?_
    obtain ⟨x13, hx13, H⟩ := bnd H
    refine cl (impl_within_ok x10 1 99 _ hx13) ?_
    refine go ?_
    obtain ⟨x27, g1, H⟩ := bnd H
    refine aGd_cutN 11 16 27 (.bool x27) (giN q (fun q => ?_) (fun q => ?_)) (fun J => ?_)
    · rw [if_neg (dbf q)] at g1
      refine go ?_
      obtain ⟨x26, g3, g1⟩ := bnd g1
      refine aGd_cutN 7 19 26 (.bool x26) (gi q (fun q => ?_) (fun q => ?_)) (fun J => ?_)
      · rw [if_pos (dt q)] at g3
        obtain ⟨x22, f1, g3⟩ := bil (g := cI) (fun _ => rfl) g3
        refine go1 ?_
        refine go ?_
        exact cutd 19 g3
      · rw [if_neg (df q)] at g3
        refine go ?_
        exact cutd 19 g3
      refine go ?_
      exact cutd 16 g1
    · rw [if_pos (dbt q)] at g1
      refine go ?_
      exact cutd 16 g1
    refine go ?_
    refine cdb H (fun h H => ?_) (fun h H => ?_)
    · refine go ?_
      exact hR _ (pur H).symm _ (rt [.bool false])
    · refine go ?_
      exact IH  (IntKind.i64.wrap (z0t_7 + 1)) _ H _ rfl Q τ  hE hR _ _  S hF
  · refine go ?_
    exact hE () (pur H).symm _ _  S hF
theorem impl_scopesOk_ok : ∀ (a0 : List Int) r, impl_scopesOk a0 = some r → PCtr Tryd.prog 108 [.sl false (rws cI a0)] (.bool r) := by
  intro a0 r H
  intro σ
  unfold impl_scopesOk at H
  refine ctr_of mixed Tryd.func108 rfl (by kernel_rfl) (rs := [.tmp 2]) rfl (by kernel_rfl) ?_
  have hF := Fx.refl σ
  have hX := Tau.none σ
  have q := dum
  have tT := dum
  refine go ?_
  obtain ⟨o5, ho5, H⟩ := bnd H
  refine impl_scopesOk_l0_ok a0 0 _ ho5 _ rfl _ _  ?_ ?_ _ _  S hF
  · intro _ he T7 σ8 tT hF
    have he := he.symm
    subst he
    dsimp only at H
    refine go ?_
    have e := pur H; subst e
    exact rt [.bool (decide ((a0.length : Int) ≤ 24))]
  · intro r hr s' hs
    subst hr
    have e := pur H; subst e
    first | exact hs | (try simp only [Fm.cells_eq] at hs ⊢; exact hs)
theorem impl_formOk_ok : ∀ (a0 : Fm) (a1 : Int) (c0 : Int) r, impl_formOk a0 a1 c0 = some r → ∀ (e0 : Nat)  (σ : Sto), Pre σ [(e0, ⟨3, 1, [.int .i64 c0]⟩)] [] → Ctr Tryd.prog 95 [.agg (Fm.cells a0), .int .i64 a1, .ptr e0 0] σ (fun r' σ' => ∃ (τ' : Sto), r' = .bool r.1 ∧ Tau (strip σ []) [(e0, ⟨3, 1, [.int .i64 r.2]⟩)] τ' ∧ Fx τ' σ' [] []) := by
  refine impl_formOk.partial_correctness  (motive_1 := fun a0 a1 c0 r => ∀ (e0 : Nat)  (σ : Sto), Pre σ [(e0, ⟨3, 1, [.int .i64 c0]⟩)] [] → Ctr Tryd.prog 95 [.agg (Fm.cells a0), .int .i64 a1, .ptr e0 0] σ (fun r' σ' => ∃ (τ' : Sto), r' = .bool r.1 ∧ Tau (strip σ []) [(e0, ⟨3, 1, [.int .i64 r.2]⟩)] τ' ∧ Fx τ' σ' [] [])) (motive_2 := fun a0 a1 z0t_86 z0x_0_0 out => ∀ c, loopAt Tryd.f95 0 = some c → ∀ (Q : AX → AS → Prop) (τ0 : Sto) (e0 : Nat) (b1 : Nat), (∀ (e0x_0_0 : Int), out = Sum.inr e0x_0_0 → ∀ (T : Nat → AV) (σ : Sto) (τ : Sto), T 6 = .bool false → Tau τ0 [(e0, ⟨3, 1, [.int .i64 e0x_0_0]⟩)] τ → Fx τ σ [(b1, ⟨30, 5, [.int .i64 a0.kind, .str a0.name, .int .i64 a0.num, .sl false (rws cI a0.sc), .sl false (rws Fm.cells a0.kids)]⟩)] [] → Q (.ex 1) ⟨T, σ⟩) → (∀ r, out = Sum.inl r → ∀ s', aRet Tryd.prog [.tmp 6] (fun r' σ' => ∃ (τ' : Sto), r' = .bool r.1 ∧ Tau τ0 [(e0, ⟨3, 1, [.int .i64 r.2]⟩)] τ' ∧ Fx τ' σ' [] []) s' → Q .ret s') → ∀ (T : Nat → AV) (σ : Sto) (τ : Sto), T 1 = .int .i64 a1 ∧ T 2 = .ptr e0 0 ∧ T 6 = .bool false ∧ T 84 = .sl false (rws Fm.cells a0.kids) ∧ T 85 = .int .i64 (a0.kids.length : Int) ∧ T 86 = .int .i64 z0t_86 → Tau τ0 [(e0, ⟨3, 1, [.int .i64 z0x_0_0]⟩)] τ → Fx τ σ [(b1, ⟨30, 5, [.int .i64 a0.kind, .str a0.name, .int .i64 a0.num, .sl false (rws cI a0.sc), .sl false (rws Fm.cells a0.kids)]⟩)] [] → aLoop (acode Tryd.prog c) Q ⟨T, σ⟩) ?_ ?_
  · intro impl_formOk_l0 L0 a0 a1 c0 r H
    intro e0  σ hP
    refine ctr_of mixed Tryd.func95 rfl (by kernel_rfl) (rs := [.tmp 6]) rfl (by kernel_rfl) ?_
    obtain ⟨hF, hX⟩ := hP.start
    generalize strip σ [] = τ0 at hF hX ⊢
    have q := dum
    have tT := dum
    refine go ?_
    refine fx_alloc hF rfl fun b1 σ2 hF => ?_
    refine go ?_
    refine stT hF hX 0 rfl fun τ4 σ3 hF hX => ?_
    refine go ?_
    obtain ⟨x21, g5, H⟩ := bnd H
    refine aGd_cutN 2 19 21 (.bool x21) (giN q (fun q => ?_) (fun q => ?_)) (fun J => ?_)
    · refine go ?_
      exact cutd 19 g5
    · refine go ?_
      exact cutd 19 g5
    refine go ?_
    refine cdb H (fun h H => ?_) (fun h H => ?_)
    · refine go ?_
      have e := pur H; subst e
      exact rg [.bool false] ⟨_, rfl, hX, Fx.self _⟩
    · refine go ?_
      refine cdp H (fun h H => ?_) (fun h H => ?_)
      · refine go ?_
        obtain ⟨x28, hx28, H⟩ := bnd H
        refine cl (impl_NameValid_ok a0.name _ hx28) ?_
        refine go ?_
        obtain ⟨x33, g7, H⟩ := bnd H
        refine aGd_cutN 3 30 33 (.bool x33) (gi q (fun q => ?_) (fun q => ?_)) (fun J => ?_)
        · refine go ?_
          exact cutd 30 g7
        · refine go ?_
          exact cutd 30 g7
        refine go ?_
        obtain ⟨x38, g9, H⟩ := bnd H
        refine aGd_cutN 3 35 38 (.bool x38) (gi q (fun q => ?_) (fun q => ?_)) (fun J => ?_)
        · rw [if_pos (dbt q)] at g9
          refine go ?_
          obtain ⟨x37, hx37, g9⟩ := bnd g9
          refine cl (impl_scopesOk_ok a0.sc _ hx37) ?_
          refine go ?_
          exact cutd 35 g9
        · rw [if_neg (dbf q)] at g9
          refine go ?_
          exact cutd 35 g9
        refine go ?_
        obtain ⟨x44, g11, H⟩ := bnd H
        refine aGd_cutN 4 40 44 (.bool x44) (gi q (fun q => ?_) (fun q => ?_)) (fun J => ?_)
        · refine go ?_
          exact cutd 40 g11
        · refine go ?_
          exact cutd 40 g11
        refine go ?_
        have e := pur H; subst e
        exact rg [.bool x44] ⟨_, rfl, hX, Fx.self _⟩
      · refine go ?_
        refine cdp H (fun h H => ?_) (fun h H => ?_)
        · refine go ?_
          obtain ⟨x54, g13, H⟩ := bnd H
          refine aGd_cutN 3 51 54 (.bool x54) (gi q (fun q => ?_) (fun q => ?_)) (fun J => ?_)
          · rw [if_pos (dt q)] at g13
            refine go ?_
            obtain ⟨x53, hx53, g13⟩ := bnd g13
            refine cl (impl_within_ok a0.num 0 999 _ hx53) ?_
            refine go ?_
            exact cutd 51 g13
          · rw [if_neg (df q)] at g13
            refine go ?_
            exact cutd 51 g13
          refine go ?_
          obtain ⟨x60, g15, H⟩ := bnd H
          refine aGd_cutN 4 56 60 (.bool x60) (gi q (fun q => ?_) (fun q => ?_)) (fun J => ?_)
          · refine go ?_
            exact cutd 56 g15
          · refine go ?_
            exact cutd 56 g15
          refine go ?_
          obtain ⟨x66, g17, H⟩ := bnd H
          refine aGd_cutN 4 62 66 (.bool x66) (gi q (fun q => ?_) (fun q => ?_)) (fun J => ?_)
          · refine go ?_
            exact cutd 62 g17
          · refine go ?_
            exact cutd 62 g17
          refine go ?_
          have e := pur H; subst e
          exact rg [.bool x66] ⟨_, rfl, hX, Fx.self _⟩
        · refine go ?_
          refine cdp H (fun h H => ?_) (fun h H => ?_)
          · refine go ?_
            obtain ⟨x76, g19, H⟩ := bnd H
            refine aGd_cutN 3 73 76 (.bool x76) (giN q (fun q => ?_) (fun q => ?_)) (fun J => ?_)
            · refine go ?_
              exact cutd 73 g19
            · refine go ?_
              exact cutd 73 g19
            refine go ?_
            obtain ⟨x82, g21, H⟩ := bnd H
            refine aGd_cutN 4 78 82 (.bool x82) (giN q (fun q => ?_) (fun q => ?_)) (fun J => ?_)
            · refine go ?_
              exact cutd 78 g21
            · refine go ?_
              exact cutd 78 g21
            refine go ?_
            refine cdb H (fun h H => ?_) (fun h H => ?_)
            · refine go ?_
              have e := pur H; subst e
              exact rg [.bool false] ⟨_, rfl, hX, Fx.self _⟩
            · refine go ?_
              obtain ⟨o29, ho29, H⟩ := bnd H
              refine L0 a0 a1 0 (IntKind.i64.wrap (c0 - 1)) _ ho29 _ rfl _ τ0 e0 b1 ?_ ?_ _ _ _  S hX hF
              · intro e30x_0_0 he T31 σ32 τ33 tT hX hF
                have he := he.symm
                subst he
                dsimp only at H
                refine go ?_
                have e := pur H; subst e
                exact rg [.bool true] ⟨_, rfl, hX, Fx.self _⟩
              · intro r hr s' hs
                subst hr
                have e := pur H; subst e
                first | exact hs | (try simp only [Fm.cells_eq] at hs ⊢; exact hs)
          · refine go ?_
            have e := pur H; subst e
            exact rg [.bool false] ⟨_, rfl, hX, Fx.self _⟩
  · intro impl_formOk impl_formOk_l0 C0 L0 a0 a1 z0t_86 z0x_0_0 out H c hc Q τ0 e0 b1 hE hR T σ τ tT hX hF
    obtain rfl := Option.some.inj ((rfl : loopAt Tryd.f95 0 = some _).symm.trans hc)
    refine aLoop_round ?_
    have q := dum
    refine go ?_
    refine cdp H (fun h H => ?_) (fun h H => ?_)
    · obtain ⟨x88, f1, H⟩ := bil (g := Fm.cells) Fm.cells_len H
      refine go1 ?_
      refine fx_alloc hF rfl fun b23 σ24 hF => ?_
      refine go ?_
      refine st hF 0 rfl fun σ25 hF => ?_
      refine go ?_
      obtain ⟨x94, hx94, H⟩ := bnd H
      refine cx (C0 x88 (IntKind.i64.wrap (a1 + 1)) z0x_0_0 _ hx94 e0  _ (pre 0 1 0 hF hX)) ?_
      rintro _ σ26 ⟨τ27, rfl, hT, hG⟩
      obtain ⟨τ28, hX, hF⟩ := aft 0 1 0 hF hX hT hG
      refine go ?_
      refine cdb H (fun h H => ?_) (fun h H => ?_)
      · refine go ?_
        exact hR _ (pur H).symm _ (rg [.bool false] ⟨_, rfl, hX, Fx.self _⟩)
      · refine go ?_
        exact L0 a0 a1 (IntKind.i64.wrap (z0t_86 + 1)) x94.2 _ H _ rfl Q τ0 e0 b1 hE hR _ _ _  S hX (hF.drop 1 0)
    · refine go ?_
      exact hE _ (pur H).symm _ _ _  S hX hF
theorem impl_FormValid_ok : ∀ (a0 : Fm) r, impl_FormValid a0 = some r → PCtr Tryd.prog 83 [.agg (Fm.cells a0)] (.bool r) := by
  intro a0 r H
  intro σ
  unfold impl_FormValid at H
  refine ctr_of mixed Tryd.func83 rfl (by kernel_rfl) (rs := [.tmp 2]) rfl (by kernel_rfl) ?_
  have hF := Fx.refl σ
  have hX := Tau.none σ
  have q := dum
  have tT := dum
  refine go ?_
  refine fx_alloc hF rfl fun b1 σ2 hF => ?_
  refine go ?_
  refine fx_alloc hF rfl fun b3 σ4 hF => ?_
  refine go ?_
  refine st hF 0 rfl fun σ5 hF => ?_
  refine go ?_
  obtain ⟨x5, hx5, H⟩ := bnd H
  refine cx (impl_formOk_ok a0 1 400 _ hx5 b3  _ (pre 1 0 0 hF hX)) ?_
  rintro _ σ6 ⟨τ7, rfl, hT, hG⟩
  have hF := aftP 1 0 hF hX hT hG
  refine go ?_
  have e := pur H; subst e
  exact rt [.bool x5.1]
theorem strconv_Itoa_ok : ∀ (a0 : Int) r, strconv_Itoa a0 = some r → PCtr Tryd.prog 37 [.int .i64 a0] (.str r) := fun a0 r H =>
  itoa_pctr Tryd.func37 (by kernel_rfl) (by kernel_rfl) (by kernel_rfl) (fun n h0 h1 w ht => Tryd.strconv_Itoa n h0 h1 w ht) H
theorem strings_Join_ok : ∀ (a0 : List ByteArray) (a1 : ByteArray) r, strings_Join a0 a1 = some r → PCtr Tryd.prog 78 [.sl false (rws cS a0), .str a1] (.str r) := fun a0 a1 r H =>
  join_pctr Tryd.func78 (by kernel_rfl) (by kernel_rfl) (fun a c sep w => Tryd.strings_Join_none a c sep w) (fun bk o c xs sep w h1 h2 h3 h4 h5 => Tryd.strings_Join bk o c xs sep w h1 h2 h3 h4 h5) H
theorem impl_formText_l0_ok : ∀ (a0 : Fm) (z0o_0 : List ByteArray) (z0t_23 : Int) out, impl_formText_l0 a0 z0o_0 z0t_23 = some out → ∀ c, loopAt Tryd.f84 0 = some c → ∀ (Q : AX → AS → Prop) (τ : Sto) (b1 : Nat), (∀ (e0o_0 : List ByteArray), out = e0o_0 → ∀ (T : Nat → AV) (σ : Sto) (e0v0 : AV), T 1 = .ptr b1 0 ∧ T 2 = .str (ByteArray.mk #[]) ∧ T 3 = e0v0 → Fx τ σ [(b1, ⟨30, 5, [.int .i64 a0.kind, .str a0.name, .int .i64 a0.num, .sl false (rws cI a0.sc), .sl false (rws Fm.cells a0.kids)]⟩)] [⟨e0v0, 9, 1, rws cS e0o_0⟩] → Q (.ex 1) ⟨T, σ⟩) → True → ∀ (T : Nat → AV) (σ : Sto) (z0v0 : AV), T 1 = .ptr b1 0 ∧ T 2 = .str (ByteArray.mk #[]) ∧ T 3 = z0v0 ∧ T 21 = .sl false (rws cI a0.sc) ∧ T 22 = .int .i64 (a0.sc.length : Int) ∧ T 23 = .int .i64 z0t_23 → Fx τ σ [(b1, ⟨30, 5, [.int .i64 a0.kind, .str a0.name, .int .i64 a0.num, .sl false (rws cI a0.sc), .sl false (rws Fm.cells a0.kids)]⟩)] [⟨z0v0, 9, 1, rws cS z0o_0⟩] → aLoop (acode Tryd.prog c) Q ⟨T, σ⟩ := by
  intro a0 z0o_0 z0t_23
  revert z0o_0 z0t_23
  refine impl_formText_l0.partial_correctness a0 _ ?_
  intro impl_formText_l0 IH z0o_0 z0t_23 out H c hc Q τ b1 hE hR T σ z0v0 tT hF
  obtain rfl := Option.some.inj ((rfl : loopAt Tryd.f84 0 = some _).symm.trans hc)
  refine aLoop_round ?_
  have q := dum
  have hX := Tau.none τ
  refine go ?_
  refine cdp H (fun h H => ?_) (fun h H => ?_)
  · obtain ⟨x25, f1, H⟩ := bil (g := cI) (fun _ => rfl) H
    refine go1 ?_
    refine go ?_
    obtain ⟨x29, hx29, H⟩ := bnd H
    refine cl (strconv_Itoa_ok x25 _ hx29) ?_
    refine go ?_
    refine apd (g := cS) hF 0 H (rdo (c := true) (g := cS) (fun _ => rfl)) fun x31 H v3 σ4 hF => ?_
    refine go ?_
    exact IH  x31 (IntKind.i64.wrap (z0t_23 + 1)) _ H _ rfl Q τ b1 hE hR _ _ v3 S hF
  · refine go ?_
    exact hE _ (pur H).symm _ _ z0v0 S hF
theorem impl_formText_ok : ∀ (a0 : Fm) r, impl_formText a0 = some r → PCtr Tryd.prog 84 [.agg (Fm.cells a0)] (.str r) := by
  refine impl_formText.partial_correctness  (motive_1 := fun a0 r => PCtr Tryd.prog 84 [.agg (Fm.cells a0)] (.str r)) (motive_2 := fun a0 z1o_0 z1t_49 out => ∀ c, loopAt Tryd.f84 1 = some c → ∀ (Q : AX → AS → Prop) (τ : Sto) (b1 : Nat), (∀ (e1o_0 : List ByteArray), out = e1o_0 → ∀ (T : Nat → AV) (σ : Sto) (e1v0 : AV), T 2 = .str (ByteArray.mk #[]) ∧ T 6 = e1v0 → Fx τ σ [(b1, ⟨30, 5, [.int .i64 a0.kind, .str a0.name, .int .i64 a0.num, .sl false (rws cI a0.sc), .sl false (rws Fm.cells a0.kids)]⟩)] [⟨e1v0, 9, 1, rws cS e1o_0⟩] → Q (.ex 3) ⟨T, σ⟩) → True → ∀ (T : Nat → AV) (σ : Sto) (z1v0 : AV), T 2 = .str (ByteArray.mk #[]) ∧ T 6 = z1v0 ∧ T 47 = .sl false (rws Fm.cells a0.kids) ∧ T 48 = .int .i64 (a0.kids.length : Int) ∧ T 49 = .int .i64 z1t_49 → Fx τ σ [(b1, ⟨30, 5, [.int .i64 a0.kind, .str a0.name, .int .i64 a0.num, .sl false (rws cI a0.sc), .sl false (rws Fm.cells a0.kids)]⟩)] [⟨z1v0, 9, 1, rws cS z1o_0⟩] → aLoop (acode Tryd.prog c) Q ⟨T, σ⟩) ?_ ?_
  · intro impl_formText_l1 L0 a0 r H
    intro σ
    refine ctr_of mixed Tryd.func84 rfl (by kernel_rfl) (rs := [.tmp 2]) rfl (by kernel_rfl) ?_
    have hF := Fx.refl σ
    have hX := Tau.none σ
    have q := dum
    have tT := dum
    refine go ?_
    refine fx_alloc hF rfl fun b1 σ2 hF => ?_
    refine go ?_
    refine cdp H (fun h H => ?_) (fun h H => ?_)
    · refine go ?_
      refine cdp H (fun h H => ?_) (fun h H => ?_)
      · refine go ?_
        have e := pur H; subst e
        exact rt [.str a0.name]
      · have hF := hF.lit 9 1 (rws cS []) rfl
        refine go ?_
        obtain ⟨o5, ho5, H⟩ := bnd H
        refine impl_formText_l0_ok a0 [] 0 _ ho5 _ rfl _ _ b1 ?_ ?_ _ _ (.sl true (rws cS [])) S hF
        · intro e6o_0 he T7 σ8 e6v0 tT hF
          have he := he.symm
          subst he
          refine go ?_
          refine draw_text E0 [.v, .v, .v, .v, .x, .v, .v, .v] (by kernel_rfl) ?_
          obtain ⟨x35, f1, H⟩ := bsc H
          refine go1 ?_
          obtain ⟨x37, hx37, H⟩ := bnd H
          refine aCall_flat (strings_Join_ok e6o_0 (ByteArray.mk #[44]) _ hx37) .str (.cons ((hF.wk 0 rfl).trans (Wk.sub (Sub.zero _) _)) (fun _ => rfl) (.cons (Wk.sub (Sub.zero _) _) id .nil)) ?_
          obtain ⟨x38, f1, H⟩ := bsc H
          obtain ⟨x39, f2, H⟩ := bsc H
          refine go2 ?_
          refine go ?_
          have e := pur H; subst e
          exact rt [.str x39]
        · trivial
    · refine go ?_
      refine cdp H (fun h H => ?_) (fun h H => ?_)
      · refine go ?_
        obtain ⟨x44, hx44, H⟩ := bnd H
        refine cl (strconv_Itoa_ok a0.num _ hx44) ?_
        refine go ?_
        have e := pur H; subst e
        exact rt [.str x44]
      · have hF := hF.lit 9 1 (rws cS []) rfl
        refine go ?_
        obtain ⟨o15, ho15, H⟩ := bnd H
        refine L0 a0 [] 0 _ ho15 _ rfl _ _ b1 ?_ ?_ _ _ (.sl true (rws cS [])) S hF
        · intro e16o_0 he T17 σ18 e16v0 tT hF
          have he := he.symm
          subst he
          refine go ?_
          obtain ⟨x60, hx60, H⟩ := bnd H
          refine aCall_flat (strings_Join_ok e16o_0 (ByteArray.mk #[32]) _ hx60) .str (.cons ((hF.wk 0 rfl).trans (Wk.sub (Sub.zero _) _)) (fun _ => rfl) (.cons (Wk.sub (Sub.zero _) _) id .nil)) ?_
          obtain ⟨x61, f1, H⟩ := bsc H
          obtain ⟨x62, f2, H⟩ := bsc H
          refine go2 ?_
          refine go ?_
          have e := pur H; subst e
          exact rt [.str x62]
        · trivial
  · intro impl_formText impl_formText_l1 C0 L0 a0 z1o_0 z1t_49 out H c hc Q τ b1 hE hR T σ z1v0 tT hF
    obtain rfl := Option.some.inj ((rfl : loopAt Tryd.f84 1 = some _).symm.trans hc)
    refine aLoop_round ?_
    have q := dum
    have hX := Tau.none τ
    refine go ?_
    refine cdp H (fun h H => ?_) (fun h H => ?_)
    · obtain ⟨x51, f1, H⟩ := bil (g := Fm.cells) Fm.cells_len H
      refine go1 ?_
      refine fx_alloc hF rfl fun b10 σ11 hF => ?_
      refine go ?_
      refine st hF 0 rfl fun σ12 hF => ?_
      refine go ?_
      obtain ⟨x55, hx55, H⟩ := bnd H
      refine cl (C0 x51 _ hx55) ?_
      refine go ?_
      refine apd (g := cS) hF 0 H (rdo (c := true) (g := cS) (fun _ => rfl)) fun x57 H v13 σ14 hF => ?_
      refine go ?_
      exact L0 a0 x57 (IntKind.i64.wrap (z1t_49 + 1)) _ H _ rfl Q τ b1 hE hR _ _ v13 S (hF.drop 1 0)
    · refine go ?_
      exact hE _ (pur H).symm _ _ z1v0 S hF
theorem impl_FormatForm_ok : ∀ (a0 : Fm) r, impl_FormatForm a0 = some r → PCtr Tryd.prog 56 [.agg (Fm.cells a0)] (.str r) := by
  intro a0 r H
  intro σ
  unfold impl_FormatForm at H
  refine ctr_of mixed Tryd.func56 rfl (by kernel_rfl) (rs := [.tmp 2]) rfl (by kernel_rfl) ?_
  have hF := Fx.refl σ
  have hX := Tau.none σ
  have q := dum
  have tT := dum
  refine go ?_
  refine fx_alloc hF rfl fun b1 σ2 hF => ?_
  refine go ?_
  obtain ⟨x4, hx4, H⟩ := bnd H
  refine cl (impl_FormValid_ok a0 _ hx4) ?_
  refine go ?_
  refine cdb H (fun h H => ?_) (fun h H => ?_)
  · refine go ?_
    have e := pur H; subst e
    exact rt [.str (ByteArray.mk #[])]
  · refine go ?_
    obtain ⟨x7, hx7, H⟩ := bnd H
    refine cl (impl_formText_ok a0 _ hx7) ?_
    refine go ?_
    have e := pur H; subst e
    exact rt [.str x7]
theorem impl_StepsText_l0_ok : ∀ (a0 : List Stp) (z0t_3 : ByteArray) (z0t_8 : Int) out, impl_StepsText_l0 a0 z0t_3 z0t_8 = some out → ∀ c, loopAt Tryd.f21 0 = some c → ∀ (Q : AX → AS → Prop) (τ : Sto), (∀ (e0t_3 : ByteArray), out = e0t_3 → ∀ (T : Nat → AV) (σ : Sto), T 2 = .str (ByteArray.mk #[]) ∧ T 3 = .str e0t_3 → Fx τ σ [] [] → Q (.ex 0) ⟨T, σ⟩) → True → ∀ (T : Nat → AV) (σ : Sto), T 2 = .str (ByteArray.mk #[]) ∧ T 3 = .str z0t_3 ∧ T 6 = .sl false (rws Stp.cells a0) ∧ T 7 = .int .i64 (a0.length : Int) ∧ T 8 = .int .i64 z0t_8 → Fx τ σ [] [] → aLoop (acode Tryd.prog c) Q ⟨T, σ⟩ := by
  intro a0 z0t_3 z0t_8
  revert z0t_3 z0t_8
  refine impl_StepsText_l0.partial_correctness a0 _ ?_
  intro impl_StepsText_l0 IH z0t_3 z0t_8 out H c hc Q τ  hE hR T σ tT hF
  obtain rfl := Option.some.inj ((rfl : loopAt Tryd.f21 0 = some _).symm.trans hc)
  refine aLoop_round ?_
  have q := dum
  have hX := Tau.none τ
  refine go ?_
  refine cdp H (fun h H => ?_) (fun h H => ?_)
  · obtain ⟨x10, f1, H⟩ := bil (g := Stp.cells) Stp.cells_len H
    refine go1 ?_
    refine fx_alloc hF rfl fun b1 σ2 hF => ?_
    refine go ?_
    refine st hF 0 rfl fun σ3 hF => ?_
    refine go ?_
    refine draw_text E0 [.v, .v, .v, .v, .v, .v, .v, .v, .v, .v, .v, .v, .v, .v] (by kernel_rfl) ?_
    refine go ?_
    obtain ⟨x15, hx15, H⟩ := bnd H
    refine cv (impl_StripForm_ok x10.use _ hx15) ?_
    refine go ?_
    obtain ⟨x16, hx16, H⟩ := bnd H
    refine cv (impl_FormatForm_ok x15 _ hx16) ?_
    obtain ⟨x17, f1, H⟩ := bsc H
    refine go1 ?_
    obtain ⟨x20, hx20, H⟩ := bnd H
    refine cv (impl_StripForm_ok x10.res _ hx20) ?_
    refine go ?_
    obtain ⟨x21, hx21, H⟩ := bnd H
    refine cv (impl_FormatForm_ok x20 _ hx21) ?_
    obtain ⟨x22, f1, H⟩ := bsc H
    obtain ⟨x23, f2, H⟩ := bsc H
    obtain ⟨x24, f3, H⟩ := bsc H
    refine go3 ?_
    refine go ?_
    exact IH  x24 (IntKind.i64.wrap (z0t_8 + 1)) _ H _ rfl Q τ  hE hR _ _  S (hF.drop 1 0)
  · refine go ?_
    exact hE _ (pur H).symm _ _  S hF
theorem impl_StepsText_ok : ∀ (a0 : List Stp) r, impl_StepsText a0 = some r → PCtr Tryd.prog 21 [.sl false (rws Stp.cells a0)] (.str r) := by
  intro a0 r H
  intro σ
  unfold impl_StepsText at H
  refine ctr_of mixed Tryd.func21 rfl (by kernel_rfl) (rs := [.tmp 2]) rfl (by kernel_rfl) ?_
  have hF := Fx.refl σ
  have hX := Tau.none σ
  have q := dum
  have tT := dum
  refine go ?_
  obtain ⟨o4, ho4, H⟩ := bnd H
  refine impl_StepsText_l0_ok a0 (ByteArray.mk #[]) 0 _ ho4 _ rfl _ _  ?_ ?_ _ _  S hF
  · intro e5t_3 he T6 σ7 tT hF
    have he := he.symm
    subst he
    refine go ?_
    have e := pur H; subst e
    exact rt [.str e5t_3]
  · trivial
theorem laws_eqIntS_l0_ok : ∀ (a0 : List Int) (a1 : List Int) (z0t_5 : Int) out, laws_eqIntS_l0 a0 a1 z0t_5 = some out → ∀ c, loopAt Tryd.f39 0 = some c → ∀ (Q : AX → AS → Prop) (τ : Sto), (∀ (_u : Unit), out = Sum.inr () → ∀ (T : Nat → AV) (σ : Sto), T 4 = .bool false → Fx τ σ [] [] → Q (.ex 0) ⟨T, σ⟩) → (∀ r, out = Sum.inl r → ∀ s', aRet Tryd.prog [.tmp 4] (fun r' σ' => r' = .bool r ∧ σ' = τ) s' → Q .ret s') → ∀ (T : Nat → AV) (σ : Sto), T 0 = .sl false (rws cI a0) ∧ T 1 = .sl false (rws cI a1) ∧ T 4 = .bool false ∧ T 5 = .int .i64 z0t_5 → Fx τ σ [] [] → aLoop (acode Tryd.prog c) Q ⟨T, σ⟩ := by
  intro a0 a1 z0t_5
  revert z0t_5
  refine laws_eqIntS_l0.partial_correctness a0 a1 _ ?_
  intro laws_eqIntS_l0 IH z0t_5 out H c hc Q τ  hE hR T σ tT hF
  obtain rfl := Option.some.inj ((rfl : loopAt Tryd.f39 0 = some _).symm.trans hc)
  refine aLoop_round ?_
  have q := dum
  have hX := Tau.none τ
  refine go ?_
  refine cdp H (fun h H => ?_) (fun h H => ?_)
  · refine go ?_
    refine draw_text E0 [.v, .v, .v, .v, .v, .v, .v, .v, .v] (by kernel_rfl) ?_
    obtain ⟨x19, f1, H⟩ := bil (g := cI) (fun _ => rfl) H
    obtain ⟨x23, f2, H⟩ := bil (g := cI) (fun _ => rfl) H
    refine go2 ?_
    refine go ?_
    refine cdn H (fun h H => ?_) (fun h H => ?_)
    · refine go ?_
      exact hR _ (pur H).symm _ (rt [.bool false])
    · refine go ?_
      exact IH  (IntKind.i64.wrap (z0t_5 + 1)) _ H _ rfl Q τ  hE hR _ _  S hF
  · refine go ?_
    exact hE () (pur H).symm _ _  S hF
theorem laws_eqIntS_ok : ∀ (a0 : List Int) (a1 : List Int) r, laws_eqIntS a0 a1 = some r → PCtr Tryd.prog 39 [.sl false (rws cI a0), .sl false (rws cI a1)] (.bool r) := by
  intro a0 a1 r H
  intro σ
  unfold laws_eqIntS at H
  refine ctr_of mixed Tryd.func39 rfl (by kernel_rfl) (rs := [.tmp 4]) rfl (by kernel_rfl) ?_
  have hF := Fx.refl σ
  have hX := Tau.none σ
  have q := dum
  have tT := dum
  refine go ?_
  refine cdn H (fun h H => ?_) (fun h H => ?_)
  · refine go ?_
    have e := pur H; subst e
    exact rt [.bool false]
  · refine go ?_
    obtain ⟨o1, ho1, H⟩ := bnd H
    refine laws_eqIntS_l0_ok a0 a1 0 _ ho1 _ rfl _ _  ?_ ?_ _ _  S hF
    · intro _ he T3 σ4 tT hF
      have he := he.symm
      subst he
      dsimp only at H
      refine go ?_
      have e := pur H; subst e
      exact rt [.bool true]
    · intro r hr s' hs
      subst hr
      have e := pur H; subst e
      first | exact hs | (try simp only [Fm.cells_eq] at hs ⊢; exact hs)
theorem laws_eqForm_all : (∀ (a0 : Fm) (a1 : Fm) r, laws_eqForm a0 a1 = some r → PCtr Tryd.prog 12 [.agg (Fm.cells a0), .agg (Fm.cells a1)] (.bool r)) ∧ (∀ (a0 : List Fm) (a1 : List Fm) r, laws_eqFormS a0 a1 = some r → PCtr Tryd.prog 40 [.sl false (rws Fm.cells a0), .sl false (rws Fm.cells a1)] (.bool r)) := by
  have h := laws_eqForm.mutual_partial_correctness (motive_1 := fun a0 a1 r => PCtr Tryd.prog 12 [.agg (Fm.cells a0), .agg (Fm.cells a1)] (.bool r)) (motive_2 := fun a0 a1 r => PCtr Tryd.prog 40 [.sl false (rws Fm.cells a0), .sl false (rws Fm.cells a1)] (.bool r)) (motive_3 := fun a0 a1 z0t_5 out => ∀ c, loopAt Tryd.f40 0 = some c → ∀ (Q : AX → AS → Prop) (τ : Sto), (∀ (_u : Unit), out = Sum.inr () → ∀ (T : Nat → AV) (σ : Sto), T 4 = .bool false → Fx τ σ [] [] → Q (.ex 0) ⟨T, σ⟩) → (∀ r, out = Sum.inl r → ∀ s', aRet Tryd.prog [.tmp 4] (fun r' σ' => r' = .bool r ∧ σ' = τ) s' → Q .ret s') → ∀ (T : Nat → AV) (σ : Sto), T 0 = .sl false (rws Fm.cells a0) ∧ T 1 = .sl false (rws Fm.cells a1) ∧ T 4 = .bool false ∧ T 5 = .int .i64 z0t_5 → Fx τ σ [] [] → aLoop (acode Tryd.prog c) Q ⟨T, σ⟩) ?s0 ?s1 ?s2
  · exact ⟨h.1, h.2.1⟩
  · intro laws_eqFormS C1 a0 a1 r H
    intro σ
    refine ctr_of mixed Tryd.func12 rfl (by kernel_rfl) (rs := [.tmp 4]) rfl (by kernel_rfl) ?_
    have hF := Fx.refl σ
    have hX := Tau.none σ
    have q := dum
    have tT := dum
    refine go ?_
    refine fx_alloc hF rfl fun b1 σ2 hF => ?_
    refine go ?_
    refine fx_alloc hF rfl fun b3 σ4 hF => ?_
    refine go ?_
    refine cdn H (fun h H => ?_) (fun h H => ?_)
    · refine go ?_
      have e := pur H; subst e
      exact rt [.bool false]
    · refine go ?_
      refine cdn H (fun h H => ?_) (fun h H => ?_)
      · refine go ?_
        have e := pur H; subst e
        exact rt [.bool false]
      · refine go ?_
        refine cdn H (fun h H => ?_) (fun h H => ?_)
        · refine go ?_
          have e := pur H; subst e
          exact rt [.bool false]
        · refine go ?_
          obtain ⟨x24, hx24, H⟩ := bnd H
          refine cl (laws_eqIntS_ok a0.sc a1.sc _ hx24) ?_
          refine go ?_
          refine cdb H (fun h H => ?_) (fun h H => ?_)
          · refine go ?_
            have e := pur H; subst e
            exact rt [.bool false]
          · refine go ?_
            obtain ⟨x30, hx30, H⟩ := bnd H
            refine cl (C1 a0.kids a1.kids _ hx30) ?_
            refine go ?_
            refine cdb H (fun h H => ?_) (fun h H => ?_)
            · refine go ?_
              have e := pur H; subst e
              exact rt [.bool false]
            · refine go ?_
              have e := pur H; subst e
              exact rt [.bool true]
  · intro laws_eqFormS_l0 L0 a0 a1 r H
    intro σ
    refine ctr_of mixed Tryd.func40 rfl (by kernel_rfl) (rs := [.tmp 4]) rfl (by kernel_rfl) ?_
    have hF := Fx.refl σ
    have hX := Tau.none σ
    have q := dum
    have tT := dum
    refine go ?_
    refine cdn H (fun h H => ?_) (fun h H => ?_)
    · refine go ?_
      have e := pur H; subst e
      exact rt [.bool false]
    · refine go ?_
      obtain ⟨o1, ho1, H⟩ := bnd H
      refine L0 a0 a1 0 _ ho1 _ rfl _ _  ?_ ?_ _ _  S hF
      · intro _ he T3 σ4 tT hF
        have he := he.symm
        subst he
        dsimp only at H
        refine go ?_
        have e := pur H; subst e
        exact rt [.bool true]
      · intro r hr s' hs
        subst hr
        have e := pur H; subst e
        first | exact hs | (try simp only [Fm.cells_eq] at hs ⊢; exact hs)
  · intro laws_eqForm laws_eqFormS_l0 C0 L0 a0 a1 z0t_5 out H c hc Q τ  hE hR T σ tT hF
    obtain rfl := Option.some.inj ((rfl : loopAt Tryd.f40 0 = some _).symm.trans hc)
    refine aLoop_round ?_
    have q := dum
    have hX := Tau.none τ
    refine go ?_
    refine cdp H (fun h H => ?_) (fun h H => ?_)
    · refine go ?_
      refine draw_text E0 [.v, .v, .v, .v, .v, .v, .v, .v, .v, .v] (by kernel_rfl) ?_
      obtain ⟨x19, f1, H⟩ := bil (g := Fm.cells) Fm.cells_len H
      obtain ⟨x23, f2, H⟩ := bil (g := Fm.cells) Fm.cells_len H
      refine go2 ?_
      obtain ⟨x25, hx25, H⟩ := bnd H
      refine cv (C0 x19 x23 _ hx25) ?_
      refine go ?_
      refine cdb H (fun h H => ?_) (fun h H => ?_)
      · refine go ?_
        exact hR _ (pur H).symm _ (rt [.bool false])
      · refine go ?_
        exact L0 a0 a1 (IntKind.i64.wrap (z0t_5 + 1)) _ H _ rfl Q τ  hE hR _ _  S hF
    · refine go ?_
      exact hE () (pur H).symm _ _  S hF
theorem laws_eqForm_ok : ∀ (a0 : Fm) (a1 : Fm) r, laws_eqForm a0 a1 = some r → PCtr Tryd.prog 12 [.agg (Fm.cells a0), .agg (Fm.cells a1)] (.bool r) := laws_eqForm_all.1
theorem laws_eqFormS_ok : ∀ (a0 : List Fm) (a1 : List Fm) r, laws_eqFormS a0 a1 = some r → PCtr Tryd.prog 40 [.sl false (rws Fm.cells a0), .sl false (rws Fm.cells a1)] (.bool r) := laws_eqForm_all.2
theorem laws_eqStep_ok : ∀ (a0 : Stp) (a1 : Stp) r, laws_eqStep a0 a1 = some r → PCtr Tryd.prog 58 [.agg (Stp.cells a0), .agg (Stp.cells a1)] (.bool r) := by
  intro a0 a1 r H
  intro σ
  unfold laws_eqStep at H
  refine ctr_of mixed Tryd.func58 rfl (by kernel_rfl) (rs := [.tmp 4]) rfl (by kernel_rfl) ?_
  have hF := Fx.refl σ
  have hX := Tau.none σ
  have q := dum
  have tT := dum
  refine go ?_
  refine fx_alloc hF rfl fun b1 σ2 hF => ?_
  refine go ?_
  refine fx_alloc hF rfl fun b3 σ4 hF => ?_
  refine go ?_
  refine cdn H (fun h H => ?_) (fun h H => ?_)
  · refine go ?_
    have e := pur H; subst e
    exact rt [.bool false]
  · refine go ?_
    refine cdn H (fun h H => ?_) (fun h H => ?_)
    · refine go ?_
      have e := pur H; subst e
      exact rt [.bool false]
    · refine go ?_
      refine cdn H (fun h H => ?_) (fun h H => ?_)
      · refine go ?_
        have e := pur H; subst e
        exact rt [.bool false]
      · refine go ?_
        obtain ⟨x24, hx24, H⟩ := bnd H
        refine cl (laws_eqForm_ok a0.use a1.use _ hx24) ?_
        refine go ?_
        refine cdb H (fun h H => ?_) (fun h H => ?_)
        · refine go ?_
          have e := pur H; subst e
          exact rt [.bool false]
        · refine go ?_
          obtain ⟨x30, hx30, H⟩ := bnd H
          refine cl (laws_eqForm_ok a0.res a1.res _ hx30) ?_
          refine go ?_
          refine cdb H (fun h H => ?_) (fun h H => ?_)
          · refine go ?_
            have e := pur H; subst e
            exact rt [.bool false]
          · refine go ?_
            have e := pur H; subst e
            exact rt [.bool true]
theorem laws_eqStepS_l0_ok : ∀ (a0 : List Stp) (a1 : List Stp) (z0t_5 : Int) out, laws_eqStepS_l0 a0 a1 z0t_5 = some out → ∀ c, loopAt Tryd.f22 0 = some c → ∀ (Q : AX → AS → Prop) (τ : Sto), (∀ (_u : Unit), out = Sum.inr () → ∀ (T : Nat → AV) (σ : Sto), T 4 = .bool false → Fx τ σ [] [] → Q (.ex 0) ⟨T, σ⟩) → (∀ r, out = Sum.inl r → ∀ s', aRet Tryd.prog [.tmp 4] (fun r' σ' => r' = .bool r ∧ σ' = τ) s' → Q .ret s') → ∀ (T : Nat → AV) (σ : Sto), T 0 = .sl false (rws Stp.cells a0) ∧ T 1 = .sl false (rws Stp.cells a1) ∧ T 4 = .bool false ∧ T 5 = .int .i64 z0t_5 → Fx τ σ [] [] → aLoop (acode Tryd.prog c) Q ⟨T, σ⟩ := by
  intro a0 a1 z0t_5
  revert z0t_5
  refine laws_eqStepS_l0.partial_correctness a0 a1 _ ?_
  intro laws_eqStepS_l0 IH z0t_5 out H c hc Q τ  hE hR T σ tT hF
  obtain rfl := Option.some.inj ((rfl : loopAt Tryd.f22 0 = some _).symm.trans hc)
  refine aLoop_round ?_
  have q := dum
  have hX := Tau.none τ
  refine go ?_
  refine cdp H (fun h H => ?_) (fun h H => ?_)
  · refine go ?_
    refine draw_text E0 [.v, .v, .v, .v, .v, .v, .v, .v, .v, .v] (by kernel_rfl) ?_
    obtain ⟨x19, f1, H⟩ := bil (g := Stp.cells) Stp.cells_len H
    obtain ⟨x23, f2, H⟩ := bil (g := Stp.cells) Stp.cells_len H
    refine go2 ?_
    obtain ⟨x25, hx25, H⟩ := bnd H
    refine cv (laws_eqStep_ok x19 x23 _ hx25) ?_
    refine go ?_
    refine cdb H (fun h H => ?_) (fun h H => ?_)
    · refine go ?_
      exact hR _ (pur H).symm _ (rt [.bool false])
    · refine go ?_
      exact IH  (IntKind.i64.wrap (z0t_5 + 1)) _ H _ rfl Q τ  hE hR _ _  S hF
  · refine go ?_
    exact hE () (pur H).symm _ _  S hF
theorem laws_eqStepS_ok : ∀ (a0 : List Stp) (a1 : List Stp) r, laws_eqStepS a0 a1 = some r → PCtr Tryd.prog 22 [.sl false (rws Stp.cells a0), .sl false (rws Stp.cells a1)] (.bool r) := by
  intro a0 a1 r H
  intro σ
  unfold laws_eqStepS at H
  refine ctr_of mixed Tryd.func22 rfl (by kernel_rfl) (rs := [.tmp 4]) rfl (by kernel_rfl) ?_
  have hF := Fx.refl σ
  have hX := Tau.none σ
  have q := dum
  have tT := dum
  refine go ?_
  refine cdn H (fun h H => ?_) (fun h H => ?_)
  · refine go ?_
    have e := pur H; subst e
    exact rt [.bool false]
  · refine go ?_
    obtain ⟨o1, ho1, H⟩ := bnd H
    refine laws_eqStepS_l0_ok a0 a1 0 _ ho1 _ rfl _ _  ?_ ?_ _ _  S hF
    · intro _ he T3 σ4 tT hF
      have he := he.symm
      subst he
      dsimp only at H
      refine go ?_
      have e := pur H; subst e
      exact rt [.bool true]
    · intro r hr s' hs
      subst hr
      have e := pur H; subst e
      first | exact hs | (try simp only [Fm.cells_eq] at hs ⊢; exact hs)
theorem laws_FnExactStepsText_ok : ∀ (a0 : List Stp) r, laws_FnExactStepsText a0 = some r → PCtr Tryd.prog 5 [.sl false (rws Stp.cells a0)] (.bool r) := by
  intro a0 r H
  intro σ
  unfold laws_FnExactStepsText at H
  refine ctr_of mixed Tryd.func5 rfl (by kernel_rfl) (rs := [.tmp 2]) rfl (by kernel_rfl) ?_
  have hF := Fx.refl σ
  have hX := Tau.none σ
  have q := dum
  have tT := dum
  refine go ?_
  obtain ⟨x9, hx9, H⟩ := bnd H
  refine cl (laws_szStepS_ok a0 1048576 _ hx9) ?_
  refine go ?_
  refine cdp H (fun h H => ?_) (fun h H => ?_)
  · refine go ?_
    have e := pur H; subst e
    exact rt [.bool true]
  · refine go ?_
    obtain ⟨x13, hx13, H⟩ := bnd H
    refine cl (laws_toStepS_ok a0 _ hx13) ?_
    refine go ?_
    obtain ⟨x14, hx14, H⟩ := bnd H
    refine cl (spec_StepsText_ok x13 _ hx14) ?_
    refine go ?_
    obtain ⟨x16, hx16, H⟩ := bnd H
    refine cl (laws_toStepS_ok a0 _ hx16) ?_
    refine go ?_
    obtain ⟨x18, hx18, H⟩ := bnd H
    refine cl (impl_StepsText_ok x16 _ hx18) ?_
    refine go ?_
    refine cdn H (fun h H => ?_) (fun h H => ?_)
    · refine go ?_
      have e := pur H; subst e
      exact rt [.bool false]
    · refine go ?_
      obtain ⟨x24, hx24, H⟩ := bnd H
      refine cl (laws_toStepS_ok a0 _ hx24) ?_
      refine go ?_
      obtain ⟨x25, hx25, H⟩ := bnd H
      refine cl (laws_eqStepS_ok x16 x24 _ hx25) ?_
      refine go ?_
      refine cdb H (fun h H => ?_) (fun h H => ?_)
      · refine go ?_
        have e := pur H; subst e
        exact rt [.bool false]
      · refine go ?_
        have e := pur H; subst e
        exact rt [.bool true]
end Go.Proofs.SA
