/- Printed by a program of mine: the plain functions that the code computes (D), and the walks that show it (W). -/
import Derived.Test.YtmacemmkocjkaaaDoorGz
import Derived.Test.YtmacemmkocjkaaaDoorSaTy
import Derived.Test.YtmacemmkocjkaaaDoorGv
import Derived.Test.YtmacemmkocjkaaaDoorSf
import Derived.Test.YtmacemmkocjkaaaDoorGv
import Derived.Test.YtmacemmkocjkaaaDoorSf
import Derived.Test.YtmacemmkocjkaaaDoorVsD
set_option maxRecDepth 100000
set_option linter.unusedSimpArgs false
set_option linter.unusedVariables false
open Go Go.Proofs Go.Proofs.Shadow
namespace Go.Proofs.SA
theorem laws_szIntS_ok : ∀ (a0 : List Int) (a1 : Int) r, laws_szIntS a0 a1 = some r → PCtr Tryd.prog 30 [.sl false (rws cI a0), .int .i64 a1] (.int .i64 r) := by
  intro a0 a1 r H
  intro σ
  unfold laws_szIntS at H
  refine ctr_of mixed Tryd.func30 rfl (by kernel_rfl) (rs := [.tmp 4]) rfl (by kernel_rfl) ?_
  have hF := Fx.refl σ
  have hX := Tau.none σ
  have q := dum
  have tT := dum
  refine go ?_
  refine cdp H (fun h H => ?_) (fun h H => ?_)
  · refine go ?_
    have e := pur H; subst e
    exact rt [.int .i64 (-1)]
  · refine go ?_
    have e := pur H; subst e
    exact rt [.int .i64 (IntKind.i64.wrap (a1 - (a0.length : Int)))]
theorem laws_szForm_all : (∀ (a0 : Fm) (a1 : Int) r, laws_szForm a0 a1 = some r → PCtr Tryd.prog 8 [.agg (Fm.cells a0), .int .i64 a1] (.int .i64 r)) ∧ (∀ (a0 : List Fm) (a1 : Int) r, laws_szFormS a0 a1 = some r → PCtr Tryd.prog 31 [.sl false (rws Fm.cells a0), .int .i64 a1] (.int .i64 r)) := by
  have h := laws_szForm.mutual_partial_correctness (motive_1 := fun a0 a1 r => PCtr Tryd.prog 8 [.agg (Fm.cells a0), .int .i64 a1] (.int .i64 r)) (motive_2 := fun a0 a1 r => PCtr Tryd.prog 31 [.sl false (rws Fm.cells a0), .int .i64 a1] (.int .i64 r)) (motive_3 := fun a0 z0t_1 z0t_5 out => ∀ c, loopAt Tryd.f31 0 = some c → ∀ (Q : AX → AS → Prop) (τ : Sto), (∀ (e0t_1 : Int), out = Sum.inr e0t_1 → ∀ (T : Nat → AV) (σ : Sto), T 1 = .int .i64 e0t_1 ∧ T 4 = .int .i64 0 → Fx τ σ [] [] → Q (.ex 0) ⟨T, σ⟩) → (∀ r, out = Sum.inl r → ∀ s', aRet Tryd.prog [.tmp 4] (fun r' σ' => r' = .int .i64 r ∧ σ' = τ) s' → Q .ret s') → ∀ (T : Nat → AV) (σ : Sto), T 0 = .sl false (rws Fm.cells a0) ∧ T 1 = .int .i64 z0t_1 ∧ T 4 = .int .i64 0 ∧ T 5 = .int .i64 z0t_5 → Fx τ σ [] [] → aLoop (acode Tryd.prog c) Q ⟨T, σ⟩) ?s0 ?s1 ?s2
  · exact ⟨h.1, h.2.1⟩
  · intro laws_szFormS C1 a0 a1 r H
    intro σ
    refine ctr_of mixed Tryd.func8 rfl (by kernel_rfl) (rs := [.tmp 4]) rfl (by kernel_rfl) ?_
    have hF := Fx.refl σ
    have hX := Tau.none σ
    have q := dum
    have tT := dum
    refine go ?_
    refine fx_alloc hF rfl fun b1 σ2 hF => ?_
    refine go ?_
    refine cdp H (fun h H => ?_) (fun h H => ?_)
    · refine go ?_
      have e := pur H; subst e
      exact rt [.int .i64 (-1)]
    · refine go ?_
      obtain ⟨x15, hx15, H⟩ := bnd H
      refine cl (laws_szIntS_ok a0.sc (IntKind.i64.wrap (a1 - (a0.name.size : Int))) _ hx15) ?_
      refine go ?_
      refine cdp H (fun h H => ?_) (fun h H => ?_)
      · refine go ?_
        have e := pur H; subst e
        exact rt [.int .i64 (-1)]
      · refine go ?_
        obtain ⟨x21, hx21, H⟩ := bnd H
        refine cl (C1 a0.kids x15 _ hx21) ?_
        refine go ?_
        refine cdp H (fun h H => ?_) (fun h H => ?_)
        · refine go ?_
          have e := pur H; subst e
          exact rt [.int .i64 (-1)]
        · refine go ?_
          have e := pur H; subst e
          exact rt [.int .i64 x21]
  · intro laws_szFormS_l0 L0 a0 a1 r H
    intro σ
    refine ctr_of mixed Tryd.func31 rfl (by kernel_rfl) (rs := [.tmp 4]) rfl (by kernel_rfl) ?_
    have hF := Fx.refl σ
    have hX := Tau.none σ
    have q := dum
    have tT := dum
    refine go ?_
    refine cdp H (fun h H => ?_) (fun h H => ?_)
    · refine go ?_
      have e := pur H; subst e
      exact rt [.int .i64 (-1)]
    · refine go ?_
      obtain ⟨o1, ho1, H⟩ := bnd H
      refine L0 a0 (IntKind.i64.wrap (a1 - (a0.length : Int))) 0 _ ho1 _ rfl _ _  ?_ ?_ _ _  S hF
      · intro e2t_1 he T3 σ4 tT hF
        have he := he.symm
        subst he
        dsimp only at H
        refine go ?_
        have e := pur H; subst e
        exact rt [.int .i64 e2t_1]
      · intro r hr s' hs
        subst hr
        have e := pur H; subst e
        first | exact hs | (try simp only [Fm.cells_eq] at hs ⊢; exact hs)
  · intro laws_szForm laws_szFormS_l0 C0 L0 a0 z0t_1 z0t_5 out H c hc Q τ  hE hR T σ tT hF
    obtain rfl := Option.some.inj ((rfl : loopAt Tryd.f31 0 = some _).symm.trans hc)
    refine aLoop_round ?_
    have q := dum
    have hX := Tau.none τ
    refine go ?_
    refine cdp H (fun h H => ?_) (fun h H => ?_)
    · obtain ⟨x20, f1, H⟩ := bil (g := Fm.cells) Fm.cells_len H
      refine go1 ?_
      obtain ⟨x23, hx23, H⟩ := bnd H
      refine cl (C0 x20 z0t_1 _ hx23) ?_
      refine go ?_
      refine cdp H (fun h H => ?_) (fun h H => ?_)
      · refine go ?_
        exact hR _ (pur H).symm _ (rt [.int .i64 (-1)])
      · refine go ?_
        exact L0 a0 x23 (IntKind.i64.wrap (z0t_5 + 1)) _ H _ rfl Q τ  hE hR _ _  S hF
    · refine go ?_
      exact hE _ (pur H).symm _ _  S hF
theorem laws_szForm_ok : ∀ (a0 : Fm) (a1 : Int) r, laws_szForm a0 a1 = some r → PCtr Tryd.prog 8 [.agg (Fm.cells a0), .int .i64 a1] (.int .i64 r) := laws_szForm_all.1
theorem laws_szFormS_ok : ∀ (a0 : List Fm) (a1 : Int) r, laws_szFormS a0 a1 = some r → PCtr Tryd.prog 31 [.sl false (rws Fm.cells a0), .int .i64 a1] (.int .i64 r) := laws_szForm_all.2
theorem laws_szCore_all : (∀ (a0 : Cor) (a1 : Int) r, laws_szCore a0 a1 = some r → PCtr Tryd.prog 42 [.agg (Cor.cells a0), .int .i64 a1] (.int .i64 r)) ∧ (∀ (a0 : List Cor) (a1 : Int) r, laws_szCoreS a0 a1 = some r → PCtr Tryd.prog 74 [.sl false (rws Cor.cells a0), .int .i64 a1] (.int .i64 r)) := by
  have h := laws_szCore.mutual_partial_correctness (motive_1 := fun a0 a1 r => PCtr Tryd.prog 42 [.agg (Cor.cells a0), .int .i64 a1] (.int .i64 r)) (motive_2 := fun a0 a1 r => PCtr Tryd.prog 74 [.sl false (rws Cor.cells a0), .int .i64 a1] (.int .i64 r)) (motive_3 := fun a0 z0t_1 z0t_5 out => ∀ c, loopAt Tryd.f74 0 = some c → ∀ (Q : AX → AS → Prop) (τ : Sto), (∀ (e0t_1 : Int), out = Sum.inr e0t_1 → ∀ (T : Nat → AV) (σ : Sto), T 1 = .int .i64 e0t_1 ∧ T 4 = .int .i64 0 → Fx τ σ [] [] → Q (.ex 0) ⟨T, σ⟩) → (∀ r, out = Sum.inl r → ∀ s', aRet Tryd.prog [.tmp 4] (fun r' σ' => r' = .int .i64 r ∧ σ' = τ) s' → Q .ret s') → ∀ (T : Nat → AV) (σ : Sto), T 0 = .sl false (rws Cor.cells a0) ∧ T 1 = .int .i64 z0t_1 ∧ T 4 = .int .i64 0 ∧ T 5 = .int .i64 z0t_5 → Fx τ σ [] [] → aLoop (acode Tryd.prog c) Q ⟨T, σ⟩) ?s0 ?s1 ?s2
  · exact ⟨h.1, h.2.1⟩
  · intro laws_szCoreS C1 a0 a1 r H
    intro σ
    refine ctr_of mixed Tryd.func42 rfl (by kernel_rfl) (rs := [.tmp 4]) rfl (by kernel_rfl) ?_
    have hF := Fx.refl σ
    have hX := Tau.none σ
    have q := dum
    have tT := dum
    refine go ?_
    refine fx_alloc hF rfl fun b1 σ2 hF => ?_
    refine go ?_
    refine cdp H (fun h H => ?_) (fun h H => ?_)
    · refine go ?_
      have e := pur H; subst e
      exact rt [.int .i64 (-1)]
    · refine go ?_
      obtain ⟨x15, hx15, H⟩ := bnd H
      refine cl (laws_szIntS_ok a0.ids (IntKind.i64.wrap (a1 - (a0.name.size : Int))) _ hx15) ?_
      refine go ?_
      refine cdp H (fun h H => ?_) (fun h H => ?_)
      · refine go ?_
        have e := pur H; subst e
        exact rt [.int .i64 (-1)]
      · refine go ?_
        obtain ⟨x21, hx21, H⟩ := bnd H
        refine cl (laws_szForm_ok a0.data x15 _ hx21) ?_
        refine go ?_
        refine cdp H (fun h H => ?_) (fun h H => ?_)
        · refine go ?_
          have e := pur H; subst e
          exact rt [.int .i64 (-1)]
        · refine go ?_
          obtain ⟨x27, hx27, H⟩ := bnd H
          refine cl (C1 a0.kids x21 _ hx27) ?_
          refine go ?_
          refine cdp H (fun h H => ?_) (fun h H => ?_)
          · refine go ?_
            have e := pur H; subst e
            exact rt [.int .i64 (-1)]
          · refine go ?_
            have e := pur H; subst e
            exact rt [.int .i64 x27]
  · intro laws_szCoreS_l0 L0 a0 a1 r H
    intro σ
    refine ctr_of mixed Tryd.func74 rfl (by kernel_rfl) (rs := [.tmp 4]) rfl (by kernel_rfl) ?_
    have hF := Fx.refl σ
    have hX := Tau.none σ
    have q := dum
    have tT := dum
    refine go ?_
    refine cdp H (fun h H => ?_) (fun h H => ?_)
    · refine go ?_
      have e := pur H; subst e
      exact rt [.int .i64 (-1)]
    · refine go ?_
      obtain ⟨o1, ho1, H⟩ := bnd H
      refine L0 a0 (IntKind.i64.wrap (a1 - (a0.length : Int))) 0 _ ho1 _ rfl _ _  ?_ ?_ _ _  S hF
      · intro e2t_1 he T3 σ4 tT hF
        have he := he.symm
        subst he
        dsimp only at H
        refine go ?_
        have e := pur H; subst e
        exact rt [.int .i64 e2t_1]
      · intro r hr s' hs
        subst hr
        have e := pur H; subst e
        first | exact hs | (try simp only [Fm.cells_eq] at hs ⊢; exact hs)
  · intro laws_szCore laws_szCoreS_l0 C0 L0 a0 z0t_1 z0t_5 out H c hc Q τ  hE hR T σ tT hF
    obtain rfl := Option.some.inj ((rfl : loopAt Tryd.f74 0 = some _).symm.trans hc)
    refine aLoop_round ?_
    have q := dum
    have hX := Tau.none τ
    refine go ?_
    refine cdp H (fun h H => ?_) (fun h H => ?_)
    · obtain ⟨x20, f1, H⟩ := bil (g := Cor.cells) Cor.cells_len H
      refine go1 ?_
      obtain ⟨x23, hx23, H⟩ := bnd H
      refine cl (C0 x20 z0t_1 _ hx23) ?_
      refine go ?_
      refine cdp H (fun h H => ?_) (fun h H => ?_)
      · refine go ?_
        exact hR _ (pur H).symm _ (rt [.int .i64 (-1)])
      · refine go ?_
        exact L0 a0 x23 (IntKind.i64.wrap (z0t_5 + 1)) _ H _ rfl Q τ  hE hR _ _  S hF
    · refine go ?_
      exact hE _ (pur H).symm _ _  S hF
theorem laws_szCore_ok : ∀ (a0 : Cor) (a1 : Int) r, laws_szCore a0 a1 = some r → PCtr Tryd.prog 42 [.agg (Cor.cells a0), .int .i64 a1] (.int .i64 r) := laws_szCore_all.1
theorem laws_szCoreS_ok : ∀ (a0 : List Cor) (a1 : Int) r, laws_szCoreS a0 a1 = some r → PCtr Tryd.prog 74 [.sl false (rws Cor.cells a0), .int .i64 a1] (.int .i64 r) := laws_szCore_all.2
theorem laws_szValue_all : (∀ (a0 : Val) (a1 : Int) r, laws_szValue a0 a1 = some r → PCtr Tryd.prog 13 [.agg (Val.cells a0), .int .i64 a1] (.int .i64 r)) ∧ (∀ (a0 : List Val) (a1 : Int) r, laws_szValueS a0 a1 = some r → PCtr Tryd.prog 41 [.sl false (rws Val.cells a0), .int .i64 a1] (.int .i64 r)) ∧ (∀ (a0 : List Slt) (a1 : Int) r, laws_szSlotS a0 a1 = some r → PCtr Tryd.prog 43 [.sl false (rws Slt.cells a0), .int .i64 a1] (.int .i64 r)) ∧ (∀ (a0 : Slt) (a1 : Int) r, laws_szSlot a0 a1 = some r → PCtr Tryd.prog 75 [.agg (Slt.cells a0), .int .i64 a1] (.int .i64 r)) := by
  have h := laws_szValue.mutual_partial_correctness (motive_1 := fun a0 a1 r => PCtr Tryd.prog 13 [.agg (Val.cells a0), .int .i64 a1] (.int .i64 r)) (motive_2 := fun a0 a1 r => PCtr Tryd.prog 43 [.sl false (rws Slt.cells a0), .int .i64 a1] (.int .i64 r)) (motive_3 := fun a0 z0t_1 z0t_5 out => ∀ c, loopAt Tryd.f43 0 = some c → ∀ (Q : AX → AS → Prop) (τ : Sto), (∀ (e0t_1 : Int), out = Sum.inr e0t_1 → ∀ (T : Nat → AV) (σ : Sto), T 1 = .int .i64 e0t_1 ∧ T 4 = .int .i64 0 → Fx τ σ [] [] → Q (.ex 0) ⟨T, σ⟩) → (∀ r, out = Sum.inl r → ∀ s', aRet Tryd.prog [.tmp 4] (fun r' σ' => r' = .int .i64 r ∧ σ' = τ) s' → Q .ret s') → ∀ (T : Nat → AV) (σ : Sto), T 0 = .sl false (rws Slt.cells a0) ∧ T 1 = .int .i64 z0t_1 ∧ T 4 = .int .i64 0 ∧ T 5 = .int .i64 z0t_5 → Fx τ σ [] [] → aLoop (acode Tryd.prog c) Q ⟨T, σ⟩) (motive_4 := fun a0 a1 r => PCtr Tryd.prog 75 [.agg (Slt.cells a0), .int .i64 a1] (.int .i64 r)) (motive_5 := fun a0 a1 r => PCtr Tryd.prog 41 [.sl false (rws Val.cells a0), .int .i64 a1] (.int .i64 r)) (motive_6 := fun a0 z0t_1 z0t_5 out => ∀ c, loopAt Tryd.f41 0 = some c → ∀ (Q : AX → AS → Prop) (τ : Sto), (∀ (e0t_1 : Int), out = Sum.inr e0t_1 → ∀ (T : Nat → AV) (σ : Sto), T 1 = .int .i64 e0t_1 ∧ T 4 = .int .i64 0 → Fx τ σ [] [] → Q (.ex 0) ⟨T, σ⟩) → (∀ r, out = Sum.inl r → ∀ s', aRet Tryd.prog [.tmp 4] (fun r' σ' => r' = .int .i64 r ∧ σ' = τ) s' → Q .ret s') → ∀ (T : Nat → AV) (σ : Sto), T 0 = .sl false (rws Val.cells a0) ∧ T 1 = .int .i64 z0t_1 ∧ T 4 = .int .i64 0 ∧ T 5 = .int .i64 z0t_5 → Fx τ σ [] [] → aLoop (acode Tryd.prog c) Q ⟨T, σ⟩) ?s0 ?s1 ?s2 ?s3 ?s4 ?s5
  · exact ⟨h.1, h.2.2.2.2.1, h.2.1, h.2.2.2.1⟩
  · intro laws_szSlotS laws_szValueS C2 C1 a0 a1 r H
    intro σ
    refine ctr_of mixed Tryd.func13 rfl (by kernel_rfl) (rs := [.tmp 4]) rfl (by kernel_rfl) ?_
    have hF := Fx.refl σ
    have hX := Tau.none σ
    have q := dum
    have tT := dum
    refine go ?_
    refine fx_alloc hF rfl fun b1 σ2 hF => ?_
    refine go ?_
    refine cdp H (fun h H => ?_) (fun h H => ?_)
    · refine go ?_
      have e := pur H; subst e
      exact rt [.int .i64 (-1)]
    · refine go ?_
      obtain ⟨x15, hx15, H⟩ := bnd H
      refine cl (C1 a0.items (IntKind.i64.wrap (a1 - (a0.name.size : Int))) _ hx15) ?_
      refine go ?_
      refine cdp H (fun h H => ?_) (fun h H => ?_)
      · refine go ?_
        have e := pur H; subst e
        exact rt [.int .i64 (-1)]
      · refine go ?_
        obtain ⟨x21, hx21, H⟩ := bnd H
        refine cl (laws_szCore_ok a0.fn x15 _ hx21) ?_
        refine go ?_
        refine cdp H (fun h H => ?_) (fun h H => ?_)
        · refine go ?_
          have e := pur H; subst e
          exact rt [.int .i64 (-1)]
        · refine go ?_
          obtain ⟨x27, hx27, H⟩ := bnd H
          refine cl (C2 a0.env x21 _ hx27) ?_
          refine go ?_
          refine cdp H (fun h H => ?_) (fun h H => ?_)
          · refine go ?_
            have e := pur H; subst e
            exact rt [.int .i64 (-1)]
          · refine go ?_
            have e := pur H; subst e
            exact rt [.int .i64 x27]
  · intro laws_szSlotS_l0 L1 a0 a1 r H
    intro σ
    refine ctr_of mixed Tryd.func43 rfl (by kernel_rfl) (rs := [.tmp 4]) rfl (by kernel_rfl) ?_
    have hF := Fx.refl σ
    have hX := Tau.none σ
    have q := dum
    have tT := dum
    refine go ?_
    refine cdp H (fun h H => ?_) (fun h H => ?_)
    · refine go ?_
      have e := pur H; subst e
      exact rt [.int .i64 (-1)]
    · refine go ?_
      obtain ⟨o1, ho1, H⟩ := bnd H
      refine L1 a0 (IntKind.i64.wrap (a1 - (a0.length : Int))) 0 _ ho1 _ rfl _ _  ?_ ?_ _ _  S hF
      · intro e2t_1 he T3 σ4 tT hF
        have he := he.symm
        subst he
        dsimp only at H
        refine go ?_
        have e := pur H; subst e
        exact rt [.int .i64 e2t_1]
      · intro r hr s' hs
        subst hr
        have e := pur H; subst e
        first | exact hs | (try simp only [Fm.cells_eq] at hs ⊢; exact hs)
  · intro laws_szSlotS_l0 laws_szSlot L1 C3 a0 z0t_1 z0t_5 out H c hc Q τ  hE hR T σ tT hF
    obtain rfl := Option.some.inj ((rfl : loopAt Tryd.f43 0 = some _).symm.trans hc)
    refine aLoop_round ?_
    have q := dum
    have hX := Tau.none τ
    refine go ?_
    refine cdp H (fun h H => ?_) (fun h H => ?_)
    · obtain ⟨x20, f1, H⟩ := bil (g := Slt.cells) Slt.cells_len H
      refine go1 ?_
      obtain ⟨x23, hx23, H⟩ := bnd H
      refine cl (C3 x20 z0t_1 _ hx23) ?_
      refine go ?_
      refine cdp H (fun h H => ?_) (fun h H => ?_)
      · refine go ?_
        exact hR _ (pur H).symm _ (rt [.int .i64 (-1)])
      · refine go ?_
        exact L1 a0 x23 (IntKind.i64.wrap (z0t_5 + 1)) _ H _ rfl Q τ  hE hR _ _  S hF
    · refine go ?_
      exact hE _ (pur H).symm _ _  S hF
  · intro laws_szValue C0 a0 a1 r H
    intro σ
    refine ctr_of mixed Tryd.func75 rfl (by kernel_rfl) (rs := [.tmp 4]) rfl (by kernel_rfl) ?_
    have hF := Fx.refl σ
    have hX := Tau.none σ
    have q := dum
    have tT := dum
    refine go ?_
    refine fx_alloc hF rfl fun b1 σ2 hF => ?_
    refine go ?_
    obtain ⟨x8, hx8, H⟩ := bnd H
    refine cl (C0 a0.val a1 _ hx8) ?_
    refine go ?_
    refine cdp H (fun h H => ?_) (fun h H => ?_)
    · refine go ?_
      have e := pur H; subst e
      exact rt [.int .i64 (-1)]
    · refine go ?_
      have e := pur H; subst e
      exact rt [.int .i64 x8]
  · intro laws_szValueS_l0 L0 a0 a1 r H
    intro σ
    refine ctr_of mixed Tryd.func41 rfl (by kernel_rfl) (rs := [.tmp 4]) rfl (by kernel_rfl) ?_
    have hF := Fx.refl σ
    have hX := Tau.none σ
    have q := dum
    have tT := dum
    refine go ?_
    refine cdp H (fun h H => ?_) (fun h H => ?_)
    · refine go ?_
      have e := pur H; subst e
      exact rt [.int .i64 (-1)]
    · refine go ?_
      obtain ⟨o1, ho1, H⟩ := bnd H
      refine L0 a0 (IntKind.i64.wrap (a1 - (a0.length : Int))) 0 _ ho1 _ rfl _ _  ?_ ?_ _ _  S hF
      · intro e2t_1 he T3 σ4 tT hF
        have he := he.symm
        subst he
        dsimp only at H
        refine go ?_
        have e := pur H; subst e
        exact rt [.int .i64 e2t_1]
      · intro r hr s' hs
        subst hr
        have e := pur H; subst e
        first | exact hs | (try simp only [Fm.cells_eq] at hs ⊢; exact hs)
  · intro laws_szValue laws_szValueS_l0 C0 L0 a0 z0t_1 z0t_5 out H c hc Q τ  hE hR T σ tT hF
    obtain rfl := Option.some.inj ((rfl : loopAt Tryd.f41 0 = some _).symm.trans hc)
    refine aLoop_round ?_
    have q := dum
    have hX := Tau.none τ
    refine go ?_
    refine cdp H (fun h H => ?_) (fun h H => ?_)
    · obtain ⟨x20, f1, H⟩ := bil (g := Val.cells) Val.cells_len H
      refine go1 ?_
      obtain ⟨x23, hx23, H⟩ := bnd H
      refine cl (C0 x20 z0t_1 _ hx23) ?_
      refine go ?_
      refine cdp H (fun h H => ?_) (fun h H => ?_)
      · refine go ?_
        exact hR _ (pur H).symm _ (rt [.int .i64 (-1)])
      · refine go ?_
        exact L0 a0 x23 (IntKind.i64.wrap (z0t_5 + 1)) _ H _ rfl Q τ  hE hR _ _  S hF
    · refine go ?_
      exact hE _ (pur H).symm _ _  S hF
theorem laws_szValue_ok : ∀ (a0 : Val) (a1 : Int) r, laws_szValue a0 a1 = some r → PCtr Tryd.prog 13 [.agg (Val.cells a0), .int .i64 a1] (.int .i64 r) := laws_szValue_all.1
theorem laws_szValueS_ok : ∀ (a0 : List Val) (a1 : Int) r, laws_szValueS a0 a1 = some r → PCtr Tryd.prog 41 [.sl false (rws Val.cells a0), .int .i64 a1] (.int .i64 r) := laws_szValue_all.2.1
theorem laws_szSlotS_ok : ∀ (a0 : List Slt) (a1 : Int) r, laws_szSlotS a0 a1 = some r → PCtr Tryd.prog 43 [.sl false (rws Slt.cells a0), .int .i64 a1] (.int .i64 r) := laws_szValue_all.2.2.1
theorem laws_szSlot_ok : ∀ (a0 : Slt) (a1 : Int) r, laws_szSlot a0 a1 = some r → PCtr Tryd.prog 75 [.agg (Slt.cells a0), .int .i64 a1] (.int .i64 r) := laws_szValue_all.2.2.2
theorem laws_toIntS_l0_ok : ∀ (a0 : List Int) (z0o_0 : List Int) (z0t_4 : Int) out, laws_toIntS_l0 a0 z0o_0 z0t_4 = some out → ∀ c, loopAt Tryd.f35 0 = some c → ∀ (Q : AX → AS → Prop) (τ : Sto) (b1 : Nat), (∀ (e0o_0 : List Int), out = e0o_0 → ∀ (T : Nat → AV) (σ : Sto), T 2 = .nilsl ∧ T 3 = .ref b1 a0.length a0.length → Fx τ σ [] [⟨.ref b1 a0.length a0.length, 3, 1, rws cI e0o_0⟩] → Q (.ex 0) ⟨T, σ⟩) → True → ∀ (T : Nat → AV) (σ : Sto), T 0 = .sl false (rws cI a0) ∧ T 2 = .nilsl ∧ T 3 = .ref b1 a0.length a0.length ∧ T 4 = .int .i64 z0t_4 → Fx τ σ [] [⟨.ref b1 a0.length a0.length, 3, 1, rws cI z0o_0⟩] → aLoop (acode Tryd.prog c) Q ⟨T, σ⟩ := by
  intro a0 z0o_0 z0t_4
  revert z0o_0 z0t_4
  refine laws_toIntS_l0.partial_correctness a0 _ ?_
  intro laws_toIntS_l0 IH z0o_0 z0t_4 out H c hc Q τ b1 hE hR T σ tT hF
  obtain rfl := Option.some.inj ((rfl : loopAt Tryd.f35 0 = some _).symm.trans hc)
  refine aLoop_round ?_
  have q := dum
  have hX := Tau.none τ
  refine go ?_
  refine cdp H (fun h H => ?_) (fun h H => ?_)
  · obtain ⟨x18, f1, H⟩ := bil (g := cI) (fun _ => rfl) H
    obtain ⟨x20, hx20, H⟩ := bnd H
    try simp only [go_sem, ↓reduceIte, Nat.reduceEqDiff, Nat.reduceAdd, Nat.reduceMul, Nat.reduceLeDiff, Nat.reduceLT, Int.reduceEq, Int.toNat_natCast, q, tT, hF.f, hF.m, hF.x hX, f1, aidx_own (l := z0o_0) ((own_at hF 0 rfl).1.trans (rws_len _)) hx20]
    refine fx_oset hF 0 (o := 0) (sz := 1) (k := 1) (v := (.int .i64 x18)) (cs := [.int .i64 x18]) (g := cI) (i := z0t_4) x18 (fun _ => rfl) (by first | rfl | simp) rfl hx20 rfl rfl (by decide) (by first | rfl | simp [splice_eq, cI, cU, cS, cL, cB]) fun σ3 hF => ?_
    have hF : Fx τ σ3 [] [⟨.ref b1 a0.length a0.length, 3, 1, rws cI (z0o_0.set z0t_4.toNat x18)⟩] := hF
    refine go ?_
    exact IH  (z0o_0.set z0t_4.toNat x18) (IntKind.i64.wrap (z0t_4 + 1)) _ H _ rfl Q τ b1 hE hR _ _  S hF
  · refine go ?_
    exact hE _ (pur H).symm _ _  S hF
theorem laws_toIntS_ok : ∀ (a0 : List Int) r, laws_toIntS a0 = some r → PCtr Tryd.prog 35 [.sl false (rws cI a0)] (.sl false (rws cI r)) := by
  intro a0 r H
  intro σ
  unfold laws_toIntS at H
  refine ctr_of mixed Tryd.func35 rfl (by kernel_rfl) (rs := [.tmp 2]) rfl (by kernel_rfl) ?_
  have hF := Fx.refl σ
  have hX := Tau.none σ
  have q := dum
  have tT := dum
  refine go ?_
  obtain ⟨x7, hx7, H⟩ := bnd H
  refine fx_make (g := cI) 0 hF rfl (fun _ => rfl) (by (try simp only [cI, cU, cS, cL, cB]); exact (.cons (.refl _) id .nil)) hx7 fun b1 σ2 hF => ?_
  simp only [Int.toNat_natCast] at hF
  refine go ?_
  obtain ⟨o4, ho4, H⟩ := bnd H
  refine laws_toIntS_l0_ok a0 x7 0 _ ho4 _ rfl _ _ b1 ?_ ?_ _ _  S hF
  · intro e5o_0 he T6 σ7 tT hF
    have he := he.symm
    subst he
    refine go ?_
    have e := pur H; subst e
    exact rt [.ref b1 a0.length a0.length]
  · trivial
theorem laws_toForm_all : (∀ (a0 : Fm) r, laws_toForm a0 = some r → PCtr Tryd.prog 10 [.agg (Fm.cells a0)] (.agg (Fm.cells r))) ∧ (∀ (a0 : List Fm) r, laws_toFormS a0 = some r → PCtr Tryd.prog 36 [.sl false (rws Fm.cells a0)] (.sl false (rws Fm.cells r))) := by
  have h := laws_toForm.mutual_partial_correctness (motive_1 := fun a0 r => PCtr Tryd.prog 10 [.agg (Fm.cells a0)] (.agg (Fm.cells r))) (motive_2 := fun a0 r => PCtr Tryd.prog 36 [.sl false (rws Fm.cells a0)] (.sl false (rws Fm.cells r))) (motive_3 := fun a0 z0o_0 z0t_4 out => ∀ c, loopAt Tryd.f36 0 = some c → ∀ (Q : AX → AS → Prop) (τ : Sto) (b1 : Nat), (∀ (e0o_0 : List Fm), out = e0o_0 → ∀ (T : Nat → AV) (σ : Sto), T 2 = .nilsl ∧ T 3 = .ref b1 a0.length a0.length → Fx τ σ [] [⟨.ref b1 a0.length a0.length, 30, 5, rws Fm.cells e0o_0⟩] → Q (.ex 0) ⟨T, σ⟩) → True → ∀ (T : Nat → AV) (σ : Sto), T 0 = .sl false (rws Fm.cells a0) ∧ T 2 = .nilsl ∧ T 3 = .ref b1 a0.length a0.length ∧ T 4 = .int .i64 z0t_4 → Fx τ σ [] [⟨.ref b1 a0.length a0.length, 30, 5, rws Fm.cells z0o_0⟩] → aLoop (acode Tryd.prog c) Q ⟨T, σ⟩) ?s0 ?s1 ?s2
  · exact ⟨h.1, h.2.1⟩
  · intro laws_toFormS C1 a0 r H
    intro σ
    refine ctr_of mixed Tryd.func10 rfl (by kernel_rfl) (rs := [.cell 2 30]) rfl (by kernel_rfl) ?_
    have hF := Fx.refl σ
    have hX := Tau.none σ
    have q := dum
    have tT := dum
    refine go ?_
    refine fx_alloc hF rfl fun b1 σ2 hF => ?_
    refine go ?_
    refine fx_alloc hF rfl fun b3 σ4 hF => ?_
    refine go ?_
    refine fx_alloc hF rfl fun b5 σ6 hF => ?_
    refine go ?_
    refine st hF 0 rfl fun σ7 hF => ?_
    refine go ?_
    refine st hF 0 rfl fun σ8 hF => ?_
    refine go ?_
    refine st hF 0 rfl fun σ9 hF => ?_
    refine go ?_
    obtain ⟨x15, hx15, H⟩ := bnd H
    refine cl (laws_toIntS_ok a0.sc _ hx15) ?_
    refine go ?_
    refine st hF 0 rfl fun σ10 hF => ?_
    refine go ?_
    obtain ⟨x19, hx19, H⟩ := bnd H
    refine cl (C1 a0.kids _ hx19) ?_
    refine go ?_
    refine st hF 0 rfl fun σ11 hF => ?_
    refine go ?_
    refine st hF 1 rfl fun σ12 hF => ?_
    refine go ?_
    have e := pur H; subst e
    exact rt [.agg [.int .i64 a0.kind, .str a0.name, .int .i64 a0.num, .sl false (rws cI x15), .sl false (rws Fm.cells x19)]]
  · intro laws_toFormS_l0 L0 a0 r H
    intro σ
    refine ctr_of mixed Tryd.func36 rfl (by kernel_rfl) (rs := [.tmp 2]) rfl (by kernel_rfl) ?_
    have hF := Fx.refl σ
    have hX := Tau.none σ
    have q := dum
    have tT := dum
    refine go ?_
    obtain ⟨x7, hx7, H⟩ := bnd H
    refine fx_make (g := Fm.cells) (Fm.mk 0 (ByteArray.mk #[]) 0 [] []) hF rfl Fm.cells_len (by (try simp only [cI, cU, cS, cL, cB, Fm.cells_eq]); exact (.cons (.refl _) id (.cons (.refl _) id (.cons (.refl _) id (.cons .nilsl (fun _ => rfl) (.cons .nilsl (fun _ => rfl) .nil)))))) hx7 fun b1 σ2 hF => ?_
    simp only [Int.toNat_natCast] at hF
    refine go ?_
    obtain ⟨o4, ho4, H⟩ := bnd H
    refine L0 a0 x7 0 _ ho4 _ rfl _ _ b1 ?_ ?_ _ _  S hF
    · intro e5o_0 he T6 σ7 tT hF
      have he := he.symm
      subst he
      refine go ?_
      have e := pur H; subst e
      exact rt [.ref b1 a0.length a0.length]
    · trivial
  · intro laws_toForm laws_toFormS_l0 C0 L0 a0 z0o_0 z0t_4 out H c hc Q τ b1 hE hR T σ tT hF
    obtain rfl := Option.some.inj ((rfl : loopAt Tryd.f36 0 = some _).symm.trans hc)
    refine aLoop_round ?_
    have q := dum
    have hX := Tau.none τ
    refine go ?_
    refine cdp H (fun h H => ?_) (fun h H => ?_)
    · obtain ⟨x18, f1, H⟩ := bil (g := Fm.cells) Fm.cells_len H
      refine go1 ?_
      obtain ⟨x20, hx20, H⟩ := bnd H
      refine cl (C0 x18 _ hx20) ?_
      obtain ⟨x21, hx21, H⟩ := bnd H
      try simp only [go_sem, ↓reduceIte, Nat.reduceEqDiff, Nat.reduceAdd, Nat.reduceMul, Nat.reduceLeDiff, Nat.reduceLT, Int.reduceEq, Int.toNat_natCast, q, tT, hF.f, hF.m, hF.x hX, aidx_own (l := z0o_0) ((own_at hF 0 rfl).1.trans (rws_len _)) hx21]
      refine fx_oset hF 0 (o := 0) (sz := 5) (k := 5) (v := (.agg [.int .i64 x20.kind, .str x20.name, .int .i64 x20.num, .sl false (rws cI x20.sc), .sl false (rws Fm.cells x20.kids)])) (cs := [.int .i64 x20.kind, .str x20.name, .int .i64 x20.num, .sl false (rws cI x20.sc), .sl false (rws Fm.cells x20.kids)]) (g := Fm.cells) (i := z0t_4) x20 Fm.cells_len (by first | rfl | simp) rfl hx21 rfl rfl (by decide) (by first | rfl | simp [splice_eq, cI, cU, cS, cL, cB, Fm.cells_eq]) fun σ3 hF => ?_
      have hF : Fx τ σ3 [] [⟨.ref b1 a0.length a0.length, 30, 5, rws Fm.cells (z0o_0.set z0t_4.toNat x20)⟩] := hF
      refine go ?_
      exact L0 a0 (z0o_0.set z0t_4.toNat x20) (IntKind.i64.wrap (z0t_4 + 1)) _ H _ rfl Q τ b1 hE hR _ _  S hF
    · refine go ?_
      exact hE _ (pur H).symm _ _  S hF
theorem laws_toForm_ok : ∀ (a0 : Fm) r, laws_toForm a0 = some r → PCtr Tryd.prog 10 [.agg (Fm.cells a0)] (.agg (Fm.cells r)) := laws_toForm_all.1
theorem laws_toFormS_ok : ∀ (a0 : List Fm) r, laws_toFormS a0 = some r → PCtr Tryd.prog 36 [.sl false (rws Fm.cells a0)] (.sl false (rws Fm.cells r)) := laws_toForm_all.2
theorem laws_toCore_all : (∀ (a0 : Cor) r, laws_toCore a0 = some r → PCtr Tryd.prog 46 [.agg (Cor.cells a0)] (.agg (Cor.cells r))) ∧ (∀ (a0 : List Cor) r, laws_toCoreS a0 = some r → PCtr Tryd.prog 76 [.sl false (rws Cor.cells a0)] (.sl false (rws Cor.cells r))) := by
  have h := laws_toCore.mutual_partial_correctness (motive_1 := fun a0 r => PCtr Tryd.prog 46 [.agg (Cor.cells a0)] (.agg (Cor.cells r))) (motive_2 := fun a0 r => PCtr Tryd.prog 76 [.sl false (rws Cor.cells a0)] (.sl false (rws Cor.cells r))) (motive_3 := fun a0 z0o_0 z0t_4 out => ∀ c, loopAt Tryd.f76 0 = some c → ∀ (Q : AX → AS → Prop) (τ : Sto) (b1 : Nat), (∀ (e0o_0 : List Cor), out = e0o_0 → ∀ (T : Nat → AV) (σ : Sto), T 2 = .nilsl ∧ T 3 = .ref b1 a0.length a0.length → Fx τ σ [] [⟨.ref b1 a0.length a0.length, 46, 11, rws Cor.cells e0o_0⟩] → Q (.ex 0) ⟨T, σ⟩) → True → ∀ (T : Nat → AV) (σ : Sto), T 0 = .sl false (rws Cor.cells a0) ∧ T 2 = .nilsl ∧ T 3 = .ref b1 a0.length a0.length ∧ T 4 = .int .i64 z0t_4 → Fx τ σ [] [⟨.ref b1 a0.length a0.length, 46, 11, rws Cor.cells z0o_0⟩] → aLoop (acode Tryd.prog c) Q ⟨T, σ⟩) ?s0 ?s1 ?s2
  · exact ⟨h.1, h.2.1⟩
  · intro laws_toCoreS C1 a0 r H
    intro σ
    refine ctr_of mixed Tryd.func46 rfl (by kernel_rfl) (rs := [.cell 2 46]) rfl (by kernel_rfl) ?_
    have hF := Fx.refl σ
    have hX := Tau.none σ
    have q := dum
    have tT := dum
    refine go ?_
    refine fx_alloc hF rfl fun b1 σ2 hF => ?_
    refine go ?_
    refine fx_alloc hF rfl fun b3 σ4 hF => ?_
    refine go ?_
    refine fx_alloc hF rfl fun b5 σ6 hF => ?_
    refine go ?_
    refine st hF 0 rfl fun σ7 hF => ?_
    refine go ?_
    refine st hF 0 rfl fun σ8 hF => ?_
    refine go ?_
    refine st hF 0 rfl fun σ9 hF => ?_
    refine go ?_
    refine st hF 0 rfl fun σ10 hF => ?_
    refine go ?_
    obtain ⟨x18, hx18, H⟩ := bnd H
    refine cl (laws_toIntS_ok a0.ids _ hx18) ?_
    refine go ?_
    refine st hF 0 rfl fun σ11 hF => ?_
    refine go ?_
    obtain ⟨x22, hx22, H⟩ := bnd H
    refine cl (laws_toForm_ok a0.data _ hx22) ?_
    refine go ?_
    refine st hF 0 rfl fun σ12 hF => ?_
    refine go ?_
    obtain ⟨x26, hx26, H⟩ := bnd H
    refine cl (C1 a0.kids _ hx26) ?_
    refine go ?_
    refine st hF 0 rfl fun σ13 hF => ?_
    refine go ?_
    refine st hF 1 rfl fun σ14 hF => ?_
    refine go ?_
    have e := pur H; subst e
    exact rt [.agg [.int .i64 a0.kind, .int .i64 a0.id, .str a0.name, .int .i64 a0.num, .sl false (rws cI x18), .int .i64 x22.kind, .str x22.name, .int .i64 x22.num, .sl false (rws cI x22.sc), .sl false (rws Fm.cells x22.kids), .sl false (rws Cor.cells x26)]]
  · intro laws_toCoreS_l0 L0 a0 r H
    intro σ
    refine ctr_of mixed Tryd.func76 rfl (by kernel_rfl) (rs := [.tmp 2]) rfl (by kernel_rfl) ?_
    have hF := Fx.refl σ
    have hX := Tau.none σ
    have q := dum
    have tT := dum
    refine go ?_
    obtain ⟨x7, hx7, H⟩ := bnd H
    refine fx_make (g := Cor.cells) (Cor.mk 0 0 (ByteArray.mk #[]) 0 [] (Fm.mk 0 (ByteArray.mk #[]) 0 [] []) []) hF rfl Cor.cells_len (by (try simp only [cI, cU, cS, cL, cB, Cor.cells_eq, Fm.cells_eq]); exact (.cons (.refl _) id (.cons (.refl _) id (.cons (.refl _) id (.cons (.refl _) id (.cons .nilsl (fun _ => rfl) (.cons (.refl _) id (.cons (.refl _) id (.cons (.refl _) id (.cons .nilsl (fun _ => rfl) (.cons .nilsl (fun _ => rfl) (.cons .nilsl (fun _ => rfl) .nil)))))))))))) hx7 fun b1 σ2 hF => ?_
    simp only [Int.toNat_natCast] at hF
    refine go ?_
    obtain ⟨o4, ho4, H⟩ := bnd H
    refine L0 a0 x7 0 _ ho4 _ rfl _ _ b1 ?_ ?_ _ _  S hF
    · intro e5o_0 he T6 σ7 tT hF
      have he := he.symm
      subst he
      refine go ?_
      have e := pur H; subst e
      exact rt [.ref b1 a0.length a0.length]
    · trivial
  · intro laws_toCore laws_toCoreS_l0 C0 L0 a0 z0o_0 z0t_4 out H c hc Q τ b1 hE hR T σ tT hF
    obtain rfl := Option.some.inj ((rfl : loopAt Tryd.f76 0 = some _).symm.trans hc)
    refine aLoop_round ?_
    have q := dum
    have hX := Tau.none τ
    refine go ?_
    refine cdp H (fun h H => ?_) (fun h H => ?_)
    · obtain ⟨x18, f1, H⟩ := bil (g := Cor.cells) Cor.cells_len H
      refine go1 ?_
      obtain ⟨x20, hx20, H⟩ := bnd H
      refine cl (C0 x18 _ hx20) ?_
      obtain ⟨x21, hx21, H⟩ := bnd H
      try simp only [go_sem, ↓reduceIte, Nat.reduceEqDiff, Nat.reduceAdd, Nat.reduceMul, Nat.reduceLeDiff, Nat.reduceLT, Int.reduceEq, Int.toNat_natCast, q, tT, hF.f, hF.m, hF.x hX, aidx_own (l := z0o_0) ((own_at hF 0 rfl).1.trans (rws_len _)) hx21]
      refine fx_oset hF 0 (o := 0) (sz := 11) (k := 11) (v := (.agg [.int .i64 x20.kind, .int .i64 x20.id, .str x20.name, .int .i64 x20.num, .sl false (rws cI x20.ids), .int .i64 x20.data.kind, .str x20.data.name, .int .i64 x20.data.num, .sl false (rws cI x20.data.sc), .sl false (rws Fm.cells x20.data.kids), .sl false (rws Cor.cells x20.kids)])) (cs := [.int .i64 x20.kind, .int .i64 x20.id, .str x20.name, .int .i64 x20.num, .sl false (rws cI x20.ids), .int .i64 x20.data.kind, .str x20.data.name, .int .i64 x20.data.num, .sl false (rws cI x20.data.sc), .sl false (rws Fm.cells x20.data.kids), .sl false (rws Cor.cells x20.kids)]) (g := Cor.cells) (i := z0t_4) x20 Cor.cells_len (by first | rfl | simp) rfl hx21 rfl rfl (by decide) (by first | rfl | simp [splice_eq, cI, cU, cS, cL, cB, Cor.cells_eq, Fm.cells_eq]) fun σ3 hF => ?_
      have hF : Fx τ σ3 [] [⟨.ref b1 a0.length a0.length, 46, 11, rws Cor.cells (z0o_0.set z0t_4.toNat x20)⟩] := hF
      refine go ?_
      exact L0 a0 (z0o_0.set z0t_4.toNat x20) (IntKind.i64.wrap (z0t_4 + 1)) _ H _ rfl Q τ b1 hE hR _ _  S hF
    · refine go ?_
      exact hE _ (pur H).symm _ _  S hF
theorem laws_toCore_ok : ∀ (a0 : Cor) r, laws_toCore a0 = some r → PCtr Tryd.prog 46 [.agg (Cor.cells a0)] (.agg (Cor.cells r)) := laws_toCore_all.1
theorem laws_toCoreS_ok : ∀ (a0 : List Cor) r, laws_toCoreS a0 = some r → PCtr Tryd.prog 76 [.sl false (rws Cor.cells a0)] (.sl false (rws Cor.cells r)) := laws_toCore_all.2
theorem laws_toValue_all : (∀ (a0 : Val) r, laws_toValue a0 = some r → PCtr Tryd.prog 15 [.agg (Val.cells a0)] (.agg (Val.cells r))) ∧ (∀ (a0 : List Val) r, laws_toValueS a0 = some r → PCtr Tryd.prog 45 [.sl false (rws Val.cells a0)] (.sl false (rws Val.cells r))) ∧ (∀ (a0 : List Slt) r, laws_toSlotS a0 = some r → PCtr Tryd.prog 47 [.sl false (rws Slt.cells a0)] (.sl false (rws Slt.cells r))) ∧ (∀ (a0 : Slt) r, laws_toSlot a0 = some r → PCtr Tryd.prog 77 [.agg (Slt.cells a0)] (.agg (Slt.cells r))) := by
  have h := laws_toValue.mutual_partial_correctness (motive_1 := fun a0 r => PCtr Tryd.prog 15 [.agg (Val.cells a0)] (.agg (Val.cells r))) (motive_2 := fun a0 r => PCtr Tryd.prog 47 [.sl false (rws Slt.cells a0)] (.sl false (rws Slt.cells r))) (motive_3 := fun a0 z0o_0 z0t_4 out => ∀ c, loopAt Tryd.f47 0 = some c → ∀ (Q : AX → AS → Prop) (τ : Sto) (b1 : Nat), (∀ (e0o_0 : List Slt), out = e0o_0 → ∀ (T : Nat → AV) (σ : Sto), T 2 = .nilsl ∧ T 3 = .ref b1 a0.length a0.length → Fx τ σ [] [⟨.ref b1 a0.length a0.length, 116, 17, rws Slt.cells e0o_0⟩] → Q (.ex 0) ⟨T, σ⟩) → True → ∀ (T : Nat → AV) (σ : Sto), T 0 = .sl false (rws Slt.cells a0) ∧ T 2 = .nilsl ∧ T 3 = .ref b1 a0.length a0.length ∧ T 4 = .int .i64 z0t_4 → Fx τ σ [] [⟨.ref b1 a0.length a0.length, 116, 17, rws Slt.cells z0o_0⟩] → aLoop (acode Tryd.prog c) Q ⟨T, σ⟩) (motive_4 := fun a0 r => PCtr Tryd.prog 77 [.agg (Slt.cells a0)] (.agg (Slt.cells r))) (motive_5 := fun a0 r => PCtr Tryd.prog 45 [.sl false (rws Val.cells a0)] (.sl false (rws Val.cells r))) (motive_6 := fun a0 z0o_0 z0t_4 out => ∀ c, loopAt Tryd.f45 0 = some c → ∀ (Q : AX → AS → Prop) (τ : Sto) (b1 : Nat), (∀ (e0o_0 : List Val), out = e0o_0 → ∀ (T : Nat → AV) (σ : Sto), T 2 = .nilsl ∧ T 3 = .ref b1 a0.length a0.length → Fx τ σ [] [⟨.ref b1 a0.length a0.length, 49, 16, rws Val.cells e0o_0⟩] → Q (.ex 0) ⟨T, σ⟩) → True → ∀ (T : Nat → AV) (σ : Sto), T 0 = .sl false (rws Val.cells a0) ∧ T 2 = .nilsl ∧ T 3 = .ref b1 a0.length a0.length ∧ T 4 = .int .i64 z0t_4 → Fx τ σ [] [⟨.ref b1 a0.length a0.length, 49, 16, rws Val.cells z0o_0⟩] → aLoop (acode Tryd.prog c) Q ⟨T, σ⟩) ?s0 ?s1 ?s2 ?s3 ?s4 ?s5
  · exact ⟨h.1, h.2.2.2.2.1, h.2.1, h.2.2.2.1⟩
  · intro laws_toSlotS laws_toValueS C2 C1 a0 r H
    intro σ
    refine ctr_of mixed Tryd.func15 rfl (by kernel_rfl) (rs := [.cell 2 49]) rfl (by kernel_rfl) ?_
    have hF := Fx.refl σ
    have hX := Tau.none σ
    have q := dum
    have tT := dum
    refine go ?_
    refine fx_alloc hF rfl fun b1 σ2 hF => ?_
    refine go ?_
    refine fx_alloc hF rfl fun b3 σ4 hF => ?_
    refine go ?_
    refine fx_alloc hF rfl fun b5 σ6 hF => ?_
    refine go ?_
    refine st hF 0 rfl fun σ7 hF => ?_
    refine go ?_
    refine st hF 0 rfl fun σ8 hF => ?_
    refine go ?_
    refine st hF 0 rfl fun σ9 hF => ?_
    refine go ?_
    obtain ⟨x15, hx15, H⟩ := bnd H
    refine cl (C1 a0.items _ hx15) ?_
    refine go ?_
    refine st hF 0 rfl fun σ10 hF => ?_
    refine go ?_
    obtain ⟨x19, hx19, H⟩ := bnd H
    refine cl (laws_toCore_ok a0.fn _ hx19) ?_
    refine go ?_
    refine st hF 0 rfl fun σ11 hF => ?_
    refine go ?_
    obtain ⟨x23, hx23, H⟩ := bnd H
    refine cl (C2 a0.env _ hx23) ?_
    refine go ?_
    refine st hF 0 rfl fun σ12 hF => ?_
    refine go ?_
    refine st hF 1 rfl fun σ13 hF => ?_
    refine go ?_
    have e := pur H; subst e
    exact rt [.agg [.int .i64 a0.kind, .int .i64 a0.num, .str a0.name, .sl false (rws Val.cells x15), .int .i64 x19.kind, .int .i64 x19.id, .str x19.name, .int .i64 x19.num, .sl false (rws cI x19.ids), .int .i64 x19.data.kind, .str x19.data.name, .int .i64 x19.data.num, .sl false (rws cI x19.data.sc), .sl false (rws Fm.cells x19.data.kids), .sl false (rws Cor.cells x19.kids), .sl false (rws Slt.cells x23)]]
  · intro laws_toSlotS_l0 L1 a0 r H
    intro σ
    refine ctr_of mixed Tryd.func47 rfl (by kernel_rfl) (rs := [.tmp 2]) rfl (by kernel_rfl) ?_
    have hF := Fx.refl σ
    have hX := Tau.none σ
    have q := dum
    have tT := dum
    refine go ?_
    obtain ⟨x7, hx7, H⟩ := bnd H
    refine fx_make (g := Slt.cells) (Slt.mk 0 (Val.mk 0 0 (ByteArray.mk #[]) [] (Cor.mk 0 0 (ByteArray.mk #[]) 0 [] (Fm.mk 0 (ByteArray.mk #[]) 0 [] []) []) [])) hF rfl Slt.cells_len (by (try simp only [cI, cU, cS, cL, cB, Slt.cells_eq, Val.cells_eq, Cor.cells_eq, Fm.cells_eq]); exact (.cons (.refl _) id (.cons (.refl _) id (.cons (.refl _) id (.cons (.refl _) id (.cons .nilsl (fun _ => rfl) (.cons (.refl _) id (.cons (.refl _) id (.cons (.refl _) id (.cons (.refl _) id (.cons .nilsl (fun _ => rfl) (.cons (.refl _) id (.cons (.refl _) id (.cons (.refl _) id (.cons .nilsl (fun _ => rfl) (.cons .nilsl (fun _ => rfl) (.cons .nilsl (fun _ => rfl) (.cons .nilsl (fun _ => rfl) .nil)))))))))))))))))) hx7 fun b1 σ2 hF => ?_
    simp only [Int.toNat_natCast] at hF
    refine go ?_
    obtain ⟨o4, ho4, H⟩ := bnd H
    refine L1 a0 x7 0 _ ho4 _ rfl _ _ b1 ?_ ?_ _ _  S hF
    · intro e5o_0 he T6 σ7 tT hF
      have he := he.symm
      subst he
      refine go ?_
      have e := pur H; subst e
      exact rt [.ref b1 a0.length a0.length]
    · trivial
  · intro laws_toSlotS_l0 laws_toSlot L1 C3 a0 z0o_0 z0t_4 out H c hc Q τ b1 hE hR T σ tT hF
    obtain rfl := Option.some.inj ((rfl : loopAt Tryd.f47 0 = some _).symm.trans hc)
    refine aLoop_round ?_
    have q := dum
    have hX := Tau.none τ
    refine go ?_
    refine cdp H (fun h H => ?_) (fun h H => ?_)
    · obtain ⟨x18, f1, H⟩ := bil (g := Slt.cells) Slt.cells_len H
      refine go1 ?_
      obtain ⟨x20, hx20, H⟩ := bnd H
      refine cl (C3 x18 _ hx20) ?_
      obtain ⟨x21, hx21, H⟩ := bnd H
      try simp only [go_sem, ↓reduceIte, Nat.reduceEqDiff, Nat.reduceAdd, Nat.reduceMul, Nat.reduceLeDiff, Nat.reduceLT, Int.reduceEq, Int.toNat_natCast, q, tT, hF.f, hF.m, hF.x hX, aidx_own (l := z0o_0) ((own_at hF 0 rfl).1.trans (rws_len _)) hx21]
      refine fx_oset hF 0 (o := 0) (sz := 17) (k := 17) (v := (.agg [.int .i64 x20.id, .int .i64 x20.val.kind, .int .i64 x20.val.num, .str x20.val.name, .sl false (rws Val.cells x20.val.items), .int .i64 x20.val.fn.kind, .int .i64 x20.val.fn.id, .str x20.val.fn.name, .int .i64 x20.val.fn.num, .sl false (rws cI x20.val.fn.ids), .int .i64 x20.val.fn.data.kind, .str x20.val.fn.data.name, .int .i64 x20.val.fn.data.num, .sl false (rws cI x20.val.fn.data.sc), .sl false (rws Fm.cells x20.val.fn.data.kids), .sl false (rws Cor.cells x20.val.fn.kids), .sl false (rws Slt.cells x20.val.env)])) (cs := [.int .i64 x20.id, .int .i64 x20.val.kind, .int .i64 x20.val.num, .str x20.val.name, .sl false (rws Val.cells x20.val.items), .int .i64 x20.val.fn.kind, .int .i64 x20.val.fn.id, .str x20.val.fn.name, .int .i64 x20.val.fn.num, .sl false (rws cI x20.val.fn.ids), .int .i64 x20.val.fn.data.kind, .str x20.val.fn.data.name, .int .i64 x20.val.fn.data.num, .sl false (rws cI x20.val.fn.data.sc), .sl false (rws Fm.cells x20.val.fn.data.kids), .sl false (rws Cor.cells x20.val.fn.kids), .sl false (rws Slt.cells x20.val.env)]) (g := Slt.cells) (i := z0t_4) x20 Slt.cells_len (by first | rfl | simp) rfl hx21 rfl rfl (by decide) (by first | rfl | simp [splice_eq, cI, cU, cS, cL, cB, Slt.cells_eq, Val.cells_eq, Cor.cells_eq, Fm.cells_eq]) fun σ3 hF => ?_
      have hF : Fx τ σ3 [] [⟨.ref b1 a0.length a0.length, 116, 17, rws Slt.cells (z0o_0.set z0t_4.toNat x20)⟩] := hF
      refine go ?_
      exact L1 a0 (z0o_0.set z0t_4.toNat x20) (IntKind.i64.wrap (z0t_4 + 1)) _ H _ rfl Q τ b1 hE hR _ _  S hF
    · refine go ?_
      exact hE _ (pur H).symm _ _  S hF
  · intro laws_toValue C0 a0 r H
    intro σ
    refine ctr_of mixed Tryd.func77 rfl (by kernel_rfl) (rs := [.cell 2 116]) rfl (by kernel_rfl) ?_
    have hF := Fx.refl σ
    have hX := Tau.none σ
    have q := dum
    have tT := dum
    refine go ?_
    refine fx_alloc hF rfl fun b1 σ2 hF => ?_
    refine go ?_
    refine fx_alloc hF rfl fun b3 σ4 hF => ?_
    refine go ?_
    refine fx_alloc hF rfl fun b5 σ6 hF => ?_
    refine go ?_
    refine st hF 0 rfl fun σ7 hF => ?_
    refine go ?_
    obtain ⟨x9, hx9, H⟩ := bnd H
    refine cl (C0 a0.val _ hx9) ?_
    refine go ?_
    refine st hF 0 rfl fun σ8 hF => ?_
    refine go ?_
    refine st hF 1 rfl fun σ9 hF => ?_
    refine go ?_
    have e := pur H; subst e
    exact rt [.agg [.int .i64 a0.id, .int .i64 x9.kind, .int .i64 x9.num, .str x9.name, .sl false (rws Val.cells x9.items), .int .i64 x9.fn.kind, .int .i64 x9.fn.id, .str x9.fn.name, .int .i64 x9.fn.num, .sl false (rws cI x9.fn.ids), .int .i64 x9.fn.data.kind, .str x9.fn.data.name, .int .i64 x9.fn.data.num, .sl false (rws cI x9.fn.data.sc), .sl false (rws Fm.cells x9.fn.data.kids), .sl false (rws Cor.cells x9.fn.kids), .sl false (rws Slt.cells x9.env)]]
  · intro laws_toValueS_l0 L0 a0 r H
    intro σ
    refine ctr_of mixed Tryd.func45 rfl (by kernel_rfl) (rs := [.tmp 2]) rfl (by kernel_rfl) ?_
    have hF := Fx.refl σ
    have hX := Tau.none σ
    have q := dum
    have tT := dum
    refine go ?_
    obtain ⟨x7, hx7, H⟩ := bnd H
    refine fx_make (g := Val.cells) (Val.mk 0 0 (ByteArray.mk #[]) [] (Cor.mk 0 0 (ByteArray.mk #[]) 0 [] (Fm.mk 0 (ByteArray.mk #[]) 0 [] []) []) []) hF rfl Val.cells_len (by (try simp only [cI, cU, cS, cL, cB, Val.cells_eq, Cor.cells_eq, Fm.cells_eq]); exact (.cons (.refl _) id (.cons (.refl _) id (.cons (.refl _) id (.cons .nilsl (fun _ => rfl) (.cons (.refl _) id (.cons (.refl _) id (.cons (.refl _) id (.cons (.refl _) id (.cons .nilsl (fun _ => rfl) (.cons (.refl _) id (.cons (.refl _) id (.cons (.refl _) id (.cons .nilsl (fun _ => rfl) (.cons .nilsl (fun _ => rfl) (.cons .nilsl (fun _ => rfl) (.cons .nilsl (fun _ => rfl) .nil))))))))))))))))) hx7 fun b1 σ2 hF => ?_
    simp only [Int.toNat_natCast] at hF
    refine go ?_
    obtain ⟨o4, ho4, H⟩ := bnd H
    refine L0 a0 x7 0 _ ho4 _ rfl _ _ b1 ?_ ?_ _ _  S hF
    · intro e5o_0 he T6 σ7 tT hF
      have he := he.symm
      subst he
      refine go ?_
      have e := pur H; subst e
      exact rt [.ref b1 a0.length a0.length]
    · trivial
  · intro laws_toValue laws_toValueS_l0 C0 L0 a0 z0o_0 z0t_4 out H c hc Q τ b1 hE hR T σ tT hF
    obtain rfl := Option.some.inj ((rfl : loopAt Tryd.f45 0 = some _).symm.trans hc)
    refine aLoop_round ?_
    have q := dum
    have hX := Tau.none τ
    refine go ?_
    refine cdp H (fun h H => ?_) (fun h H => ?_)
    · obtain ⟨x18, f1, H⟩ := bil (g := Val.cells) Val.cells_len H
      refine go1 ?_
      obtain ⟨x20, hx20, H⟩ := bnd H
      refine cl (C0 x18 _ hx20) ?_
      obtain ⟨x21, hx21, H⟩ := bnd H
      try simp only [go_sem, ↓reduceIte, Nat.reduceEqDiff, Nat.reduceAdd, Nat.reduceMul, Nat.reduceLeDiff, Nat.reduceLT, Int.reduceEq, Int.toNat_natCast, q, tT, hF.f, hF.m, hF.x hX, aidx_own (l := z0o_0) ((own_at hF 0 rfl).1.trans (rws_len _)) hx21]
      refine fx_oset hF 0 (o := 0) (sz := 16) (k := 16) (v := (.agg [.int .i64 x20.kind, .int .i64 x20.num, .str x20.name, .sl false (rws Val.cells x20.items), .int .i64 x20.fn.kind, .int .i64 x20.fn.id, .str x20.fn.name, .int .i64 x20.fn.num, .sl false (rws cI x20.fn.ids), .int .i64 x20.fn.data.kind, .str x20.fn.data.name, .int .i64 x20.fn.data.num, .sl false (rws cI x20.fn.data.sc), .sl false (rws Fm.cells x20.fn.data.kids), .sl false (rws Cor.cells x20.fn.kids), .sl false (rws Slt.cells x20.env)])) (cs := [.int .i64 x20.kind, .int .i64 x20.num, .str x20.name, .sl false (rws Val.cells x20.items), .int .i64 x20.fn.kind, .int .i64 x20.fn.id, .str x20.fn.name, .int .i64 x20.fn.num, .sl false (rws cI x20.fn.ids), .int .i64 x20.fn.data.kind, .str x20.fn.data.name, .int .i64 x20.fn.data.num, .sl false (rws cI x20.fn.data.sc), .sl false (rws Fm.cells x20.fn.data.kids), .sl false (rws Cor.cells x20.fn.kids), .sl false (rws Slt.cells x20.env)]) (g := Val.cells) (i := z0t_4) x20 Val.cells_len (by first | rfl | simp) rfl hx21 rfl rfl (by decide) (by first | rfl | simp [splice_eq, cI, cU, cS, cL, cB, Val.cells_eq, Cor.cells_eq, Fm.cells_eq]) fun σ3 hF => ?_
      have hF : Fx τ σ3 [] [⟨.ref b1 a0.length a0.length, 49, 16, rws Val.cells (z0o_0.set z0t_4.toNat x20)⟩] := hF
      refine go ?_
      exact L0 a0 (z0o_0.set z0t_4.toNat x20) (IntKind.i64.wrap (z0t_4 + 1)) _ H _ rfl Q τ b1 hE hR _ _  S hF
    · refine go ?_
      exact hE _ (pur H).symm _ _  S hF
theorem laws_toValue_ok : ∀ (a0 : Val) r, laws_toValue a0 = some r → PCtr Tryd.prog 15 [.agg (Val.cells a0)] (.agg (Val.cells r)) := laws_toValue_all.1
theorem laws_toValueS_ok : ∀ (a0 : List Val) r, laws_toValueS a0 = some r → PCtr Tryd.prog 45 [.sl false (rws Val.cells a0)] (.sl false (rws Val.cells r)) := laws_toValue_all.2.1
theorem laws_toSlotS_ok : ∀ (a0 : List Slt) r, laws_toSlotS a0 = some r → PCtr Tryd.prog 47 [.sl false (rws Slt.cells a0)] (.sl false (rws Slt.cells r)) := laws_toValue_all.2.2.1
theorem laws_toSlot_ok : ∀ (a0 : Slt) r, laws_toSlot a0 = some r → PCtr Tryd.prog 77 [.agg (Slt.cells a0)] (.agg (Slt.cells r)) := laws_toValue_all.2.2.2
theorem spec_l15Dec_l0_ok : ∀ (z0t_0 : Int) (z0t_3 : ByteArray) out, spec_l15Dec_l0 z0t_0 z0t_3 = some out → ∀ c, loopAt Tryd.f34 0 = some c → ∀ (Q : AX → AS → Prop) (τ : Sto), (∀ (e0t_0 : Int) (e0t_3 : ByteArray), out = (e0t_0, e0t_3) → ∀ (T : Nat → AV) (σ : Sto), T 0 = .int .i64 e0t_0 ∧ T 2 = .str (ByteArray.mk #[]) ∧ T 3 = .str e0t_3 → Fx τ σ [] [] → Q (.ex 0) ⟨T, σ⟩) → True → ∀ (T : Nat → AV) (σ : Sto), T 0 = .int .i64 z0t_0 ∧ T 2 = .str (ByteArray.mk #[]) ∧ T 3 = .str z0t_3 → Fx τ σ [] [] → aLoop (acode Tryd.prog c) Q ⟨T, σ⟩ := by
  refine spec_l15Dec_l0.partial_correctness  _ ?_
  intro spec_l15Dec_l0 IH z0t_0 z0t_3 out H c hc Q τ  hE hR T σ tT hF
  obtain rfl := Option.some.inj ((rfl : loopAt Tryd.f34 0 = some _).symm.trans hc)
  refine aLoop_round ?_
  have q := dum
  have hX := Tau.none τ
  refine go ?_
  refine cdp H (fun h H => ?_) (fun h H => ?_)
  · obtain ⟨x21, f1, H⟩ := bsc H
    refine go1 ?_
    refine go ?_
    exact IH  (IntKind.i64.wrap (z0t_0.tdiv 10)) x21 _ H _ rfl Q τ  hE hR _ _  S hF
  · refine go ?_
    exact hE _ _ (pur H).symm _ _  S hF
theorem spec_l15Dec_ok : ∀ (a0 : Int) r, spec_l15Dec a0 = some r → PCtr Tryd.prog 34 [.int .i64 a0] (.str r) := by
  refine spec_l15Dec.partial_correctness  (motive := fun a0 r => PCtr Tryd.prog 34 [.int .i64 a0] (.str r)) ?_
  · intro spec_l15Dec C0 a0 r H
    intro σ
    refine ctr_of mixed Tryd.func34 rfl (by kernel_rfl) (rs := [.tmp 2]) rfl (by kernel_rfl) ?_
    have hF := Fx.refl σ
    have hX := Tau.none σ
    have q := dum
    have tT := dum
    refine go ?_
    refine cdp H (fun h H => ?_) (fun h H => ?_)
    · refine go ?_
      have e := pur H; subst e
      exact rt [.str (ByteArray.mk #[45, 57, 50, 50, 51, 51, 55, 50, 48, 51, 54, 56, 53, 52, 55, 55, 53, 56, 48, 56])]
    · refine go ?_
      refine cdp H (fun h H => ?_) (fun h H => ?_)
      · refine go ?_
        obtain ⟨x10, hx10, H⟩ := bnd H
        refine cl (C0 (IntKind.i64.wrap (0 - a0)) _ hx10) ?_
        obtain ⟨x11, f1, H⟩ := bsc H
        refine go1 ?_
        refine go ?_
        have e := pur H; subst e
        exact rt [.str x11]
      · refine go ?_
        obtain ⟨o1, ho1, H⟩ := bnd H
        refine spec_l15Dec_l0_ok  a0 (ByteArray.mk #[]) _ ho1 _ rfl _ _  ?_ ?_ _ _  S hF
        · intro e2t_0 e2t_3 he T3 σ4 tT hF
          have he := he.symm
          subst he
          dsimp only at H
          obtain ⟨x30, f1, H⟩ := bsc H
          refine go1 ?_
          refine go ?_
          have e := pur H; subst e
          exact rt [.str x30]
        · trivial
theorem spec_l8Text_ok : ∀ (a0 : Val) (a1 : Int) r, spec_l8Text a0 a1 = some r → PCtr Tryd.prog 44 [.agg (Val.cells a0), .int .i64 a1] (.str r) := by
  refine spec_l8Text.partial_correctness  (motive_1 := fun a0 a1 r => PCtr Tryd.prog 44 [.agg (Val.cells a0), .int .i64 a1] (.str r)) (motive_2 := fun a0 a1 z0t_5 z0t_6 out => ∀ c, loopAt Tryd.f44 0 = some c → ∀ (Q : AX → AS → Prop) (τ : Sto) (b1 : Nat), (∀ (e0t_5 : ByteArray), out = e0t_5 → ∀ (T : Nat → AV) (σ : Sto), T 4 = .str (ByteArray.mk #[]) ∧ T 5 = .str e0t_5 → Fx τ σ [(b1, ⟨49, 16, [.int .i64 a0.kind, .int .i64 a0.num, .str a0.name, .sl false (rws Val.cells a0.items), .int .i64 a0.fn.kind, .int .i64 a0.fn.id, .str a0.fn.name, .int .i64 a0.fn.num, .sl false (rws cI a0.fn.ids), .int .i64 a0.fn.data.kind, .str a0.fn.data.name, .int .i64 a0.fn.data.num, .sl false (rws cI a0.fn.data.sc), .sl false (rws Fm.cells a0.fn.data.kids), .sl false (rws Cor.cells a0.fn.kids), .sl false (rws Slt.cells a0.env)]⟩)] [] → Q (.ex 1) ⟨T, σ⟩) → True → ∀ (T : Nat → AV) (σ : Sto), T 1 = .int .i64 a1 ∧ T 2 = .ptr b1 0 ∧ T 4 = .str (ByteArray.mk #[]) ∧ T 5 = .str z0t_5 ∧ T 6 = .int .i64 z0t_6 → Fx τ σ [(b1, ⟨49, 16, [.int .i64 a0.kind, .int .i64 a0.num, .str a0.name, .sl false (rws Val.cells a0.items), .int .i64 a0.fn.kind, .int .i64 a0.fn.id, .str a0.fn.name, .int .i64 a0.fn.num, .sl false (rws cI a0.fn.ids), .int .i64 a0.fn.data.kind, .str a0.fn.data.name, .int .i64 a0.fn.data.num, .sl false (rws cI a0.fn.data.sc), .sl false (rws Fm.cells a0.fn.data.kids), .sl false (rws Cor.cells a0.fn.kids), .sl false (rws Slt.cells a0.env)]⟩)] [] → aLoop (acode Tryd.prog c) Q ⟨T, σ⟩) ?_ ?_
  · intro spec_l8Text_l0 L0 a0 a1 r H
    intro σ
    refine ctr_of mixed Tryd.func44 rfl (by kernel_rfl) (rs := [.tmp 4]) rfl (by kernel_rfl) ?_
    have hF := Fx.refl σ
    have hX := Tau.none σ
    have q := dum
    have tT := dum
    refine go ?_
    refine fx_alloc hF rfl fun b1 σ2 hF => ?_
    refine go ?_
    refine cdp H (fun h H => ?_) (fun h H => ?_)
    · refine go ?_
      have e := pur H; subst e
      exact rt [.str (ByteArray.mk #[46, 46])]
    · refine go ?_
      refine cdp H (fun h H => ?_) (fun h H => ?_)
      · refine go ?_
        obtain ⟨x15, hx15, H⟩ := bnd H
        refine cl (spec_l15Dec_ok a0.num _ hx15) ?_
        refine go ?_
        have e := pur H; subst e
        exact rt [.str x15]
      · refine go ?_
        obtain ⟨y3t_16, j4, H⟩ := bnd H
        refine aCnd_join (fun s' => ∃ (T : Nat → AV) (σ1 : Sto), s' = ⟨T, σ1⟩ ∧ (T 1 = .int .i64 a1 ∧ T 2 = .ptr b1 0 ∧ T 4 = .str (ByteArray.mk #[]) ∧ T 10 = .int .i64 a0.kind ∧ T 16 = .bool y3t_16) ∧ Fx σ σ1 [(b1, ⟨49, 16, [.int .i64 a0.kind, .int .i64 a0.num, .str a0.name, .sl false (rws Val.cells a0.items), .int .i64 a0.fn.kind, .int .i64 a0.fn.id, .str a0.fn.name, .int .i64 a0.fn.num, .sl false (rws cI a0.fn.ids), .int .i64 a0.fn.data.kind, .str a0.fn.data.name, .int .i64 a0.fn.data.num, .sl false (rws cI a0.fn.data.sc), .sl false (rws Fm.cells a0.fn.data.kids), .sl false (rws Cor.cells a0.fn.kids), .sl false (rws Slt.cells a0.env)]⟩)] []) (cdp j4 (fun h j4 => ?_) (fun h j4 => ?_)) ?_
        · refine go ?_
          have e := pur j4
          subst e
          exact ⟨_, _, rfl, S, hF⟩
        · refine go ?_
          have e := pur j4
          subst e
          exact ⟨_, _, rfl, S, hF⟩
        · rintro s' ⟨T5, σ6, rfl, tT, hF⟩
          refine go ?_
          refine cdb H (fun h H => ?_) (fun h H => ?_)
          · refine go ?_
            have e := pur H; subst e
            exact rt [.str a0.name]
          · refine go ?_
            refine cdp H (fun h H => ?_) (fun h H => ?_)
            · refine go ?_
              obtain ⟨x27, hx27, H⟩ := bnd H
              refine cl (spec_l15Dec_ok (a0.fn.ids.length : Int) _ hx27) ?_
              obtain ⟨x28, f1, H⟩ := bsc H
              refine go1 ?_
              refine go ?_
              have e := pur H; subst e
              exact rt [.str x28]
            · refine go ?_
              refine cdp H (fun h H => ?_) (fun h H => ?_)
              · refine go ?_
                obtain ⟨o13, ho13, H⟩ := bnd H
                refine L0 a0 a1 (ByteArray.mk #[40]) 0 _ ho13 _ rfl _ _ b1 ?_ ?_ _ _  S hF
                · intro e14t_5 he T15 σ16 tT hF
                  have he := he.symm
                  subst he
                  obtain ⟨x53, f1, H⟩ := bsc H
                  refine go1 ?_
                  refine go ?_
                  have e := pur H; subst e
                  exact rt [.str x53]
                · trivial
              · refine go ?_
                have e := pur H; subst e
                exact rt [.str (ByteArray.mk #[63])]
  · intro spec_l8Text spec_l8Text_l0 C0 L0 a0 a1 z0t_5 z0t_6 out H c hc Q τ b1 hE hR T σ tT hF
    obtain rfl := Option.some.inj ((rfl : loopAt Tryd.f44 0 = some _).symm.trans hc)
    refine aLoop_round ?_
    have q := dum
    have hX := Tau.none τ
    refine go ?_
    refine cdp H (fun h H => ?_) (fun h H => ?_)
    · refine go ?_
      obtain ⟨y8t_5, j9, H⟩ := bnd H
      refine aCnd_join (fun s' => ∃ (T : Nat → AV) (σ1 : Sto), s' = ⟨T, σ1⟩ ∧ (T 1 = .int .i64 a1 ∧ T 2 = .ptr b1 0 ∧ T 4 = .str (ByteArray.mk #[]) ∧ T 5 = .str y8t_5 ∧ T 6 = .int .i64 z0t_6 ∧ T 31 = .int .i64 z0t_6 ∧ T 32 = .ptr b1 3 ∧ T 33 = .sl false (rws Val.cells a0.items) ∧ T 34 = .int .i64 (a0.items.length : Int) ∧ T 35 = .bool (decide (z0t_6 < (a0.items.length : Int))) ∧ T 38 = .int .i64 z0t_6 ∧ T 39 = .bool (decide (z0t_6 > 0))) ∧ Fx τ σ1 [(b1, ⟨49, 16, [.int .i64 a0.kind, .int .i64 a0.num, .str a0.name, .sl false (rws Val.cells a0.items), .int .i64 a0.fn.kind, .int .i64 a0.fn.id, .str a0.fn.name, .int .i64 a0.fn.num, .sl false (rws cI a0.fn.ids), .int .i64 a0.fn.data.kind, .str a0.fn.data.name, .int .i64 a0.fn.data.num, .sl false (rws cI a0.fn.data.sc), .sl false (rws Fm.cells a0.fn.data.kids), .sl false (rws Cor.cells a0.fn.kids), .sl false (rws Slt.cells a0.env)]⟩)] []) (cdp j9 (fun h j9 => ?_) (fun h j9 => ?_)) ?_
      · obtain ⟨x41, f1, j9⟩ := bsc j9
        refine go1 ?_
        refine go ?_
        have e := pur j9
        subst e
        exact ⟨_, _, rfl, S, hF⟩
      · refine go ?_
        have e := pur j9
        subst e
        exact ⟨_, _, rfl, S, hF⟩
      · rintro s' ⟨T10, σ11, rfl, tT, hF⟩
        obtain ⟨x46, f1, H⟩ := bil (g := Val.cells) Val.cells_len H
        refine go1 ?_
        obtain ⟨x50, hx50, H⟩ := bnd H
        refine cl (C0 x46 (IntKind.i64.wrap (a1 - 1)) _ hx50) ?_
        obtain ⟨x51, f1, H⟩ := bsc H
        refine go1 ?_
        refine go ?_
        exact L0 a0 a1 x51 (IntKind.i64.wrap (z0t_6 + 1)) _ H _ rfl Q τ b1 hE hR _ _  S hF
    · refine go ?_
      exact hE _ (pur H).symm _ _  S hF
theorem spec_FormatValue_ok : ∀ (a0 : Val) r, spec_FormatValue a0 = some r → PCtr Tryd.prog 14 [.agg (Val.cells a0)] (.str r) := by
  intro a0 r H
  intro σ
  unfold spec_FormatValue at H
  refine ctr_of mixed Tryd.func14 rfl (by kernel_rfl) (rs := [.tmp 2]) rfl (by kernel_rfl) ?_
  have hF := Fx.refl σ
  have hX := Tau.none σ
  have q := dum
  have tT := dum
  refine go ?_
  refine fx_alloc hF rfl fun b1 σ2 hF => ?_
  refine go ?_
  obtain ⟨x4, hx4, H⟩ := bnd H
  refine cl (spec_l8Text_ok a0 40 _ hx4) ?_
  refine go ?_
  have e := pur H; subst e
  exact rt [.str x4]
theorem spec_ValueSame_ok : ∀ (a0 : Val) (a1 : Val) r, spec_ValueSame a0 a1 = some r → PCtr Tryd.prog 23 [.agg (Val.cells a0), .agg (Val.cells a1)] (.bool r) := by
  refine spec_ValueSame.partial_correctness  (motive_1 := fun a0 a1 r => PCtr Tryd.prog 23 [.agg (Val.cells a0), .agg (Val.cells a1)] (.bool r)) (motive_2 := fun a0 a1 z0t_5 out => ∀ c, loopAt Tryd.f23 0 = some c → ∀ (Q : AX → AS → Prop) (τ : Sto) (b1 : Nat) (b3 : Nat), (∀ (_u : Unit), out = Sum.inr () → ∀ (T : Nat → AV) (σ : Sto), T 2 = .ptr b1 0 ∧ T 3 = .ptr b3 0 ∧ T 4 = .bool false → Fx τ σ [(b3, ⟨49, 16, [.int .i64 a1.kind, .int .i64 a1.num, .str a1.name, .sl false (rws Val.cells a1.items), .int .i64 a1.fn.kind, .int .i64 a1.fn.id, .str a1.fn.name, .int .i64 a1.fn.num, .sl false (rws cI a1.fn.ids), .int .i64 a1.fn.data.kind, .str a1.fn.data.name, .int .i64 a1.fn.data.num, .sl false (rws cI a1.fn.data.sc), .sl false (rws Fm.cells a1.fn.data.kids), .sl false (rws Cor.cells a1.fn.kids), .sl false (rws Slt.cells a1.env)]⟩), (b1, ⟨49, 16, [.int .i64 a0.kind, .int .i64 a0.num, .str a0.name, .sl false (rws Val.cells a0.items), .int .i64 a0.fn.kind, .int .i64 a0.fn.id, .str a0.fn.name, .int .i64 a0.fn.num, .sl false (rws cI a0.fn.ids), .int .i64 a0.fn.data.kind, .str a0.fn.data.name, .int .i64 a0.fn.data.num, .sl false (rws cI a0.fn.data.sc), .sl false (rws Fm.cells a0.fn.data.kids), .sl false (rws Cor.cells a0.fn.kids), .sl false (rws Slt.cells a0.env)]⟩)] [] → Q (.ex 0) ⟨T, σ⟩) → (∀ r, out = Sum.inl r → ∀ s', aRet Tryd.prog [.tmp 4] (fun r' σ' => r' = .bool r ∧ σ' = τ) s' → Q .ret s') → ∀ (T : Nat → AV) (σ : Sto), T 2 = .ptr b1 0 ∧ T 3 = .ptr b3 0 ∧ T 4 = .bool false ∧ T 5 = .int .i64 z0t_5 → Fx τ σ [(b3, ⟨49, 16, [.int .i64 a1.kind, .int .i64 a1.num, .str a1.name, .sl false (rws Val.cells a1.items), .int .i64 a1.fn.kind, .int .i64 a1.fn.id, .str a1.fn.name, .int .i64 a1.fn.num, .sl false (rws cI a1.fn.ids), .int .i64 a1.fn.data.kind, .str a1.fn.data.name, .int .i64 a1.fn.data.num, .sl false (rws cI a1.fn.data.sc), .sl false (rws Fm.cells a1.fn.data.kids), .sl false (rws Cor.cells a1.fn.kids), .sl false (rws Slt.cells a1.env)]⟩), (b1, ⟨49, 16, [.int .i64 a0.kind, .int .i64 a0.num, .str a0.name, .sl false (rws Val.cells a0.items), .int .i64 a0.fn.kind, .int .i64 a0.fn.id, .str a0.fn.name, .int .i64 a0.fn.num, .sl false (rws cI a0.fn.ids), .int .i64 a0.fn.data.kind, .str a0.fn.data.name, .int .i64 a0.fn.data.num, .sl false (rws cI a0.fn.data.sc), .sl false (rws Fm.cells a0.fn.data.kids), .sl false (rws Cor.cells a0.fn.kids), .sl false (rws Slt.cells a0.env)]⟩)] [] → aLoop (acode Tryd.prog c) Q ⟨T, σ⟩) ?_ ?_
  · intro spec_ValueSame_l0 L0 a0 a1 r H
    intro σ
    refine ctr_of mixed Tryd.func23 rfl (by kernel_rfl) (rs := [.tmp 4]) rfl (by kernel_rfl) ?_
    have hF := Fx.refl σ
    have hX := Tau.none σ
    have q := dum
    have tT := dum
    refine go ?_
    refine fx_alloc hF rfl fun b1 σ2 hF => ?_
    refine go ?_
    refine fx_alloc hF rfl fun b3 σ4 hF => ?_
    refine go ?_
    obtain ⟨x17, g5, H⟩ := bnd H
    refine aGd_cutN 5 12 17 (.bool x17) (giN q (fun q => ?_) (fun q => ?_)) (fun J => ?_)
    · refine go ?_
      exact cutd 12 g5
    · refine go ?_
      exact cutd 12 g5
    refine go ?_
    obtain ⟨x24, g7, H⟩ := bnd H
    refine aGd_cutN 5 19 24 (.bool x24) (giN q (fun q => ?_) (fun q => ?_)) (fun J => ?_)
    · refine go ?_
      exact cutd 19 g7
    · refine go ?_
      exact cutd 19 g7
    refine go ?_
    obtain ⟨x33, g9, H⟩ := bnd H
    refine aGd_cutN 7 26 33 (.bool x33) (giN q (fun q => ?_) (fun q => ?_)) (fun J => ?_)
    · refine go ?_
      exact cutd 26 g9
    · refine go ?_
      exact cutd 26 g9
    refine go ?_
    refine cdb H (fun h H => ?_) (fun h H => ?_)
    · refine go ?_
      have e := pur H; subst e
      exact rt [.bool false]
    · refine go ?_
      obtain ⟨o11, ho11, H⟩ := bnd H
      refine L0 a0 a1 0 _ ho11 _ rfl _ _ b1 b3 ?_ ?_ _ _  S hF
      · intro _ he T13 σ14 tT hF
        have he := he.symm
        subst he
        dsimp only at H
        refine go ?_
        refine draw_text E0 [.v, .v, .v, .v, .v, .v] (by kernel_rfl) ?_
        refine go ?_
        obtain ⟨x54, hx54, H⟩ := bnd H
        refine cv (spec_FormatValue_ok a0 _ hx54) ?_
        refine go ?_
        obtain ⟨x56, hx56, H⟩ := bnd H
        refine cv (spec_FormatValue_ok a1 _ hx56) ?_
        refine go ?_
        have e := pur H; subst e
        exact rt [.bool (decide (x54 = x56))]
      · intro r hr s' hs
        subst hr
        have e := pur H; subst e
        first | exact hs | (try simp only [Fm.cells_eq] at hs ⊢; exact hs)
  · intro spec_ValueSame spec_ValueSame_l0 C0 L0 a0 a1 z0t_5 out H c hc Q τ b1 b3 hE hR T σ tT hF
    obtain rfl := Option.some.inj ((rfl : loopAt Tryd.f23 0 = some _).symm.trans hc)
    refine aLoop_round ?_
    have q := dum
    have hX := Tau.none τ
    refine go ?_
    refine cdp H (fun h H => ?_) (fun h H => ?_)
    · refine go ?_
      refine draw_text E0 [.v, .v, .v, .v, .v, .v, .v, .v, .v, .v, .v, .v] (by kernel_rfl) ?_
      obtain ⟨x44, f1, H⟩ := bil (g := Val.cells) Val.cells_len H
      obtain ⟨x49, f2, H⟩ := bil (g := Val.cells) Val.cells_len H
      refine go2 ?_
      obtain ⟨x51, hx51, H⟩ := bnd H
      refine cv (C0 x44 x49 _ hx51) ?_
      refine go ?_
      refine cdb H (fun h H => ?_) (fun h H => ?_)
      · refine go ?_
        exact hR _ (pur H).symm _ (rt [.bool false])
      · refine go ?_
        exact L0 a0 a1 (IntKind.i64.wrap (z0t_5 + 1)) _ H _ rfl Q τ b1 b3 hE hR _ _  S hF
    · refine go ?_
      exact hE () (pur H).symm _ _  S hF
theorem strconv_Itoa_ok : ∀ (a0 : Int) r, strconv_Itoa a0 = some r → PCtr Tryd.prog 37 [.int .i64 a0] (.str r) := fun a0 r H =>
  itoa_pctr Tryd.func37 (by kernel_rfl) (by kernel_rfl) (by kernel_rfl) (fun n h0 h1 w ht => Tryd.strconv_Itoa n h0 h1 w ht) H
theorem strings_Join_ok : ∀ (a0 : List ByteArray) (a1 : ByteArray) r, strings_Join a0 a1 = some r → PCtr Tryd.prog 78 [.sl false (rws cS a0), .str a1] (.str r) := fun a0 a1 r H =>
  join_pctr Tryd.func78 (by kernel_rfl) (by kernel_rfl) (fun a c sep w => Tryd.strings_Join_none a c sep w) (fun bk o c xs sep w h1 h2 h3 h4 h5 => Tryd.strings_Join bk o c xs sep w h1 h2 h3 h4 h5) H
theorem impl_valueText_ok : ∀ (a0 : Val) (a1 : Int) r, impl_valueText a0 a1 = some r → PCtr Tryd.prog 48 [.agg (Val.cells a0), .int .i64 a1] (.str r) := by
  refine impl_valueText.partial_correctness  (motive_1 := fun a0 a1 r => PCtr Tryd.prog 48 [.agg (Val.cells a0), .int .i64 a1] (.str r)) (motive_2 := fun a0 a1 z0o_0 z0t_36 out => ∀ c, loopAt Tryd.f48 0 = some c → ∀ (Q : AX → AS → Prop) (τ : Sto) (b1 : Nat), (∀ (e0o_0 : List ByteArray), out = e0o_0 → ∀ (T : Nat → AV) (σ : Sto) (e0v0 : AV), T 4 = .str (ByteArray.mk #[]) ∧ T 5 = e0v0 → Fx τ σ [(b1, ⟨49, 16, [.int .i64 a0.kind, .int .i64 a0.num, .str a0.name, .sl false (rws Val.cells a0.items), .int .i64 a0.fn.kind, .int .i64 a0.fn.id, .str a0.fn.name, .int .i64 a0.fn.num, .sl false (rws cI a0.fn.ids), .int .i64 a0.fn.data.kind, .str a0.fn.data.name, .int .i64 a0.fn.data.num, .sl false (rws cI a0.fn.data.sc), .sl false (rws Fm.cells a0.fn.data.kids), .sl false (rws Cor.cells a0.fn.kids), .sl false (rws Slt.cells a0.env)]⟩)] [⟨e0v0, 9, 1, rws cS e0o_0⟩] → Q (.ex 1) ⟨T, σ⟩) → True → ∀ (T : Nat → AV) (σ : Sto) (z0v0 : AV), T 1 = .int .i64 a1 ∧ T 4 = .str (ByteArray.mk #[]) ∧ T 5 = z0v0 ∧ T 34 = .sl false (rws Val.cells a0.items) ∧ T 35 = .int .i64 (a0.items.length : Int) ∧ T 36 = .int .i64 z0t_36 → Fx τ σ [(b1, ⟨49, 16, [.int .i64 a0.kind, .int .i64 a0.num, .str a0.name, .sl false (rws Val.cells a0.items), .int .i64 a0.fn.kind, .int .i64 a0.fn.id, .str a0.fn.name, .int .i64 a0.fn.num, .sl false (rws cI a0.fn.ids), .int .i64 a0.fn.data.kind, .str a0.fn.data.name, .int .i64 a0.fn.data.num, .sl false (rws cI a0.fn.data.sc), .sl false (rws Fm.cells a0.fn.data.kids), .sl false (rws Cor.cells a0.fn.kids), .sl false (rws Slt.cells a0.env)]⟩)] [⟨z0v0, 9, 1, rws cS z0o_0⟩] → aLoop (acode Tryd.prog c) Q ⟨T, σ⟩) ?_ ?_
  · intro impl_valueText_l0 L0 a0 a1 r H
    intro σ
    refine ctr_of mixed Tryd.func48 rfl (by kernel_rfl) (rs := [.tmp 4]) rfl (by kernel_rfl) ?_
    have hF := Fx.refl σ
    have hX := Tau.none σ
    have q := dum
    have tT := dum
    refine go ?_
    refine fx_alloc hF rfl fun b1 σ2 hF => ?_
    refine go ?_
    refine cdp H (fun h H => ?_) (fun h H => ?_)
    · refine go ?_
      have e := pur H; subst e
      exact rt [.str (ByteArray.mk #[46, 46])]
    · refine go ?_
      refine cdp H (fun h H => ?_) (fun h H => ?_)
      · refine go ?_
        obtain ⟨x16, hx16, H⟩ := bnd H
        refine cl (strconv_Itoa_ok a0.num _ hx16) ?_
        refine go ?_
        have e := pur H; subst e
        exact rt [.str x16]
      · refine go ?_
        obtain ⟨y3t_17, j4, H⟩ := bnd H
        refine aCnd_join (fun s' => ∃ (T : Nat → AV) (σ1 : Sto), s' = ⟨T, σ1⟩ ∧ (T 1 = .int .i64 a1 ∧ T 2 = .ptr b1 0 ∧ T 4 = .str (ByteArray.mk #[]) ∧ T 11 = .int .i64 a0.kind ∧ T 17 = .bool y3t_17) ∧ Fx σ σ1 [(b1, ⟨49, 16, [.int .i64 a0.kind, .int .i64 a0.num, .str a0.name, .sl false (rws Val.cells a0.items), .int .i64 a0.fn.kind, .int .i64 a0.fn.id, .str a0.fn.name, .int .i64 a0.fn.num, .sl false (rws cI a0.fn.ids), .int .i64 a0.fn.data.kind, .str a0.fn.data.name, .int .i64 a0.fn.data.num, .sl false (rws cI a0.fn.data.sc), .sl false (rws Fm.cells a0.fn.data.kids), .sl false (rws Cor.cells a0.fn.kids), .sl false (rws Slt.cells a0.env)]⟩)] []) (cdp j4 (fun h j4 => ?_) (fun h j4 => ?_)) ?_
        · refine go ?_
          have e := pur j4
          subst e
          exact ⟨_, _, rfl, S, hF⟩
        · refine go ?_
          have e := pur j4
          subst e
          exact ⟨_, _, rfl, S, hF⟩
        · rintro s' ⟨T5, σ6, rfl, tT, hF⟩
          refine go ?_
          refine cdb H (fun h H => ?_) (fun h H => ?_)
          · refine go ?_
            have e := pur H; subst e
            exact rt [.str a0.name]
          · refine go ?_
            refine cdp H (fun h H => ?_) (fun h H => ?_)
            · refine go ?_
              obtain ⟨x28, hx28, H⟩ := bnd H
              refine cl (strconv_Itoa_ok (a0.fn.ids.length : Int) _ hx28) ?_
              obtain ⟨x29, f1, H⟩ := bsc H
              refine go1 ?_
              refine go ?_
              have e := pur H; subst e
              exact rt [.str x29]
            · refine go ?_
              refine cdp H (fun h H => ?_) (fun h H => ?_)
              · have hF := hF.lit 9 1 (rws cS []) rfl
                refine go ?_
                obtain ⟨o13, ho13, H⟩ := bnd H
                refine L0 a0 a1 [] 0 _ ho13 _ rfl _ _ b1 ?_ ?_ _ _ (.sl true (rws cS [])) S hF
                · intro e14o_0 he T15 σ16 e14v0 tT hF
                  have he := he.symm
                  subst he
                  refine go ?_
                  obtain ⟨x49, hx49, H⟩ := bnd H
                  refine aCall_flat (strings_Join_ok e14o_0 (ByteArray.mk #[32]) _ hx49) .str (.cons ((hF.wk 0 rfl).trans (Wk.sub (Sub.zero _) _)) (fun _ => rfl) (.cons (Wk.sub (Sub.zero _) _) id .nil)) ?_
                  obtain ⟨x50, f1, H⟩ := bsc H
                  obtain ⟨x51, f2, H⟩ := bsc H
                  refine go2 ?_
                  refine go ?_
                  have e := pur H; subst e
                  exact rt [.str x51]
                · trivial
              · refine go ?_
                have e := pur H; subst e
                exact rt [.str (ByteArray.mk #[63])]
  · intro impl_valueText impl_valueText_l0 C0 L0 a0 a1 z0o_0 z0t_36 out H c hc Q τ b1 hE hR T σ z0v0 tT hF
    obtain rfl := Option.some.inj ((rfl : loopAt Tryd.f48 0 = some _).symm.trans hc)
    refine aLoop_round ?_
    have q := dum
    have hX := Tau.none τ
    refine go ?_
    refine cdp H (fun h H => ?_) (fun h H => ?_)
    · obtain ⟨x38, f1, H⟩ := bil (g := Val.cells) Val.cells_len H
      refine go1 ?_
      refine fx_alloc hF rfl fun b8 σ9 hF => ?_
      refine go ?_
      refine st hF 0 rfl fun σ10 hF => ?_
      refine go ?_
      obtain ⟨x44, hx44, H⟩ := bnd H
      refine cl (C0 x38 (IntKind.i64.wrap (a1 + 1)) _ hx44) ?_
      refine go ?_
      refine apd (g := cS) hF 0 H (rdo (c := true) (g := cS) (fun _ => rfl)) fun x46 H v11 σ12 hF => ?_
      refine go ?_
      exact L0 a0 a1 x46 (IntKind.i64.wrap (z0t_36 + 1)) _ H _ rfl Q τ b1 hE hR _ _ v11 S (hF.drop 1 0)
    · refine go ?_
      exact hE _ (pur H).symm _ _ z0v0 S hF
theorem impl_FormatValue_ok : ∀ (a0 : Val) r, impl_FormatValue a0 = some r → PCtr Tryd.prog 16 [.agg (Val.cells a0)] (.str r) := by
  intro a0 r H
  intro σ
  unfold impl_FormatValue at H
  refine ctr_of mixed Tryd.func16 rfl (by kernel_rfl) (rs := [.tmp 2]) rfl (by kernel_rfl) ?_
  have hF := Fx.refl σ
  have hX := Tau.none σ
  have q := dum
  have tT := dum
  refine go ?_
  refine fx_alloc hF rfl fun b1 σ2 hF => ?_
  refine go ?_
  obtain ⟨x4, hx4, H⟩ := bnd H
  refine cl (impl_valueText_ok a0 0 _ hx4) ?_
  refine go ?_
  have e := pur H; subst e
  exact rt [.str x4]
theorem impl_ValueSame_all : (∀ (a0 : Val) (a1 : Val) r, impl_ValueSame a0 a1 = some r → PCtr Tryd.prog 24 [.agg (Val.cells a0), .agg (Val.cells a1)] (.bool r)) ∧ (∀ (a0 : List Val) (a1 : List Val) r, slices_EqualFunc_Value_Value_Value_Value__impl_ValueSame a0 a1 = some r → PCtr Tryd.prog 59 [.sl false (rws Val.cells a0), .sl false (rws Val.cells a1), .fn 24 []] (.bool r)) := by
  have h := impl_ValueSame.mutual_partial_correctness (motive_1 := fun a0 a1 r => PCtr Tryd.prog 24 [.agg (Val.cells a0), .agg (Val.cells a1)] (.bool r)) (motive_2 := fun a0 a1 r => PCtr Tryd.prog 59 [.sl false (rws Val.cells a0), .sl false (rws Val.cells a1), .fn 24 []] (.bool r)) (motive_3 := fun a0 a1 z0t_17 out => ∀ c, loopAt Tryd.f59 0 = some c → ∀ (Q : AX → AS → Prop) (τ : Sto), (∀ (_u : Unit), out = Sum.inr () → ∀ (T : Nat → AV) (σ : Sto), T 6 = .bool false → Fx τ σ [] [] → Q (.ex 0) ⟨T, σ⟩) → (∀ r, out = Sum.inl r → ∀ s', aRet Tryd.prog [.tmp 6] (fun r' σ' => r' = .bool r ∧ σ' = τ) s' → Q .ret s') → ∀ (T : Nat → AV) (σ : Sto), T 1 = .sl false (rws Val.cells a1) ∧ T 2 = .fn 24 [] ∧ T 6 = .bool false ∧ T 15 = .sl false (rws Val.cells a0) ∧ T 16 = .int .i64 (a0.length : Int) ∧ T 17 = .int .i64 z0t_17 → Fx τ σ [] [] → aLoop (acode Tryd.prog c) Q ⟨T, σ⟩) ?s0 ?s1 ?s2
  · exact ⟨h.1, h.2.1⟩
  · intro slices_EqualFunc_Value_Value_Value_Value__impl_ValueSame C1 a0 a1 r H
    intro σ
    refine ctr_of mixed Tryd.func24 rfl (by kernel_rfl) (rs := [.tmp 4]) rfl (by kernel_rfl) ?_
    have hF := Fx.refl σ
    have hX := Tau.none σ
    have q := dum
    have tT := dum
    refine go ?_
    refine fx_alloc hF rfl fun b1 σ2 hF => ?_
    refine go ?_
    refine fx_alloc hF rfl fun b3 σ4 hF => ?_
    refine go ?_
    refine draw_text E0 [.v, .v, .v, .v, .v, .v, .v, .v, .v, .v, .v, .v, .v, .v, .v, .v, .v, .v, .v, .v, .v, .v, .v, .v, .v, .v, .v, .v, .v, .v, .v, .v, .v, .v] (by kernel_rfl) ?_
    refine go ?_
    obtain ⟨x16, g5, H⟩ := bnd H
    refine tGd_cutN 5 11 16 (.bool x16) (ti q (fun q => ?_) (fun q => ?_)) (fun J => ?_)
    · refine go ?_
      exact cutd 11 g5
    · refine go ?_
      exact cutd 11 g5
    refine go ?_
    obtain ⟨x23, g7, H⟩ := bnd H
    refine tGd_cutN 5 18 23 (.bool x23) (ti q (fun q => ?_) (fun q => ?_)) (fun J => ?_)
    · refine go ?_
      exact cutd 18 g7
    · refine go ?_
      exact cutd 18 g7
    refine go ?_
    obtain ⟨x30, g9, H⟩ := bnd H
    refine tGd_cutN 5 25 30 (.bool x30) (ti q (fun q => ?_) (fun q => ?_)) (fun J => ?_)
    · rw [if_pos (dbt q)] at g9
      refine go ?_
      obtain ⟨x29, hx29, g9⟩ := bnd g9
      refine cv (C1 a0.items a1.items _ hx29) ?_
      refine go ?_
      exact cutd 25 g9
    · rw [if_neg (dbf q)] at g9
      refine go ?_
      exact cutd 25 g9
    refine go ?_
    obtain ⟨x37, g11, H⟩ := bnd H
    refine tGd_cutN 5 32 37 (.bool x37) (ti q (fun q => ?_) (fun q => ?_)) (fun J => ?_)
    · rw [if_pos (dbt q)] at g11
      refine go ?_
      obtain ⟨x33, hx33, g11⟩ := bnd g11
      refine cv (impl_FormatValue_ok a0 _ hx33) ?_
      refine go ?_
      obtain ⟨x35, hx35, g11⟩ := bnd g11
      refine cv (impl_FormatValue_ok a1 _ hx35) ?_
      refine go ?_
      exact cutd 32 g11
    · rw [if_neg (dbf q)] at g11
      refine go ?_
      exact cutd 32 g11
    refine go ?_
    have e := pur H; subst e
    exact rt [.bool x37]
  · intro slices_EqualFunc_Value_Value_Value_Value__impl_ValueSame_l0 L0 a0 a1 r H
    intro σ
    refine ctr_of mixed Tryd.func59 rfl (by kernel_rfl) (rs := [.tmp 6]) rfl (by kernel_rfl) ?_
    have hF := Fx.refl σ
    have hX := Tau.none σ
    have q := dum
    have tT := dum
    refine go ?_
    refine cdn H (fun h H => ?_) (fun h H => ?_)
    · refine go ?_
      have e := pur H; subst e
      exact rt [.bool false]
    · refine go ?_
      obtain ⟨o7, ho7, H⟩ := bnd H
      refine L0 a0 a1 0 _ ho7 _ rfl _ _  ?_ ?_ _ _  S hF
      · intro _ he T9 σ10 tT hF
        have he := he.symm
        subst he
        dsimp only at H
        refine go ?_
        have e := pur H; subst e
        exact rt [.bool true]
      · intro r hr s' hs
        subst hr
        have e := pur H; subst e
        first | exact hs | (try simp only [Fm.cells_eq] at hs ⊢; exact hs)
  · intro impl_ValueSame slices_EqualFunc_Value_Value_Value_Value__impl_ValueSame_l0 C0 L0 a0 a1 z0t_17 out H c hc Q τ  hE hR T σ tT hF
    obtain rfl := Option.some.inj ((rfl : loopAt Tryd.f59 0 = some _).symm.trans hc)
    refine aLoop_round ?_
    have q := dum
    have hX := Tau.none τ
    refine go ?_
    refine cdp H (fun h H => ?_) (fun h H => ?_)
    · obtain ⟨x20, f1, H⟩ := bil (g := Val.cells) Val.cells_len H
      refine go1 ?_
      refine fx_alloc hF rfl fun b1 σ2 hF => ?_
      refine go ?_
      refine st hF 0 rfl fun σ3 hF => ?_
      obtain ⟨x24, f1, H⟩ := bil (g := Val.cells) Val.cells_len H
      refine go1 ?_
      refine fx_alloc hF rfl fun b4 σ5 hF => ?_
      refine go ?_
      refine st hF 0 rfl fun σ6 hF => ?_
      refine go ?_
      obtain ⟨x29, hx29, H⟩ := bnd H
      refine cl (C0 x20 x24 _ hx29) ?_
      refine go ?_
      refine cdb H (fun h H => ?_) (fun h H => ?_)
      · refine go ?_
        exact hR _ (pur H).symm _ (rt [.bool false])
      · refine go ?_
        exact L0 a0 a1 (IntKind.i64.wrap (z0t_17 + 1)) _ H _ rfl Q τ  hE hR _ _  S (hF.drop 2 0)
    · refine go ?_
      exact hE () (pur H).symm _ _  S hF
theorem impl_ValueSame_ok : ∀ (a0 : Val) (a1 : Val) r, impl_ValueSame a0 a1 = some r → PCtr Tryd.prog 24 [.agg (Val.cells a0), .agg (Val.cells a1)] (.bool r) := impl_ValueSame_all.1
theorem slices_EqualFunc_Value_Value_Value_Value__impl_ValueSame_ok : ∀ (a0 : List Val) (a1 : List Val) r, slices_EqualFunc_Value_Value_Value_Value__impl_ValueSame a0 a1 = some r → PCtr Tryd.prog 59 [.sl false (rws Val.cells a0), .sl false (rws Val.cells a1), .fn 24 []] (.bool r) := impl_ValueSame_all.2
theorem laws_eqIntS_l0_ok : ∀ (a0 : List Int) (a1 : List Int) (z0t_5 : Int) out, laws_eqIntS_l0 a0 a1 z0t_5 = some out → ∀ c, loopAt Tryd.f39 0 = some c → ∀ (Q : AX → AS → Prop) (τ : Sto), (∀ (_u : Unit), out = Sum.inr () → ∀ (T : Nat → AV) (σ : Sto), T 4 = .bool false → Fx τ σ [] [] → Q (.ex 0) ⟨T, σ⟩) → (∀ r, out = Sum.inl r → ∀ s', aRet Tryd.prog [.tmp 4] (fun r' σ' => r' = .bool r ∧ σ' = τ) s' → Q .ret s') → ∀ (T : Nat → AV) (σ : Sto), T 0 = .sl false (rws cI a0) ∧ T 1 = .sl false (rws cI a1) ∧ T 4 = .bool false ∧ T 5 = .int .i64 z0t_5 → Fx τ σ [] [] → aLoop (acode Tryd.prog c) Q ⟨T, σ⟩ := by
  intro a0 a1 z0t_5
  revert z0t_5
  refine laws_eqIntS_l0.partial_correctness a0 a1 _ ?_
  intro laws_eqIntS_l0 IH z0t_5 out H c hc Q τ  hE hR T σ tT hF
  obtain rfl := Option.some.inj ((rfl : loopAt Tryd.f39 0 = some _).symm.trans hc)
  refine aLoop_round ?_
  have q := dum
  have hX := Tau.none τ
  refine go ?_
  refine cdp H (fun h H => ?_) (fun h H => ?_)
  · refine go ?_
    refine draw_text E0 [.v, .v, .v, .v, .v, .v, .v, .v, .v] (by kernel_rfl) ?_
    obtain ⟨x19, f1, H⟩ := bil (g := cI) (fun _ => rfl) H
    obtain ⟨x23, f2, H⟩ := bil (g := cI) (fun _ => rfl) H
    refine go2 ?_
    refine go ?_
    refine cdn H (fun h H => ?_) (fun h H => ?_)
    · refine go ?_
      exact hR _ (pur H).symm _ (rt [.bool false])
    · refine go ?_
      exact IH  (IntKind.i64.wrap (z0t_5 + 1)) _ H _ rfl Q τ  hE hR _ _  S hF
  · refine go ?_
    exact hE () (pur H).symm _ _  S hF
theorem laws_eqIntS_ok : ∀ (a0 : List Int) (a1 : List Int) r, laws_eqIntS a0 a1 = some r → PCtr Tryd.prog 39 [.sl false (rws cI a0), .sl false (rws cI a1)] (.bool r) := by
  intro a0 a1 r H
  intro σ
  unfold laws_eqIntS at H
  refine ctr_of mixed Tryd.func39 rfl (by kernel_rfl) (rs := [.tmp 4]) rfl (by kernel_rfl) ?_
  have hF := Fx.refl σ
  have hX := Tau.none σ
  have q := dum
  have tT := dum
  refine go ?_
  refine cdn H (fun h H => ?_) (fun h H => ?_)
  · refine go ?_
    have e := pur H; subst e
    exact rt [.bool false]
  · refine go ?_
    obtain ⟨o1, ho1, H⟩ := bnd H
    refine laws_eqIntS_l0_ok a0 a1 0 _ ho1 _ rfl _ _  ?_ ?_ _ _  S hF
    · intro _ he T3 σ4 tT hF
      have he := he.symm
      subst he
      dsimp only at H
      refine go ?_
      have e := pur H; subst e
      exact rt [.bool true]
    · intro r hr s' hs
      subst hr
      have e := pur H; subst e
      first | exact hs | (try simp only [Fm.cells_eq] at hs ⊢; exact hs)
theorem laws_eqForm_all : (∀ (a0 : Fm) (a1 : Fm) r, laws_eqForm a0 a1 = some r → PCtr Tryd.prog 12 [.agg (Fm.cells a0), .agg (Fm.cells a1)] (.bool r)) ∧ (∀ (a0 : List Fm) (a1 : List Fm) r, laws_eqFormS a0 a1 = some r → PCtr Tryd.prog 40 [.sl false (rws Fm.cells a0), .sl false (rws Fm.cells a1)] (.bool r)) := by
  have h := laws_eqForm.mutual_partial_correctness (motive_1 := fun a0 a1 r => PCtr Tryd.prog 12 [.agg (Fm.cells a0), .agg (Fm.cells a1)] (.bool r)) (motive_2 := fun a0 a1 r => PCtr Tryd.prog 40 [.sl false (rws Fm.cells a0), .sl false (rws Fm.cells a1)] (.bool r)) (motive_3 := fun a0 a1 z0t_5 out => ∀ c, loopAt Tryd.f40 0 = some c → ∀ (Q : AX → AS → Prop) (τ : Sto), (∀ (_u : Unit), out = Sum.inr () → ∀ (T : Nat → AV) (σ : Sto), T 4 = .bool false → Fx τ σ [] [] → Q (.ex 0) ⟨T, σ⟩) → (∀ r, out = Sum.inl r → ∀ s', aRet Tryd.prog [.tmp 4] (fun r' σ' => r' = .bool r ∧ σ' = τ) s' → Q .ret s') → ∀ (T : Nat → AV) (σ : Sto), T 0 = .sl false (rws Fm.cells a0) ∧ T 1 = .sl false (rws Fm.cells a1) ∧ T 4 = .bool false ∧ T 5 = .int .i64 z0t_5 → Fx τ σ [] [] → aLoop (acode Tryd.prog c) Q ⟨T, σ⟩) ?s0 ?s1 ?s2
  · exact ⟨h.1, h.2.1⟩
  · intro laws_eqFormS C1 a0 a1 r H
    intro σ
    refine ctr_of mixed Tryd.func12 rfl (by kernel_rfl) (rs := [.tmp 4]) rfl (by kernel_rfl) ?_
    have hF := Fx.refl σ
    have hX := Tau.none σ
    have q := dum
    have tT := dum
    refine go ?_
    refine fx_alloc hF rfl fun b1 σ2 hF => ?_
    refine go ?_
    refine fx_alloc hF rfl fun b3 σ4 hF => ?_
    refine go ?_
    refine cdn H (fun h H => ?_) (fun h H => ?_)
    · refine go ?_
      have e := pur H; subst e
      exact rt [.bool false]
    · refine go ?_
      refine cdn H (fun h H => ?_) (fun h H => ?_)
      · refine go ?_
        have e := pur H; subst e
        exact rt [.bool false]
      · refine go ?_
        refine cdn H (fun h H => ?_) (fun h H => ?_)
        · refine go ?_
          have e := pur H; subst e
          exact rt [.bool false]
        · refine go ?_
          obtain ⟨x24, hx24, H⟩ := bnd H
          refine cl (laws_eqIntS_ok a0.sc a1.sc _ hx24) ?_
          refine go ?_
          refine cdb H (fun h H => ?_) (fun h H => ?_)
          · refine go ?_
            have e := pur H; subst e
            exact rt [.bool false]
          · refine go ?_
            obtain ⟨x30, hx30, H⟩ := bnd H
            refine cl (C1 a0.kids a1.kids _ hx30) ?_
            refine go ?_
            refine cdb H (fun h H => ?_) (fun h H => ?_)
            · refine go ?_
              have e := pur H; subst e
              exact rt [.bool false]
            · refine go ?_
              have e := pur H; subst e
              exact rt [.bool true]
  · intro laws_eqFormS_l0 L0 a0 a1 r H
    intro σ
    refine ctr_of mixed Tryd.func40 rfl (by kernel_rfl) (rs := [.tmp 4]) rfl (by kernel_rfl) ?_
    have hF := Fx.refl σ
    have hX := Tau.none σ
    have q := dum
    have tT := dum
    refine go ?_
    refine cdn H (fun h H => ?_) (fun h H => ?_)
    · refine go ?_
      have e := pur H; subst e
      exact rt [.bool false]
    · refine go ?_
      obtain ⟨o1, ho1, H⟩ := bnd H
      refine L0 a0 a1 0 _ ho1 _ rfl _ _  ?_ ?_ _ _  S hF
      · intro _ he T3 σ4 tT hF
        have he := he.symm
        subst he
        dsimp only at H
        refine go ?_
        have e := pur H; subst e
        exact rt [.bool true]
      · intro r hr s' hs
        subst hr
        have e := pur H; subst e
        first | exact hs | (try simp only [Fm.cells_eq] at hs ⊢; exact hs)
  · intro laws_eqForm laws_eqFormS_l0 C0 L0 a0 a1 z0t_5 out H c hc Q τ  hE hR T σ tT hF
    obtain rfl := Option.some.inj ((rfl : loopAt Tryd.f40 0 = some _).symm.trans hc)
    refine aLoop_round ?_
    have q := dum
    have hX := Tau.none τ
    refine go ?_
    refine cdp H (fun h H => ?_) (fun h H => ?_)
    · refine go ?_
      refine draw_text E0 [.v, .v, .v, .v, .v, .v, .v, .v, .v, .v] (by kernel_rfl) ?_
      obtain ⟨x19, f1, H⟩ := bil (g := Fm.cells) Fm.cells_len H
      obtain ⟨x23, f2, H⟩ := bil (g := Fm.cells) Fm.cells_len H
      refine go2 ?_
      obtain ⟨x25, hx25, H⟩ := bnd H
      refine cv (C0 x19 x23 _ hx25) ?_
      refine go ?_
      refine cdb H (fun h H => ?_) (fun h H => ?_)
      · refine go ?_
        exact hR _ (pur H).symm _ (rt [.bool false])
      · refine go ?_
        exact L0 a0 a1 (IntKind.i64.wrap (z0t_5 + 1)) _ H _ rfl Q τ  hE hR _ _  S hF
    · refine go ?_
      exact hE () (pur H).symm _ _  S hF
theorem laws_eqForm_ok : ∀ (a0 : Fm) (a1 : Fm) r, laws_eqForm a0 a1 = some r → PCtr Tryd.prog 12 [.agg (Fm.cells a0), .agg (Fm.cells a1)] (.bool r) := laws_eqForm_all.1
theorem laws_eqFormS_ok : ∀ (a0 : List Fm) (a1 : List Fm) r, laws_eqFormS a0 a1 = some r → PCtr Tryd.prog 40 [.sl false (rws Fm.cells a0), .sl false (rws Fm.cells a1)] (.bool r) := laws_eqForm_all.2
theorem laws_eqCore_all : (∀ (a0 : Cor) (a1 : Cor) r, laws_eqCore a0 a1 = some r → PCtr Tryd.prog 50 [.agg (Cor.cells a0), .agg (Cor.cells a1)] (.bool r)) ∧ (∀ (a0 : List Cor) (a1 : List Cor) r, laws_eqCoreS a0 a1 = some r → PCtr Tryd.prog 79 [.sl false (rws Cor.cells a0), .sl false (rws Cor.cells a1)] (.bool r)) := by
  have h := laws_eqCore.mutual_partial_correctness (motive_1 := fun a0 a1 r => PCtr Tryd.prog 50 [.agg (Cor.cells a0), .agg (Cor.cells a1)] (.bool r)) (motive_2 := fun a0 a1 r => PCtr Tryd.prog 79 [.sl false (rws Cor.cells a0), .sl false (rws Cor.cells a1)] (.bool r)) (motive_3 := fun a0 a1 z0t_5 out => ∀ c, loopAt Tryd.f79 0 = some c → ∀ (Q : AX → AS → Prop) (τ : Sto), (∀ (_u : Unit), out = Sum.inr () → ∀ (T : Nat → AV) (σ : Sto), T 4 = .bool false → Fx τ σ [] [] → Q (.ex 0) ⟨T, σ⟩) → (∀ r, out = Sum.inl r → ∀ s', aRet Tryd.prog [.tmp 4] (fun r' σ' => r' = .bool r ∧ σ' = τ) s' → Q .ret s') → ∀ (T : Nat → AV) (σ : Sto), T 0 = .sl false (rws Cor.cells a0) ∧ T 1 = .sl false (rws Cor.cells a1) ∧ T 4 = .bool false ∧ T 5 = .int .i64 z0t_5 → Fx τ σ [] [] → aLoop (acode Tryd.prog c) Q ⟨T, σ⟩) ?s0 ?s1 ?s2
  · exact ⟨h.1, h.2.1⟩
  · intro laws_eqCoreS C1 a0 a1 r H
    intro σ
    refine ctr_of mixed Tryd.func50 rfl (by kernel_rfl) (rs := [.tmp 4]) rfl (by kernel_rfl) ?_
    have hF := Fx.refl σ
    have hX := Tau.none σ
    have q := dum
    have tT := dum
    refine go ?_
    refine fx_alloc hF rfl fun b1 σ2 hF => ?_
    refine go ?_
    refine fx_alloc hF rfl fun b3 σ4 hF => ?_
    refine go ?_
    refine cdn H (fun h H => ?_) (fun h H => ?_)
    · refine go ?_
      have e := pur H; subst e
      exact rt [.bool false]
    · refine go ?_
      refine cdn H (fun h H => ?_) (fun h H => ?_)
      · refine go ?_
        have e := pur H; subst e
        exact rt [.bool false]
      · refine go ?_
        refine cdn H (fun h H => ?_) (fun h H => ?_)
        · refine go ?_
          have e := pur H; subst e
          exact rt [.bool false]
        · refine go ?_
          refine cdn H (fun h H => ?_) (fun h H => ?_)
          · refine go ?_
            have e := pur H; subst e
            exact rt [.bool false]
          · refine go ?_
            obtain ⟨x29, hx29, H⟩ := bnd H
            refine cl (laws_eqIntS_ok a0.ids a1.ids _ hx29) ?_
            refine go ?_
            refine cdb H (fun h H => ?_) (fun h H => ?_)
            · refine go ?_
              have e := pur H; subst e
              exact rt [.bool false]
            · refine go ?_
              obtain ⟨x35, hx35, H⟩ := bnd H
              refine cl (laws_eqForm_ok a0.data a1.data _ hx35) ?_
              refine go ?_
              refine cdb H (fun h H => ?_) (fun h H => ?_)
              · refine go ?_
                have e := pur H; subst e
                exact rt [.bool false]
              · refine go ?_
                obtain ⟨x41, hx41, H⟩ := bnd H
                refine cl (C1 a0.kids a1.kids _ hx41) ?_
                refine go ?_
                refine cdb H (fun h H => ?_) (fun h H => ?_)
                · refine go ?_
                  have e := pur H; subst e
                  exact rt [.bool false]
                · refine go ?_
                  have e := pur H; subst e
                  exact rt [.bool true]
  · intro laws_eqCoreS_l0 L0 a0 a1 r H
    intro σ
    refine ctr_of mixed Tryd.func79 rfl (by kernel_rfl) (rs := [.tmp 4]) rfl (by kernel_rfl) ?_
    have hF := Fx.refl σ
    have hX := Tau.none σ
    have q := dum
    have tT := dum
    refine go ?_
    refine cdn H (fun h H => ?_) (fun h H => ?_)
    · refine go ?_
      have e := pur H; subst e
      exact rt [.bool false]
    · refine go ?_
      obtain ⟨o1, ho1, H⟩ := bnd H
      refine L0 a0 a1 0 _ ho1 _ rfl _ _  ?_ ?_ _ _  S hF
      · intro _ he T3 σ4 tT hF
        have he := he.symm
        subst he
        dsimp only at H
        refine go ?_
        have e := pur H; subst e
        exact rt [.bool true]
      · intro r hr s' hs
        subst hr
        have e := pur H; subst e
        first | exact hs | (try simp only [Fm.cells_eq] at hs ⊢; exact hs)
  · intro laws_eqCore laws_eqCoreS_l0 C0 L0 a0 a1 z0t_5 out H c hc Q τ  hE hR T σ tT hF
    obtain rfl := Option.some.inj ((rfl : loopAt Tryd.f79 0 = some _).symm.trans hc)
    refine aLoop_round ?_
    have q := dum
    have hX := Tau.none τ
    refine go ?_
    refine cdp H (fun h H => ?_) (fun h H => ?_)
    · refine go ?_
      refine draw_text E0 [.v, .v, .v, .v, .v, .v, .v, .v, .v, .v] (by kernel_rfl) ?_
      obtain ⟨x19, f1, H⟩ := bil (g := Cor.cells) Cor.cells_len H
      obtain ⟨x23, f2, H⟩ := bil (g := Cor.cells) Cor.cells_len H
      refine go2 ?_
      obtain ⟨x25, hx25, H⟩ := bnd H
      refine cv (C0 x19 x23 _ hx25) ?_
      refine go ?_
      refine cdb H (fun h H => ?_) (fun h H => ?_)
      · refine go ?_
        exact hR _ (pur H).symm _ (rt [.bool false])
      · refine go ?_
        exact L0 a0 a1 (IntKind.i64.wrap (z0t_5 + 1)) _ H _ rfl Q τ  hE hR _ _  S hF
    · refine go ?_
      exact hE () (pur H).symm _ _  S hF
theorem laws_eqCore_ok : ∀ (a0 : Cor) (a1 : Cor) r, laws_eqCore a0 a1 = some r → PCtr Tryd.prog 50 [.agg (Cor.cells a0), .agg (Cor.cells a1)] (.bool r) := laws_eqCore_all.1
theorem laws_eqCoreS_ok : ∀ (a0 : List Cor) (a1 : List Cor) r, laws_eqCoreS a0 a1 = some r → PCtr Tryd.prog 79 [.sl false (rws Cor.cells a0), .sl false (rws Cor.cells a1)] (.bool r) := laws_eqCore_all.2
theorem laws_eqValue_all : (∀ (a0 : Val) (a1 : Val) r, laws_eqValue a0 a1 = some r → PCtr Tryd.prog 17 [.agg (Val.cells a0), .agg (Val.cells a1)] (.bool r)) ∧ (∀ (a0 : List Val) (a1 : List Val) r, laws_eqValueS a0 a1 = some r → PCtr Tryd.prog 49 [.sl false (rws Val.cells a0), .sl false (rws Val.cells a1)] (.bool r)) ∧ (∀ (a0 : List Slt) (a1 : List Slt) r, laws_eqSlotS a0 a1 = some r → PCtr Tryd.prog 51 [.sl false (rws Slt.cells a0), .sl false (rws Slt.cells a1)] (.bool r)) ∧ (∀ (a0 : Slt) (a1 : Slt) r, laws_eqSlot a0 a1 = some r → PCtr Tryd.prog 80 [.agg (Slt.cells a0), .agg (Slt.cells a1)] (.bool r)) := by
  have h := laws_eqValue.mutual_partial_correctness (motive_1 := fun a0 a1 r => PCtr Tryd.prog 17 [.agg (Val.cells a0), .agg (Val.cells a1)] (.bool r)) (motive_2 := fun a0 a1 r => PCtr Tryd.prog 51 [.sl false (rws Slt.cells a0), .sl false (rws Slt.cells a1)] (.bool r)) (motive_3 := fun a0 a1 z0t_5 out => ∀ c, loopAt Tryd.f51 0 = some c → ∀ (Q : AX → AS → Prop) (τ : Sto), (∀ (_u : Unit), out = Sum.inr () → ∀ (T : Nat → AV) (σ : Sto), T 4 = .bool false → Fx τ σ [] [] → Q (.ex 0) ⟨T, σ⟩) → (∀ r, out = Sum.inl r → ∀ s', aRet Tryd.prog [.tmp 4] (fun r' σ' => r' = .bool r ∧ σ' = τ) s' → Q .ret s') → ∀ (T : Nat → AV) (σ : Sto), T 0 = .sl false (rws Slt.cells a0) ∧ T 1 = .sl false (rws Slt.cells a1) ∧ T 4 = .bool false ∧ T 5 = .int .i64 z0t_5 → Fx τ σ [] [] → aLoop (acode Tryd.prog c) Q ⟨T, σ⟩) (motive_4 := fun a0 a1 r => PCtr Tryd.prog 80 [.agg (Slt.cells a0), .agg (Slt.cells a1)] (.bool r)) (motive_5 := fun a0 a1 r => PCtr Tryd.prog 49 [.sl false (rws Val.cells a0), .sl false (rws Val.cells a1)] (.bool r)) (motive_6 := fun a0 a1 z0t_5 out => ∀ c, loopAt Tryd.f49 0 = some c → ∀ (Q : AX → AS → Prop) (τ : Sto), (∀ (_u : Unit), out = Sum.inr () → ∀ (T : Nat → AV) (σ : Sto), T 4 = .bool false → Fx τ σ [] [] → Q (.ex 0) ⟨T, σ⟩) → (∀ r, out = Sum.inl r → ∀ s', aRet Tryd.prog [.tmp 4] (fun r' σ' => r' = .bool r ∧ σ' = τ) s' → Q .ret s') → ∀ (T : Nat → AV) (σ : Sto), T 0 = .sl false (rws Val.cells a0) ∧ T 1 = .sl false (rws Val.cells a1) ∧ T 4 = .bool false ∧ T 5 = .int .i64 z0t_5 → Fx τ σ [] [] → aLoop (acode Tryd.prog c) Q ⟨T, σ⟩) ?s0 ?s1 ?s2 ?s3 ?s4 ?s5
  · exact ⟨h.1, h.2.2.2.2.1, h.2.1, h.2.2.2.1⟩
  · intro laws_eqSlotS laws_eqValueS C2 C1 a0 a1 r H
    intro σ
    refine ctr_of mixed Tryd.func17 rfl (by kernel_rfl) (rs := [.tmp 4]) rfl (by kernel_rfl) ?_
    have hF := Fx.refl σ
    have hX := Tau.none σ
    have q := dum
    have tT := dum
    refine go ?_
    refine fx_alloc hF rfl fun b1 σ2 hF => ?_
    refine go ?_
    refine fx_alloc hF rfl fun b3 σ4 hF => ?_
    refine go ?_
    refine cdn H (fun h H => ?_) (fun h H => ?_)
    · refine go ?_
      have e := pur H; subst e
      exact rt [.bool false]
    · refine go ?_
      refine cdn H (fun h H => ?_) (fun h H => ?_)
      · refine go ?_
        have e := pur H; subst e
        exact rt [.bool false]
      · refine go ?_
        refine cdn H (fun h H => ?_) (fun h H => ?_)
        · refine go ?_
          have e := pur H; subst e
          exact rt [.bool false]
        · refine go ?_
          obtain ⟨x24, hx24, H⟩ := bnd H
          refine cl (C1 a0.items a1.items _ hx24) ?_
          refine go ?_
          refine cdb H (fun h H => ?_) (fun h H => ?_)
          · refine go ?_
            have e := pur H; subst e
            exact rt [.bool false]
          · refine go ?_
            obtain ⟨x30, hx30, H⟩ := bnd H
            refine cl (laws_eqCore_ok a0.fn a1.fn _ hx30) ?_
            refine go ?_
            refine cdb H (fun h H => ?_) (fun h H => ?_)
            · refine go ?_
              have e := pur H; subst e
              exact rt [.bool false]
            · refine go ?_
              obtain ⟨x36, hx36, H⟩ := bnd H
              refine cl (C2 a0.env a1.env _ hx36) ?_
              refine go ?_
              refine cdb H (fun h H => ?_) (fun h H => ?_)
              · refine go ?_
                have e := pur H; subst e
                exact rt [.bool false]
              · refine go ?_
                have e := pur H; subst e
                exact rt [.bool true]
  · intro laws_eqSlotS_l0 L1 a0 a1 r H
    intro σ
    refine ctr_of mixed Tryd.func51 rfl (by kernel_rfl) (rs := [.tmp 4]) rfl (by kernel_rfl) ?_
    have hF := Fx.refl σ
    have hX := Tau.none σ
    have q := dum
    have tT := dum
    refine go ?_
    refine cdn H (fun h H => ?_) (fun h H => ?_)
    · refine go ?_
      have e := pur H; subst e
      exact rt [.bool false]
    · refine go ?_
      obtain ⟨o1, ho1, H⟩ := bnd H
      refine L1 a0 a1 0 _ ho1 _ rfl _ _  ?_ ?_ _ _  S hF
      · intro _ he T3 σ4 tT hF
        have he := he.symm
        subst he
        dsimp only at H
        refine go ?_
        have e := pur H; subst e
        exact rt [.bool true]
      · intro r hr s' hs
        subst hr
        have e := pur H; subst e
        first | exact hs | (try simp only [Fm.cells_eq] at hs ⊢; exact hs)
  · intro laws_eqSlotS_l0 laws_eqSlot L1 C3 a0 a1 z0t_5 out H c hc Q τ  hE hR T σ tT hF
    obtain rfl := Option.some.inj ((rfl : loopAt Tryd.f51 0 = some _).symm.trans hc)
    refine aLoop_round ?_
    have q := dum
    have hX := Tau.none τ
    refine go ?_
    refine cdp H (fun h H => ?_) (fun h H => ?_)
    · refine go ?_
      refine draw_text E0 [.v, .v, .v, .v, .v, .v, .v, .v, .v, .v] (by kernel_rfl) ?_
      obtain ⟨x19, f1, H⟩ := bil (g := Slt.cells) Slt.cells_len H
      obtain ⟨x23, f2, H⟩ := bil (g := Slt.cells) Slt.cells_len H
      refine go2 ?_
      obtain ⟨x25, hx25, H⟩ := bnd H
      refine cv (C3 x19 x23 _ hx25) ?_
      refine go ?_
      refine cdb H (fun h H => ?_) (fun h H => ?_)
      · refine go ?_
        exact hR _ (pur H).symm _ (rt [.bool false])
      · refine go ?_
        exact L1 a0 a1 (IntKind.i64.wrap (z0t_5 + 1)) _ H _ rfl Q τ  hE hR _ _  S hF
    · refine go ?_
      exact hE () (pur H).symm _ _  S hF
  · intro laws_eqValue C0 a0 a1 r H
    intro σ
    refine ctr_of mixed Tryd.func80 rfl (by kernel_rfl) (rs := [.tmp 4]) rfl (by kernel_rfl) ?_
    have hF := Fx.refl σ
    have hX := Tau.none σ
    have q := dum
    have tT := dum
    refine go ?_
    refine fx_alloc hF rfl fun b1 σ2 hF => ?_
    refine go ?_
    refine fx_alloc hF rfl fun b3 σ4 hF => ?_
    refine go ?_
    refine cdn H (fun h H => ?_) (fun h H => ?_)
    · refine go ?_
      have e := pur H; subst e
      exact rt [.bool false]
    · refine go ?_
      obtain ⟨x14, hx14, H⟩ := bnd H
      refine cl (C0 a0.val a1.val _ hx14) ?_
      refine go ?_
      refine cdb H (fun h H => ?_) (fun h H => ?_)
      · refine go ?_
        have e := pur H; subst e
        exact rt [.bool false]
      · refine go ?_
        have e := pur H; subst e
        exact rt [.bool true]
  · intro laws_eqValueS_l0 L0 a0 a1 r H
    intro σ
    refine ctr_of mixed Tryd.func49 rfl (by kernel_rfl) (rs := [.tmp 4]) rfl (by kernel_rfl) ?_
    have hF := Fx.refl σ
    have hX := Tau.none σ
    have q := dum
    have tT := dum
    refine go ?_
    refine cdn H (fun h H => ?_) (fun h H => ?_)
    · refine go ?_
      have e := pur H; subst e
      exact rt [.bool false]
    · refine go ?_
      obtain ⟨o1, ho1, H⟩ := bnd H
      refine L0 a0 a1 0 _ ho1 _ rfl _ _  ?_ ?_ _ _  S hF
      · intro _ he T3 σ4 tT hF
        have he := he.symm
        subst he
        dsimp only at H
        refine go ?_
        have e := pur H; subst e
        exact rt [.bool true]
      · intro r hr s' hs
        subst hr
        have e := pur H; subst e
        first | exact hs | (try simp only [Fm.cells_eq] at hs ⊢; exact hs)
  · intro laws_eqValue laws_eqValueS_l0 C0 L0 a0 a1 z0t_5 out H c hc Q τ  hE hR T σ tT hF
    obtain rfl := Option.some.inj ((rfl : loopAt Tryd.f49 0 = some _).symm.trans hc)
    refine aLoop_round ?_
    have q := dum
    have hX := Tau.none τ
    refine go ?_
    refine cdp H (fun h H => ?_) (fun h H => ?_)
    · refine go ?_
      refine draw_text E0 [.v, .v, .v, .v, .v, .v, .v, .v, .v, .v] (by kernel_rfl) ?_
      obtain ⟨x19, f1, H⟩ := bil (g := Val.cells) Val.cells_len H
      obtain ⟨x23, f2, H⟩ := bil (g := Val.cells) Val.cells_len H
      refine go2 ?_
      obtain ⟨x25, hx25, H⟩ := bnd H
      refine cv (C0 x19 x23 _ hx25) ?_
      refine go ?_
      refine cdb H (fun h H => ?_) (fun h H => ?_)
      · refine go ?_
        exact hR _ (pur H).symm _ (rt [.bool false])
      · refine go ?_
        exact L0 a0 a1 (IntKind.i64.wrap (z0t_5 + 1)) _ H _ rfl Q τ  hE hR _ _  S hF
    · refine go ?_
      exact hE () (pur H).symm _ _  S hF
theorem laws_eqValue_ok : ∀ (a0 : Val) (a1 : Val) r, laws_eqValue a0 a1 = some r → PCtr Tryd.prog 17 [.agg (Val.cells a0), .agg (Val.cells a1)] (.bool r) := laws_eqValue_all.1
theorem laws_eqValueS_ok : ∀ (a0 : List Val) (a1 : List Val) r, laws_eqValueS a0 a1 = some r → PCtr Tryd.prog 49 [.sl false (rws Val.cells a0), .sl false (rws Val.cells a1)] (.bool r) := laws_eqValue_all.2.1
theorem laws_eqSlotS_ok : ∀ (a0 : List Slt) (a1 : List Slt) r, laws_eqSlotS a0 a1 = some r → PCtr Tryd.prog 51 [.sl false (rws Slt.cells a0), .sl false (rws Slt.cells a1)] (.bool r) := laws_eqValue_all.2.2.1
theorem laws_eqSlot_ok : ∀ (a0 : Slt) (a1 : Slt) r, laws_eqSlot a0 a1 = some r → PCtr Tryd.prog 80 [.agg (Slt.cells a0), .agg (Slt.cells a1)] (.bool r) := laws_eqValue_all.2.2.2
theorem laws_FnExactValueSame_ok : ∀ (a0 : Val) (a1 : Val) r, laws_FnExactValueSame a0 a1 = some r → PCtr Tryd.prog 6 [.agg (Val.cells a0), .agg (Val.cells a1)] (.bool r) := by
  intro a0 a1 r H
  intro σ
  unfold laws_FnExactValueSame at H
  refine ctr_of mixed Tryd.func6 rfl (by kernel_rfl) (rs := [.tmp 4]) rfl (by kernel_rfl) ?_
  have hF := Fx.refl σ
  have hX := Tau.none σ
  have q := dum
  have tT := dum
  refine go ?_
  refine fx_alloc hF rfl fun b1 σ2 hF => ?_
  refine go ?_
  refine fx_alloc hF rfl fun b3 σ4 hF => ?_
  refine go ?_
  obtain ⟨x12, hx12, H⟩ := bnd H
  refine cl (laws_szValue_ok a0 1048576 _ hx12) ?_
  refine go ?_
  refine cdp H (fun h H => ?_) (fun h H => ?_)
  · refine go ?_
    have e := pur H; subst e
    exact rt [.bool true]
  · refine go ?_
    obtain ⟨x17, hx17, H⟩ := bnd H
    refine cl (laws_szValue_ok a1 x12 _ hx17) ?_
    refine go ?_
    refine cdp H (fun h H => ?_) (fun h H => ?_)
    · refine go ?_
      have e := pur H; subst e
      exact rt [.bool true]
    · refine go ?_
      refine draw_text E0 [.v, .v, .v, .v, .v, .v] (by kernel_rfl) ?_
      refine go ?_
      obtain ⟨x21, hx21, H⟩ := bnd H
      refine cv (laws_toValue_ok a0 _ hx21) ?_
      refine go ?_
      obtain ⟨x23, hx23, H⟩ := bnd H
      refine cv (laws_toValue_ok a1 _ hx23) ?_
      refine go ?_
      obtain ⟨x24, hx24, H⟩ := bnd H
      refine cv (spec_ValueSame_ok x21 x23 _ hx24) ?_
      refine go ?_
      obtain ⟨x26, hx26, H⟩ := bnd H
      refine cl (laws_toValue_ok a0 _ hx26) ?_
      refine go ?_
      refine fx_alloc hF rfl fun b5 σ6 hF => ?_
      refine go ?_
      refine st hF 0 rfl fun σ7 hF => ?_
      refine go ?_
      obtain ⟨x28, hx28, H⟩ := bnd H
      refine cl (laws_toValue_ok a1 _ hx28) ?_
      refine go ?_
      refine fx_alloc hF rfl fun b8 σ9 hF => ?_
      refine go ?_
      refine st hF 0 rfl fun σ10 hF => ?_
      refine go ?_
      obtain ⟨x31, hx31, H⟩ := bnd H
      refine cl (impl_ValueSame_ok x26 x28 _ hx31) ?_
      refine go ?_
      refine cdb H (fun h H => ?_) (fun h H => ?_)
      · refine go ?_
        have e := pur H; subst e
        exact rt [.bool false]
      · refine go ?_
        refine draw_text E0 [.v, .v, .v, .v, .v] (by kernel_rfl) ?_
        refine go ?_
        obtain ⟨x37, hx37, H⟩ := bnd H
        refine cv (laws_toValue_ok a0 _ hx37) ?_
        refine go ?_
        obtain ⟨x38, hx38, H⟩ := bnd H
        refine cv (laws_eqValue_ok x26 x37 _ hx38) ?_
        refine go ?_
        refine cdb H (fun h H => ?_) (fun h H => ?_)
        · refine go ?_
          have e := pur H; subst e
          exact rt [.bool false]
        · refine go ?_
          refine draw_text E0 [.v, .v, .v, .v, .v] (by kernel_rfl) ?_
          refine go ?_
          obtain ⟨x42, hx42, H⟩ := bnd H
          refine cv (laws_toValue_ok a1 _ hx42) ?_
          refine go ?_
          obtain ⟨x43, hx43, H⟩ := bnd H
          refine cv (laws_eqValue_ok x28 x42 _ hx43) ?_
          refine go ?_
          refine cdb H (fun h H => ?_) (fun h H => ?_)
          · refine go ?_
            have e := pur H; subst e
            exact rt [.bool false]
          · refine go ?_
            have e := pur H; subst e
            exact rt [.bool true]
end Go.Proofs.SA
