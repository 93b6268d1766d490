/- Printed by a program of mine: the plain functions that the code computes (D), and the walks that show it (W). -/
import Derived.Test.YtmacemmkocjkaaaDoorGz
import Derived.Test.YtmacemmkocjkaaaDoorSaTy
import Derived.Test.YtmacemmkocjkaaaDoorGv
import Derived.Test.YtmacemmkocjkaaaDoorSf
import Derived.Test.YtmacemmkocjkaaaDoorEfD
set_option maxRecDepth 100000
set_option linter.unusedSimpArgs false
set_option linter.unusedVariables false
open Go Go.Proofs Go.Proofs.Shadow
namespace Go.Proofs.SA
theorem laws_szIntS_ok : ∀ (a0 : List Int) (a1 : Int) r, laws_szIntS a0 a1 = some r → PCtr Tryd.prog 30 [.sl false (rws cI a0), .int .i64 a1] (.int .i64 r) := by
  intro a0 a1 r H
  intro σ
  unfold laws_szIntS at H
  refine ctr_of mixed Tryd.func30 rfl (by kernel_rfl) (rs := [.tmp 4]) rfl (by kernel_rfl) ?_
  have hF := Fx.refl σ
  have hX := Tau.none σ
  have q := dum
  have tT := dum
  refine go ?_
  refine cdp H (fun h H => ?_) (fun h H => ?_)
  · refine go ?_
    have e := pur H; subst e
    exact rt [.int .i64 (-1)]
  · refine go ?_
    have e := pur H; subst e
    exact rt [.int .i64 (IntKind.i64.wrap (a1 - (a0.length : Int)))]
theorem laws_szForm_all : (∀ (a0 : Fm) (a1 : Int) r, laws_szForm a0 a1 = some r → PCtr Tryd.prog 8 [.agg (Fm.cells a0), .int .i64 a1] (.int .i64 r)) ∧ (∀ (a0 : List Fm) (a1 : Int) r, laws_szFormS a0 a1 = some r → PCtr Tryd.prog 31 [.sl false (rws Fm.cells a0), .int .i64 a1] (.int .i64 r)) := by
  have h := laws_szForm.mutual_partial_correctness (motive_1 := fun a0 a1 r => PCtr Tryd.prog 8 [.agg (Fm.cells a0), .int .i64 a1] (.int .i64 r)) (motive_2 := fun a0 a1 r => PCtr Tryd.prog 31 [.sl false (rws Fm.cells a0), .int .i64 a1] (.int .i64 r)) (motive_3 := fun a0 z0t_1 z0t_5 out => ∀ c, loopAt Tryd.f31 0 = some c → ∀ (Q : AX → AS → Prop) (τ : Sto), (∀ (e0t_1 : Int), out = Sum.inr e0t_1 → ∀ (T : Nat → AV) (σ : Sto), T 1 = .int .i64 e0t_1 ∧ T 4 = .int .i64 0 → Fx τ σ [] [] → Q (.ex 0) ⟨T, σ⟩) → (∀ r, out = Sum.inl r → ∀ s', aRet Tryd.prog [.tmp 4] (fun r' σ' => r' = .int .i64 r ∧ σ' = τ) s' → Q .ret s') → ∀ (T : Nat → AV) (σ : Sto), T 0 = .sl false (rws Fm.cells a0) ∧ T 1 = .int .i64 z0t_1 ∧ T 4 = .int .i64 0 ∧ T 5 = .int .i64 z0t_5 → Fx τ σ [] [] → aLoop (acode Tryd.prog c) Q ⟨T, σ⟩) ?s0 ?s1 ?s2
  · exact ⟨h.1, h.2.1⟩
  · intro laws_szFormS C1 a0 a1 r H
    intro σ
    refine ctr_of mixed Tryd.func8 rfl (by kernel_rfl) (rs := [.tmp 4]) rfl (by kernel_rfl) ?_
    have hF := Fx.refl σ
    have hX := Tau.none σ
    have q := dum
    have tT := dum
    refine go ?_
    refine fx_alloc hF rfl fun b1 σ2 hF => ?_
    refine go ?_
    refine cdp H (fun h H => ?_) (fun h H => ?_)
    · refine go ?_
      have e := pur H; subst e
      exact rt [.int .i64 (-1)]
    · refine go ?_
      obtain ⟨x15, hx15, H⟩ := bnd H
      refine cl (laws_szIntS_ok a0.sc (IntKind.i64.wrap (a1 - (a0.name.size : Int))) _ hx15) ?_
      refine go ?_
      refine cdp H (fun h H => ?_) (fun h H => ?_)
      · refine go ?_
        have e := pur H; subst e
        exact rt [.int .i64 (-1)]
      · refine go ?_
        obtain ⟨x21, hx21, H⟩ := bnd H
        refine cl (C1 a0.kids x15 _ hx21) ?_
        refine go ?_
        refine cdp H (fun h H => ?_) (fun h H => ?_)
        · refine go ?_
          have e := pur H; subst e
          exact rt [.int .i64 (-1)]
        · refine go ?_
          have e := pur H; subst e
          exact rt [.int .i64 x21]
  · intro laws_szFormS_l0 L0 a0 a1 r H
    intro σ
    refine ctr_of mixed Tryd.func31 rfl (by kernel_rfl) (rs := [.tmp 4]) rfl (by kernel_rfl) ?_
    have hF := Fx.refl σ
    have hX := Tau.none σ
    have q := dum
    have tT := dum
    refine go ?_
    refine cdp H (fun h H => ?_) (fun h H => ?_)
    · refine go ?_
      have e := pur H; subst e
      exact rt [.int .i64 (-1)]
    · refine go ?_
      obtain ⟨o1, ho1, H⟩ := bnd H
      refine L0 a0 (IntKind.i64.wrap (a1 - (a0.length : Int))) 0 _ ho1 _ rfl _ _  ?_ ?_ _ _  S hF
      · intro e2t_1 he T3 σ4 tT hF
        have he := he.symm
        subst he
        dsimp only at H
        refine go ?_
        have e := pur H; subst e
        exact rt [.int .i64 e2t_1]
      · intro r hr s' hs
        subst hr
        have e := pur H; subst e
        first | exact hs | (try simp only [Fm.cells_eq] at hs ⊢; exact hs)
  · intro laws_szForm laws_szFormS_l0 C0 L0 a0 z0t_1 z0t_5 out H c hc Q τ  hE hR T σ tT hF
    obtain rfl := Option.some.inj ((rfl : loopAt Tryd.f31 0 = some _).symm.trans hc)
    refine aLoop_round ?_
    have q := dum
    have hX := Tau.none τ
    refine go ?_
    refine cdp H (fun h H => ?_) (fun h H => ?_)
    · obtain ⟨x20, f1, H⟩ := bil (g := Fm.cells) Fm.cells_len H
      refine go1 ?_
      obtain ⟨x23, hx23, H⟩ := bnd H
      refine cl (C0 x20 z0t_1 _ hx23) ?_
      refine go ?_
      refine cdp H (fun h H => ?_) (fun h H => ?_)
      · refine go ?_
        exact hR _ (pur H).symm _ (rt [.int .i64 (-1)])
      · refine go ?_
        exact L0 a0 x23 (IntKind.i64.wrap (z0t_5 + 1)) _ H _ rfl Q τ  hE hR _ _  S hF
    · refine go ?_
      exact hE _ (pur H).symm _ _  S hF
theorem laws_szForm_ok : ∀ (a0 : Fm) (a1 : Int) r, laws_szForm a0 a1 = some r → PCtr Tryd.prog 8 [.agg (Fm.cells a0), .int .i64 a1] (.int .i64 r) := laws_szForm_all.1
theorem laws_szFormS_ok : ∀ (a0 : List Fm) (a1 : Int) r, laws_szFormS a0 a1 = some r → PCtr Tryd.prog 31 [.sl false (rws Fm.cells a0), .int .i64 a1] (.int .i64 r) := laws_szForm_all.2
theorem laws_toIntS_l0_ok : ∀ (a0 : List Int) (z0o_0 : List Int) (z0t_4 : Int) out, laws_toIntS_l0 a0 z0o_0 z0t_4 = some out → ∀ c, loopAt Tryd.f35 0 = some c → ∀ (Q : AX → AS → Prop) (τ : Sto) (b1 : Nat), (∀ (e0o_0 : List Int), out = e0o_0 → ∀ (T : Nat → AV) (σ : Sto), T 2 = .nilsl ∧ T 3 = .ref b1 a0.length a0.length → Fx τ σ [] [⟨.ref b1 a0.length a0.length, 3, 1, rws cI e0o_0⟩] → Q (.ex 0) ⟨T, σ⟩) → True → ∀ (T : Nat → AV) (σ : Sto), T 0 = .sl false (rws cI a0) ∧ T 2 = .nilsl ∧ T 3 = .ref b1 a0.length a0.length ∧ T 4 = .int .i64 z0t_4 → Fx τ σ [] [⟨.ref b1 a0.length a0.length, 3, 1, rws cI z0o_0⟩] → aLoop (acode Tryd.prog c) Q ⟨T, σ⟩ := by
  intro a0 z0o_0 z0t_4
  revert z0o_0 z0t_4
  refine laws_toIntS_l0.partial_correctness a0 _ ?_
  intro laws_toIntS_l0 IH z0o_0 z0t_4 out H c hc Q τ b1 hE hR T σ tT hF
  obtain rfl := Option.some.inj ((rfl : loopAt Tryd.f35 0 = some _).symm.trans hc)
  refine aLoop_round ?_
  have q := dum
  have hX := Tau.none τ
  refine go ?_
  refine cdp H (fun h H => ?_) (fun h H => ?_)
  · obtain ⟨x18, f1, H⟩ := bil (g := cI) (fun _ => rfl) H
    obtain ⟨x20, hx20, H⟩ := bnd H
    try simp only [go_sem, ↓reduceIte, Nat.reduceEqDiff, Nat.reduceAdd, Nat.reduceMul, Nat.reduceLeDiff, Nat.reduceLT, Int.reduceEq, Int.toNat_natCast, q, tT, hF.f, hF.m, hF.x hX, f1, aidx_own (l := z0o_0) ((own_at hF 0 rfl).1.trans (rws_len _)) hx20]
    refine fx_oset hF 0 (o := 0) (sz := 1) (k := 1) (v := (.int .i64 x18)) (cs := [.int .i64 x18]) (g := cI) (i := z0t_4) x18 (fun _ => rfl) (by first | rfl | simp) rfl hx20 rfl rfl (by decide) (by first | rfl | simp [splice_eq, cI, cU, cS, cL, cB]) fun σ3 hF => ?_
    have hF : Fx τ σ3 [] [⟨.ref b1 a0.length a0.length, 3, 1, rws cI (z0o_0.set z0t_4.toNat x18)⟩] := hF
    refine go ?_
    exact IH  (z0o_0.set z0t_4.toNat x18) (IntKind.i64.wrap (z0t_4 + 1)) _ H _ rfl Q τ b1 hE hR _ _  S hF
  · refine go ?_
    exact hE _ (pur H).symm _ _  S hF
theorem laws_toIntS_ok : ∀ (a0 : List Int) r, laws_toIntS a0 = some r → PCtr Tryd.prog 35 [.sl false (rws cI a0)] (.sl false (rws cI r)) := by
  intro a0 r H
  intro σ
  unfold laws_toIntS at H
  refine ctr_of mixed Tryd.func35 rfl (by kernel_rfl) (rs := [.tmp 2]) rfl (by kernel_rfl) ?_
  have hF := Fx.refl σ
  have hX := Tau.none σ
  have q := dum
  have tT := dum
  refine go ?_
  obtain ⟨x7, hx7, H⟩ := bnd H
  refine fx_make (g := cI) 0 hF rfl (fun _ => rfl) (by (try simp only [cI, cU, cS, cL, cB]); exact (.cons (.refl _) id .nil)) hx7 fun b1 σ2 hF => ?_
  simp only [Int.toNat_natCast] at hF
  refine go ?_
  obtain ⟨o4, ho4, H⟩ := bnd H
  refine laws_toIntS_l0_ok a0 x7 0 _ ho4 _ rfl _ _ b1 ?_ ?_ _ _  S hF
  · intro e5o_0 he T6 σ7 tT hF
    have he := he.symm
    subst he
    refine go ?_
    have e := pur H; subst e
    exact rt [.ref b1 a0.length a0.length]
  · trivial
theorem laws_toForm_all : (∀ (a0 : Fm) r, laws_toForm a0 = some r → PCtr Tryd.prog 10 [.agg (Fm.cells a0)] (.agg (Fm.cells r))) ∧ (∀ (a0 : List Fm) r, laws_toFormS a0 = some r → PCtr Tryd.prog 36 [.sl false (rws Fm.cells a0)] (.sl false (rws Fm.cells r))) := by
  have h := laws_toForm.mutual_partial_correctness (motive_1 := fun a0 r => PCtr Tryd.prog 10 [.agg (Fm.cells a0)] (.agg (Fm.cells r))) (motive_2 := fun a0 r => PCtr Tryd.prog 36 [.sl false (rws Fm.cells a0)] (.sl false (rws Fm.cells r))) (motive_3 := fun a0 z0o_0 z0t_4 out => ∀ c, loopAt Tryd.f36 0 = some c → ∀ (Q : AX → AS → Prop) (τ : Sto) (b1 : Nat), (∀ (e0o_0 : List Fm), out = e0o_0 → ∀ (T : Nat → AV) (σ : Sto), T 2 = .nilsl ∧ T 3 = .ref b1 a0.length a0.length → Fx τ σ [] [⟨.ref b1 a0.length a0.length, 30, 5, rws Fm.cells e0o_0⟩] → Q (.ex 0) ⟨T, σ⟩) → True → ∀ (T : Nat → AV) (σ : Sto), T 0 = .sl false (rws Fm.cells a0) ∧ T 2 = .nilsl ∧ T 3 = .ref b1 a0.length a0.length ∧ T 4 = .int .i64 z0t_4 → Fx τ σ [] [⟨.ref b1 a0.length a0.length, 30, 5, rws Fm.cells z0o_0⟩] → aLoop (acode Tryd.prog c) Q ⟨T, σ⟩) ?s0 ?s1 ?s2
  · exact ⟨h.1, h.2.1⟩
  · intro laws_toFormS C1 a0 r H
    intro σ
    refine ctr_of mixed Tryd.func10 rfl (by kernel_rfl) (rs := [.cell 2 30]) rfl (by kernel_rfl) ?_
    have hF := Fx.refl σ
    have hX := Tau.none σ
    have q := dum
    have tT := dum
    refine go ?_
    refine fx_alloc hF rfl fun b1 σ2 hF => ?_
    refine go ?_
    refine fx_alloc hF rfl fun b3 σ4 hF => ?_
    refine go ?_
    refine fx_alloc hF rfl fun b5 σ6 hF => ?_
    refine go ?_
    refine st hF 0 rfl fun σ7 hF => ?_
    refine go ?_
    refine st hF 0 rfl fun σ8 hF => ?_
    refine go ?_
    refine st hF 0 rfl fun σ9 hF => ?_
    refine go ?_
    obtain ⟨x15, hx15, H⟩ := bnd H
    refine cl (laws_toIntS_ok a0.sc _ hx15) ?_
    refine go ?_
    refine st hF 0 rfl fun σ10 hF => ?_
    refine go ?_
    obtain ⟨x19, hx19, H⟩ := bnd H
    refine cl (C1 a0.kids _ hx19) ?_
    refine go ?_
    refine st hF 0 rfl fun σ11 hF => ?_
    refine go ?_
    refine st hF 1 rfl fun σ12 hF => ?_
    refine go ?_
    have e := pur H; subst e
    exact rt [.agg [.int .i64 a0.kind, .str a0.name, .int .i64 a0.num, .sl false (rws cI x15), .sl false (rws Fm.cells x19)]]
  · intro laws_toFormS_l0 L0 a0 r H
    intro σ
    refine ctr_of mixed Tryd.func36 rfl (by kernel_rfl) (rs := [.tmp 2]) rfl (by kernel_rfl) ?_
    have hF := Fx.refl σ
    have hX := Tau.none σ
    have q := dum
    have tT := dum
    refine go ?_
    obtain ⟨x7, hx7, H⟩ := bnd H
    refine fx_make (g := Fm.cells) (Fm.mk 0 (ByteArray.mk #[]) 0 [] []) hF rfl Fm.cells_len (by (try simp only [cI, cU, cS, cL, cB, Fm.cells_eq]); exact (.cons (.refl _) id (.cons (.refl _) id (.cons (.refl _) id (.cons .nilsl (fun _ => rfl) (.cons .nilsl (fun _ => rfl) .nil)))))) hx7 fun b1 σ2 hF => ?_
    simp only [Int.toNat_natCast] at hF
    refine go ?_
    obtain ⟨o4, ho4, H⟩ := bnd H
    refine L0 a0 x7 0 _ ho4 _ rfl _ _ b1 ?_ ?_ _ _  S hF
    · intro e5o_0 he T6 σ7 tT hF
      have he := he.symm
      subst he
      refine go ?_
      have e := pur H; subst e
      exact rt [.ref b1 a0.length a0.length]
    · trivial
  · intro laws_toForm laws_toFormS_l0 C0 L0 a0 z0o_0 z0t_4 out H c hc Q τ b1 hE hR T σ tT hF
    obtain rfl := Option.some.inj ((rfl : loopAt Tryd.f36 0 = some _).symm.trans hc)
    refine aLoop_round ?_
    have q := dum
    have hX := Tau.none τ
    refine go ?_
    refine cdp H (fun h H => ?_) (fun h H => ?_)
    · obtain ⟨x18, f1, H⟩ := bil (g := Fm.cells) Fm.cells_len H
      refine go1 ?_
      obtain ⟨x20, hx20, H⟩ := bnd H
      refine cl (C0 x18 _ hx20) ?_
      obtain ⟨x21, hx21, H⟩ := bnd H
      try simp only [go_sem, ↓reduceIte, Nat.reduceEqDiff, Nat.reduceAdd, Nat.reduceMul, Nat.reduceLeDiff, Nat.reduceLT, Int.reduceEq, Int.toNat_natCast, q, tT, hF.f, hF.m, hF.x hX, aidx_own (l := z0o_0) ((own_at hF 0 rfl).1.trans (rws_len _)) hx21]
      refine fx_oset hF 0 (o := 0) (sz := 5) (k := 5) (v := (.agg [.int .i64 x20.kind, .str x20.name, .int .i64 x20.num, .sl false (rws cI x20.sc), .sl false (rws Fm.cells x20.kids)])) (cs := [.int .i64 x20.kind, .str x20.name, .int .i64 x20.num, .sl false (rws cI x20.sc), .sl false (rws Fm.cells x20.kids)]) (g := Fm.cells) (i := z0t_4) x20 Fm.cells_len (by first | rfl | simp) rfl hx21 rfl rfl (by decide) (by first | rfl | simp [splice_eq, cI, cU, cS, cL, cB, Fm.cells_eq]) fun σ3 hF => ?_
      have hF : Fx τ σ3 [] [⟨.ref b1 a0.length a0.length, 30, 5, rws Fm.cells (z0o_0.set z0t_4.toNat x20)⟩] := hF
      refine go ?_
      exact L0 a0 (z0o_0.set z0t_4.toNat x20) (IntKind.i64.wrap (z0t_4 + 1)) _ H _ rfl Q τ b1 hE hR _ _  S hF
    · refine go ?_
      exact hE _ (pur H).symm _ _  S hF
theorem laws_toForm_ok : ∀ (a0 : Fm) r, laws_toForm a0 = some r → PCtr Tryd.prog 10 [.agg (Fm.cells a0)] (.agg (Fm.cells r)) := laws_toForm_all.1
theorem laws_toFormS_ok : ∀ (a0 : List Fm) r, laws_toFormS a0 = some r → PCtr Tryd.prog 36 [.sl false (rws Fm.cells a0)] (.sl false (rws Fm.cells r)) := laws_toForm_all.2
theorem spec_l1In_l0_ok : ∀ (a0 : List ByteArray) (a1 : ByteArray) (z0t_5 : Int) out, spec_l1In_l0 a0 a1 z0t_5 = some out → ∀ c, loopAt Tryd.f33 0 = some c → ∀ (Q : AX → AS → Prop) (τ : Sto), (∀ (_u : Unit), out = Sum.inr () → ∀ (T : Nat → AV) (σ : Sto), T 4 = .bool false → Fx τ σ [] [] → Q (.ex 0) ⟨T, σ⟩) → (∀ r, out = Sum.inl r → ∀ s', aRet Tryd.prog [.tmp 4] (fun r' σ' => r' = .bool r ∧ σ' = τ) s' → Q .ret s') → ∀ (T : Nat → AV) (σ : Sto), T 0 = .sl false (rws cS a0) ∧ T 1 = .str a1 ∧ T 4 = .bool false ∧ T 5 = .int .i64 z0t_5 → Fx τ σ [] [] → aLoop (acode Tryd.prog c) Q ⟨T, σ⟩ := by
  intro a0 a1 z0t_5
  revert z0t_5
  refine spec_l1In_l0.partial_correctness a0 a1 _ ?_
  intro spec_l1In_l0 IH z0t_5 out H c hc Q τ  hE hR T σ tT hF
  obtain rfl := Option.some.inj ((rfl : loopAt Tryd.f33 0 = some _).symm.trans hc)
  refine aLoop_round ?_
  have q := dum
  have hX := Tau.none τ
  refine go ?_
  refine cdp H (fun h H => ?_) (fun h H => ?_)
  · obtain ⟨x14, f1, H⟩ := bil (g := cS) (fun _ => rfl) H
    refine go1 ?_
    refine go ?_
    refine cdp H (fun h H => ?_) (fun h H => ?_)
    · refine go ?_
      exact hR _ (pur H).symm _ (rt [.bool true])
    · refine go ?_
      exact IH  (IntKind.i64.wrap (z0t_5 + 1)) _ H _ rfl Q τ  hE hR _ _  S hF
  · refine go ?_
    exact hE () (pur H).symm _ _  S hF
theorem spec_l1In_ok : ∀ (a0 : List ByteArray) (a1 : ByteArray) r, spec_l1In a0 a1 = some r → PCtr Tryd.prog 33 [.sl false (rws cS a0), .str a1] (.bool r) := by
  intro a0 a1 r H
  intro σ
  unfold spec_l1In at H
  refine ctr_of mixed Tryd.func33 rfl (by kernel_rfl) (rs := [.tmp 4]) rfl (by kernel_rfl) ?_
  have hF := Fx.refl σ
  have hX := Tau.none σ
  have q := dum
  have tT := dum
  refine go ?_
  obtain ⟨o1, ho1, H⟩ := bnd H
  refine spec_l1In_l0_ok a0 a1 0 _ ho1 _ rfl _ _  ?_ ?_ _ _  S hF
  · intro _ he T3 σ4 tT hF
    have he := he.symm
    subst he
    dsimp only at H
    refine go ?_
    have e := pur H; subst e
    exact rt [.bool false]
  · intro r hr s' hs
    subst hr
    have e := pur H; subst e
    first | exact hs | (try simp only [Fm.cells_eq] at hs ⊢; exact hs)
theorem spec_l1Names_o0_ok : ∀ (a0 : List ByteArray) (a1 : Fm) r, spec_l1Names_o0 a0 a1 = some r → ∀  (p0 : AV) (σ : Sto), Pre σ [] [⟨p0, 9, 1, rws cS a0⟩] → Ctr Tryd.prog 32 [p0, .agg (Fm.cells a1)] σ (fun r' σ' => ∃ (τ' : Sto) (w0 : AV), r' = w0 ∧ Tau (strip σ [⟨p0, 9, 1, rws cS a0⟩]) [] τ' ∧ Fx τ' σ' [] [⟨w0, 9, 1, rws cS r⟩]) := by
  refine spec_l1Names_o0.partial_correctness  (motive_1 := fun a0 a1 r => ∀  (p0 : AV) (σ : Sto), Pre σ [] [⟨p0, 9, 1, rws cS a0⟩] → Ctr Tryd.prog 32 [p0, .agg (Fm.cells a1)] σ (fun r' σ' => ∃ (τ' : Sto) (w0 : AV), r' = w0 ∧ Tau (strip σ [⟨p0, 9, 1, rws cS a0⟩]) [] τ' ∧ Fx τ' σ' [] [⟨w0, 9, 1, rws cS r⟩])) (motive_2 := fun a1 z0o_0 z0t_5 out => ∀ c, loopAt Tryd.f32 0 = some c → ∀ (Q : AX → AS → Prop) (τ0 : Sto) (b1 : Nat), (∀ (e0o_0 : List ByteArray), out = e0o_0 → ∀ (T : Nat → AV) (σ : Sto) (τ : Sto) (e0v0 : AV), T 0 = e0v0 ∧ T 4 = .nilsl → Tau τ0 [] τ → Fx τ σ [(b1, ⟨30, 5, [.int .i64 a1.kind, .str a1.name, .int .i64 a1.num, .sl false (rws cI a1.sc), .sl false (rws Fm.cells a1.kids)]⟩)] [⟨e0v0, 9, 1, rws cS e0o_0⟩] → Q (.ex 0) ⟨T, σ⟩) → True → ∀ (T : Nat → AV) (σ : Sto) (τ : Sto) (z0v0 : AV), T 0 = z0v0 ∧ T 3 = .ptr b1 0 ∧ T 4 = .nilsl ∧ T 5 = .int .i64 z0t_5 → Tau τ0 [] τ → Fx τ σ [(b1, ⟨30, 5, [.int .i64 a1.kind, .str a1.name, .int .i64 a1.num, .sl false (rws cI a1.sc), .sl false (rws Fm.cells a1.kids)]⟩)] [⟨z0v0, 9, 1, rws cS z0o_0⟩] → aLoop (acode Tryd.prog c) Q ⟨T, σ⟩) ?_ ?_
  · intro spec_l1Names_o0_l0 L0 a0 a1 r H
    intro  p0 σ hP
    refine ctr_of mixed Tryd.func32 rfl (by kernel_rfl) (rs := [.tmp 4]) rfl (by kernel_rfl) ?_
    obtain ⟨hF, hX⟩ := hP.start
    generalize strip σ [⟨p0, 9, 1, rws cS a0⟩] = τ0 at hF hX ⊢
    have q := dum
    have tT := dum
    refine go ?_
    refine fx_alloc hF rfl fun b1 σ2 hF => ?_
    refine go ?_
    obtain ⟨x15, g3, H⟩ := bnd H
    refine aGd_cutN 5 10 15 (.bool x15) (gi q (fun q => ?_) (fun q => ?_)) (fun J => ?_)
    · rw [if_pos (dt q)] at g3
      refine go ?_
      obtain ⟨x13, hx13, g3⟩ := bnd g3
      refine aCall_flat (spec_l1In_ok a0 a1.name _ hx13) .bool (.cons ((hF.wk 0 rfl).trans (Wk.sub (Sub.zero _) _)) (fun _ => rfl) (.cons (Wk.sub (Sub.zero _) _) id .nil)) ?_
      refine go ?_
      exact cutd 10 g3
    · rw [if_neg (df q)] at g3
      refine go ?_
      exact cutd 10 g3
    refine go ?_
    obtain ⟨y5o_0, j6, H⟩ := bnd H
    refine aCnd_join (fun s' => ∃ (T : Nat → AV) (σ1 : Sto) (τ1 : Sto) (y5v0 : AV), s' = ⟨T, σ1⟩ ∧ (T 0 = y5v0 ∧ T 3 = .ptr b1 0 ∧ T 4 = .nilsl) ∧ Tau τ0 [] τ1 ∧ Fx τ1 σ1 [(b1, ⟨30, 5, [.int .i64 a1.kind, .str a1.name, .int .i64 a1.num, .sl false (rws cI a1.sc), .sl false (rws Fm.cells a1.kids)]⟩)] [⟨y5v0, 9, 1, rws cS y5o_0⟩]) (cdb j6 (fun h j6 => ?_) (fun h j6 => ?_)) ?_
    · refine go ?_
      refine apd (g := cS) hF 0 j6 (rdo (c := true) (g := cS) (fun _ => rfl)) fun x20 j6 v7 σ8 hF => ?_
      refine go ?_
      have e := pur j6
      subst e
      exact ⟨_, _, _, v7, rfl, S, hX, hF⟩
    · refine go ?_
      have e := pur j6
      subst e
      exact ⟨_, _, _, p0, rfl, S, hX, hF⟩
    · rintro s' ⟨T9, σ10, τ11, y5v0, rfl, tT, hX, hF⟩
      refine go ?_
      obtain ⟨o16, ho16, H⟩ := bnd H
      refine L0 a1 y5o_0 0 _ ho16 _ rfl _ τ0 b1 ?_ ?_ _ _ _ y5v0 S hX hF
      · intro e17o_0 he T18 σ19 τ20 e17v0 tT hX hF
        have he := he.symm
        subst he
        refine go ?_
        have e := pur H; subst e
        exact rg [e17v0] ⟨_, _, rfl, hX, hF.pick [] [0] (by decide) (by decide)⟩
      · trivial
  · intro spec_l1Names_o0 spec_l1Names_o0_l0 C0 L0 a1 z0o_0 z0t_5 out H c hc Q τ0 b1 hE hR T σ τ z0v0 tT hX hF
    obtain rfl := Option.some.inj ((rfl : loopAt Tryd.f32 0 = some _).symm.trans hc)
    refine aLoop_round ?_
    have q := dum
    refine go ?_
    refine cdp H (fun h H => ?_) (fun h H => ?_)
    · obtain ⟨x32, f1, H⟩ := bil (g := Fm.cells) Fm.cells_len H
      refine go1 ?_
      obtain ⟨x34, hx34, H⟩ := bnd H
      refine cx (C0 z0o_0 x32 _ hx34  z0v0 _ (pre 0 0 1 hF hX)) ?_
      rintro v12 σ13 ⟨τ14, _, rfl, hT, hG⟩
      obtain ⟨τ15, hX, hF⟩ := aft 0 0 1 hF hX hT hG
      refine go ?_
      exact L0 a1 x34 (IntKind.i64.wrap (z0t_5 + 1)) _ H _ rfl Q τ0 b1 hE hR _ _ _ v12 S hX hF
    · refine go ?_
      exact hE _ (pur H).symm _ _ _ z0v0 S hX hF
theorem spec_l1Names_l0_ok : ∀ (a1 : Fm) (z0o_0 : List ByteArray) (z0t_5 : Int) out, spec_l1Names_l0 a1 z0o_0 z0t_5 = some out → ∀ c, loopAt Tryd.f32 0 = some c → ∀ (Q : AX → AS → Prop) (τ0 : Sto) (b1 : Nat), (∀ (e0o_0 : List ByteArray), out = e0o_0 → ∀ (T : Nat → AV) (σ : Sto) (τ : Sto) (e0v0 : AV), T 0 = e0v0 ∧ T 4 = .nilsl → Tau τ0 [] τ → Fx τ σ [(b1, ⟨30, 5, [.int .i64 a1.kind, .str a1.name, .int .i64 a1.num, .sl false (rws cI a1.sc), .sl false (rws Fm.cells a1.kids)]⟩)] [⟨e0v0, 9, 1, rws cS e0o_0⟩] → Q (.ex 0) ⟨T, σ⟩) → True → ∀ (T : Nat → AV) (σ : Sto) (τ : Sto) (z0v0 : AV), T 0 = z0v0 ∧ T 3 = .ptr b1 0 ∧ T 4 = .nilsl ∧ T 5 = .int .i64 z0t_5 → Tau τ0 [] τ → Fx τ σ [(b1, ⟨30, 5, [.int .i64 a1.kind, .str a1.name, .int .i64 a1.num, .sl false (rws cI a1.sc), .sl false (rws Fm.cells a1.kids)]⟩)] [⟨z0v0, 9, 1, rws cS z0o_0⟩] → aLoop (acode Tryd.prog c) Q ⟨T, σ⟩ := by
  intro a1 z0o_0 z0t_5
  revert z0o_0 z0t_5
  refine spec_l1Names_l0.partial_correctness a1 _ ?_
  intro spec_l1Names_l0 IH z0o_0 z0t_5 out H c hc Q τ0 b1 hE hR T σ τ z0v0 tT hX hF
  obtain rfl := Option.some.inj ((rfl : loopAt Tryd.f32 0 = some _).symm.trans hc)
  refine aLoop_round ?_
  have q := dum
  refine go ?_
  refine cdp H (fun h H => ?_) (fun h H => ?_)
  · obtain ⟨x32, f1, H⟩ := bil (g := Fm.cells) Fm.cells_len H
    refine go1 ?_
    obtain ⟨x34, hx34, H⟩ := bnd H
    refine cx (spec_l1Names_o0_ok z0o_0 x32 _ hx34  z0v0 _ (pre 0 0 1 hF hX)) ?_
    rintro v12 σ13 ⟨τ14, _, rfl, hT, hG⟩
    obtain ⟨τ15, hX, hF⟩ := aft 0 0 1 hF hX hT hG
    refine go ?_
    exact IH  x34 (IntKind.i64.wrap (z0t_5 + 1)) _ H _ rfl Q τ0 b1 hE hR _ _ _ v12 S hX hF
  · refine go ?_
    exact hE _ (pur H).symm _ _ _ z0v0 S hX hF
theorem spec_l1Names_ok : ∀ (a0 : List ByteArray) (a1 : Fm) r, spec_l1Names a0 a1 = some r → ∀  (p0 : AV) (σ : Sto), Pre σ [] [⟨p0, 9, 1, rws cS a0⟩] → Ctr Tryd.prog 32 [p0, .agg (Fm.cells a1)] σ (fun r' σ' => ∃ (τ' : Sto), r' = .sl false (rws cS r) ∧ Tau (strip σ [⟨p0, 9, 1, rws cS a0⟩]) [] τ' ∧ Fx τ' σ' [] []) := by
  intro a0 a1 r H
  intro  p0 σ hP
  unfold spec_l1Names at H
  refine ctr_of mixed Tryd.func32 rfl (by kernel_rfl) (rs := [.tmp 4]) rfl (by kernel_rfl) ?_
  obtain ⟨hF, hX⟩ := hP.start
  generalize strip σ [⟨p0, 9, 1, rws cS a0⟩] = τ0 at hF hX ⊢
  have q := dum
  have tT := dum
  refine go ?_
  refine fx_alloc hF rfl fun b1 σ2 hF => ?_
  refine go ?_
  obtain ⟨x15, g3, H⟩ := bnd H
  refine aGd_cutN 5 10 15 (.bool x15) (gi q (fun q => ?_) (fun q => ?_)) (fun J => ?_)
  · rw [if_pos (dt q)] at g3
    refine go ?_
    obtain ⟨x13, hx13, g3⟩ := bnd g3
    refine aCall_flat (spec_l1In_ok a0 a1.name _ hx13) .bool (.cons ((hF.wk 0 rfl).trans (Wk.sub (Sub.zero _) _)) (fun _ => rfl) (.cons (Wk.sub (Sub.zero _) _) id .nil)) ?_
    refine go ?_
    exact cutd 10 g3
  · rw [if_neg (df q)] at g3
    refine go ?_
    exact cutd 10 g3
  refine go ?_
  obtain ⟨y5o_0, j6, H⟩ := bnd H
  refine aCnd_join (fun s' => ∃ (T : Nat → AV) (σ1 : Sto) (τ1 : Sto) (y5v0 : AV), s' = ⟨T, σ1⟩ ∧ (T 0 = y5v0 ∧ T 3 = .ptr b1 0 ∧ T 4 = .nilsl) ∧ Tau τ0 [] τ1 ∧ Fx τ1 σ1 [(b1, ⟨30, 5, [.int .i64 a1.kind, .str a1.name, .int .i64 a1.num, .sl false (rws cI a1.sc), .sl false (rws Fm.cells a1.kids)]⟩)] [⟨y5v0, 9, 1, rws cS y5o_0⟩]) (cdb j6 (fun h j6 => ?_) (fun h j6 => ?_)) ?_
  · refine go ?_
    refine apd (g := cS) hF 0 j6 (rdo (c := true) (g := cS) (fun _ => rfl)) fun x20 j6 v7 σ8 hF => ?_
    refine go ?_
    have e := pur j6
    subst e
    exact ⟨_, _, _, v7, rfl, S, hX, hF⟩
  · refine go ?_
    have e := pur j6
    subst e
    exact ⟨_, _, _, p0, rfl, S, hX, hF⟩
  · rintro s' ⟨T9, σ10, τ11, y5v0, rfl, tT, hX, hF⟩
    refine go ?_
    obtain ⟨o16, ho16, H⟩ := bnd H
    refine spec_l1Names_l0_ok a1 y5o_0 0 _ ho16 _ rfl _ τ0 b1 ?_ ?_ _ _ _ y5v0 S hX hF
    · intro e17o_0 he T18 σ19 τ20 e17v0 tT hX hF
      have he := he.symm
      subst he
      refine go ?_
      have e := pur H; subst e
      exact rg [e17v0] ⟨_, rfl, hX, Fx.self _⟩
    · trivial
theorem spec_l15Dec_l0_ok : ∀ (z0t_0 : Int) (z0t_3 : ByteArray) out, spec_l15Dec_l0 z0t_0 z0t_3 = some out → ∀ c, loopAt Tryd.f34 0 = some c → ∀ (Q : AX → AS → Prop) (τ : Sto), (∀ (e0t_0 : Int) (e0t_3 : ByteArray), out = (e0t_0, e0t_3) → ∀ (T : Nat → AV) (σ : Sto), T 0 = .int .i64 e0t_0 ∧ T 2 = .str (ByteArray.mk #[]) ∧ T 3 = .str e0t_3 → Fx τ σ [] [] → Q (.ex 0) ⟨T, σ⟩) → True → ∀ (T : Nat → AV) (σ : Sto), T 0 = .int .i64 z0t_0 ∧ T 2 = .str (ByteArray.mk #[]) ∧ T 3 = .str z0t_3 → Fx τ σ [] [] → aLoop (acode Tryd.prog c) Q ⟨T, σ⟩ := by
  refine spec_l15Dec_l0.partial_correctness  _ ?_
  intro spec_l15Dec_l0 IH z0t_0 z0t_3 out H c hc Q τ  hE hR T σ tT hF
  obtain rfl := Option.some.inj ((rfl : loopAt Tryd.f34 0 = some _).symm.trans hc)
  refine aLoop_round ?_
  have q := dum
  have hX := Tau.none τ
  refine go ?_
  refine cdp H (fun h H => ?_) (fun h H => ?_)
  · obtain ⟨x21, f1, H⟩ := bsc H
    refine go1 ?_
    refine go ?_
    exact IH  (IntKind.i64.wrap (z0t_0.tdiv 10)) x21 _ H _ rfl Q τ  hE hR _ _  S hF
  · refine go ?_
    exact hE _ _ (pur H).symm _ _  S hF
theorem spec_l15Dec_ok : ∀ (a0 : Int) r, spec_l15Dec a0 = some r → PCtr Tryd.prog 34 [.int .i64 a0] (.str r) := by
  refine spec_l15Dec.partial_correctness  (motive := fun a0 r => PCtr Tryd.prog 34 [.int .i64 a0] (.str r)) ?_
  · intro spec_l15Dec C0 a0 r H
    intro σ
    refine ctr_of mixed Tryd.func34 rfl (by kernel_rfl) (rs := [.tmp 2]) rfl (by kernel_rfl) ?_
    have hF := Fx.refl σ
    have hX := Tau.none σ
    have q := dum
    have tT := dum
    refine go ?_
    refine cdp H (fun h H => ?_) (fun h H => ?_)
    · refine go ?_
      have e := pur H; subst e
      exact rt [.str (ByteArray.mk #[45, 57, 50, 50, 51, 51, 55, 50, 48, 51, 54, 56, 53, 52, 55, 55, 53, 56, 48, 56])]
    · refine go ?_
      refine cdp H (fun h H => ?_) (fun h H => ?_)
      · refine go ?_
        obtain ⟨x10, hx10, H⟩ := bnd H
        refine cl (C0 (IntKind.i64.wrap (0 - a0)) _ hx10) ?_
        obtain ⟨x11, f1, H⟩ := bsc H
        refine go1 ?_
        refine go ?_
        have e := pur H; subst e
        exact rt [.str x11]
      · refine go ?_
        obtain ⟨o1, ho1, H⟩ := bnd H
        refine spec_l15Dec_l0_ok  a0 (ByteArray.mk #[]) _ ho1 _ rfl _ _  ?_ ?_ _ _  S hF
        · intro e2t_0 e2t_3 he T3 σ4 tT hF
          have he := he.symm
          subst he
          dsimp only at H
          obtain ⟨x30, f1, H⟩ := bsc H
          refine go1 ?_
          refine go ?_
          have e := pur H; subst e
          exact rt [.str x30]
        · trivial
theorem spec_FreshName_l0_ok : ∀ (a0 : Fm) (x7 : List ByteArray) (z0t_4 : Int) out, spec_FreshName_l0 a0 x7 z0t_4 = some out → ∀ c, loopAt Tryd.f9 0 = some c → ∀ (Q : AX → AS → Prop) (τ : Sto) (b1 : Nat), (∀ (_u : Unit), out = Sum.inr () → ∀ (T : Nat → AV) (σ : Sto), T 2 = .str (ByteArray.mk #[]) → Fx τ σ [(b1, ⟨30, 5, [.int .i64 a0.kind, .str a0.name, .int .i64 a0.num, .sl false (rws cI a0.sc), .sl false (rws Fm.cells a0.kids)]⟩)] [] → Q (.ex 0) ⟨T, σ⟩) → (∀ r, out = Sum.inl r → ∀ s', aRet Tryd.prog [.tmp 2] (fun r' σ' => r' = .str r ∧ σ' = τ) s' → Q .ret s') → ∀ (T : Nat → AV) (σ : Sto), T 2 = .str (ByteArray.mk #[]) ∧ T 3 = .sl false (rws cS x7) ∧ T 4 = .int .i64 z0t_4 → Fx τ σ [(b1, ⟨30, 5, [.int .i64 a0.kind, .str a0.name, .int .i64 a0.num, .sl false (rws cI a0.sc), .sl false (rws Fm.cells a0.kids)]⟩)] [] → aLoop (acode Tryd.prog c) Q ⟨T, σ⟩ := by
  intro a0 x7 z0t_4
  revert z0t_4
  refine spec_FreshName_l0.partial_correctness a0 x7 _ ?_
  intro spec_FreshName_l0 IH z0t_4 out H c hc Q τ b1 hE hR T σ tT hF
  obtain rfl := Option.some.inj ((rfl : loopAt Tryd.f9 0 = some _).symm.trans hc)
  refine aLoop_round ?_
  have q := dum
  have hX := Tau.none τ
  refine go ?_
  refine cdp H (fun h H => ?_) (fun h H => ?_)
  · refine go ?_
    obtain ⟨x14, hx14, H⟩ := bnd H
    refine cl (spec_l15Dec_ok z0t_4 _ hx14) ?_
    obtain ⟨x15, f1, H⟩ := bsc H
    refine go1 ?_
    obtain ⟨x16, hx16, H⟩ := bnd H
    refine cl (spec_l1In_ok x7 x15 _ hx16) ?_
    refine go ?_
    refine cdb H (fun h H => ?_) (fun h H => ?_)
    · refine go ?_
      obtain ⟨x19, hx19, H⟩ := bnd H
      refine cl (spec_l15Dec_ok z0t_4 _ hx19) ?_
      obtain ⟨x20, f1, H⟩ := bsc H
      refine go1 ?_
      refine go ?_
      exact hR _ (pur H).symm _ (rt [.str x20])
    · refine go ?_
      exact IH  (IntKind.i64.wrap (z0t_4 + 1)) _ H _ rfl Q τ b1 hE hR _ _  S hF
  · refine go ?_
    exact hE () (pur H).symm _ _  S hF
theorem spec_FreshName_ok : ∀ (a0 : Fm) r, spec_FreshName a0 = some r → PCtr Tryd.prog 9 [.agg (Fm.cells a0)] (.str r) := by
  intro a0 r H
  intro σ
  unfold spec_FreshName at H
  refine ctr_of mixed Tryd.func9 rfl (by kernel_rfl) (rs := [.tmp 2]) rfl (by kernel_rfl) ?_
  have hF := Fx.refl σ
  have hX := Tau.none σ
  have q := dum
  have tT := dum
  refine go ?_
  refine fx_alloc hF rfl fun b1 σ2 hF => ?_
  have hF := hF.lit 9 1 (rws cS []) rfl
  refine go ?_
  obtain ⟨x7, hx7, H⟩ := bnd H
  refine cx (spec_l1Names_ok [] a0 _ hx7  (.sl true (rws cS [])) _ (pre 0 0 1 hF hX)) ?_
  rintro _ σ3 ⟨τ4, rfl, hT, hG⟩
  have hF := aftP 0 1 hF hX hT hG
  refine go ?_
  obtain ⟨o6, ho6, H⟩ := bnd H
  refine spec_FreshName_l0_ok a0 x7 0 _ ho6 _ rfl _ _ b1 ?_ ?_ _ _  S hF
  · intro _ he T8 σ9 tT hF
    have he := he.symm
    subst he
    dsimp only at H
    refine go ?_
    have e := pur H; subst e
    exact rt [.str (ByteArray.mk #[])]
  · intro r hr s' hs
    subst hr
    have e := pur H; subst e
    first | exact hs | (try simp only [Fm.cells_eq] at hs ⊢; exact hs)
theorem slices_Index_string_string_l0_ok : ∀ (a0 : List ByteArray) (a1 : ByteArray) (z0t_8 : Int) out, slices_Index_string_string_l0 a0 a1 z0t_8 = some out → ∀ c, loopAt Tryd.f73 0 = some c → ∀ (Q : AX → AS → Prop) (τ : Sto), (∀ (_u : Unit), out = Sum.inr () → ∀ (T : Nat → AV) (σ : Sto), T 4 = .int .i64 0 → Fx τ σ [] [] → Q (.ex 0) ⟨T, σ⟩) → (∀ r, out = Sum.inl r → ∀ s', aRet Tryd.prog [.tmp 4] (fun r' σ' => r' = .int .i64 r ∧ σ' = τ) s' → Q .ret s') → ∀ (T : Nat → AV) (σ : Sto), T 0 = .sl false (rws cS a0) ∧ T 1 = .str a1 ∧ T 4 = .int .i64 0 ∧ T 7 = .int .i64 (a0.length : Int) ∧ T 8 = .int .i64 z0t_8 → Fx τ σ [] [] → aLoop (acode Tryd.prog c) Q ⟨T, σ⟩ := by
  intro a0 a1 z0t_8
  revert z0t_8
  refine slices_Index_string_string_l0.partial_correctness a0 a1 _ ?_
  intro slices_Index_string_string_l0 IH z0t_8 out H c hc Q τ  hE hR T σ tT hF
  obtain rfl := Option.some.inj ((rfl : loopAt Tryd.f73 0 = some _).symm.trans hc)
  refine aLoop_round ?_
  have q := dum
  have hX := Tau.none τ
  refine go ?_
  refine cdp H (fun h H => ?_) (fun h H => ?_)
  · obtain ⟨x14, f1, H⟩ := bil (g := cS) (fun _ => rfl) H
    refine go1 ?_
    refine go ?_
    refine cdp H (fun h H => ?_) (fun h H => ?_)
    · refine go ?_
      exact hR _ (pur H).symm _ (rt [.int .i64 z0t_8])
    · refine go ?_
      exact IH  (IntKind.i64.wrap (z0t_8 + 1)) _ H _ rfl Q τ  hE hR _ _  S hF
  · refine go ?_
    exact hE () (pur H).symm _ _  S hF
theorem slices_Index_string_string_ok : ∀ (a0 : List ByteArray) (a1 : ByteArray) r, slices_Index_string_string a0 a1 = some r → PCtr Tryd.prog 73 [.sl false (rws cS a0), .str a1] (.int .i64 r) := by
  intro a0 a1 r H
  intro σ
  unfold slices_Index_string_string at H
  refine ctr_of mixed Tryd.func73 rfl (by kernel_rfl) (rs := [.tmp 4]) rfl (by kernel_rfl) ?_
  have hF := Fx.refl σ
  have hX := Tau.none σ
  have q := dum
  have tT := dum
  refine go ?_
  obtain ⟨o1, ho1, H⟩ := bnd H
  refine slices_Index_string_string_l0_ok a0 a1 0 _ ho1 _ rfl _ _  ?_ ?_ _ _  S hF
  · intro _ he T3 σ4 tT hF
    have he := he.symm
    subst he
    dsimp only at H
    refine go ?_
    have e := pur H; subst e
    exact rt [.int .i64 (-1)]
  · intro r hr s' hs
    subst hr
    have e := pur H; subst e
    first | exact hs | (try simp only [Fm.cells_eq] at hs ⊢; exact hs)
theorem slices_Contains_string_string_ok : ∀ (a0 : List ByteArray) (a1 : ByteArray) r, slices_Contains_string_string a0 a1 = some r → PCtr Tryd.prog 38 [.sl false (rws cS a0), .str a1] (.bool r) := by
  intro a0 a1 r H
  intro σ
  unfold slices_Contains_string_string at H
  refine ctr_of mixed Tryd.func38 rfl (by kernel_rfl) (rs := [.tmp 4]) rfl (by kernel_rfl) ?_
  have hF := Fx.refl σ
  have hX := Tau.none σ
  have q := dum
  have tT := dum
  refine go ?_
  obtain ⟨x7, hx7, H⟩ := bnd H
  refine cl (slices_Index_string_string_ok a0 a1 _ hx7) ?_
  refine go ?_
  have e := pur H; subst e
  exact rt [.bool (decide (x7 ≥ 0))]
theorem impl_NamesOf_c1_ok : ∀ (a0 : Fm) (c0 : List ByteArray) r, impl_NamesOf_c1 a0 c0 = some r → ∀ (e0 : Nat) (o0_0 : AV) (σ : Sto), Pre σ [(e0, ⟨66, 1, [o0_0]⟩)] [⟨o0_0, 9, 1, rws cS c0⟩] → Ctr Tryd.prog 71 [.agg (Fm.cells a0), .ptr e0 0] σ (fun r' σ' => ∃ (τ' : Sto) (u0_0 : AV), r' = .tup [] ∧ Tau (strip σ [⟨o0_0, 9, 1, rws cS c0⟩]) [(e0, ⟨66, 1, [u0_0]⟩)] τ' ∧ Fx τ' σ' [] [⟨u0_0, 9, 1, rws cS r⟩]) := by
  intro a0 c0 r H
  intro e0 o0_0 σ hP
  unfold impl_NamesOf_c1 at H
  refine ctr_of mixed Tryd.func71 rfl (by kernel_rfl) (rs := []) rfl (by kernel_rfl) ?_
  obtain ⟨hF, hX⟩ := hP.start
  generalize strip σ [⟨o0_0, 9, 1, rws cS c0⟩] = τ0 at hF hX ⊢
  have q := dum
  have tT := dum
  refine go ?_
  refine fx_alloc hF rfl fun b1 σ2 hF => ?_
  refine go ?_
  obtain ⟨x12, g3, H⟩ := bnd H
  refine aGd_cutN 5 7 12 (.bool x12) (gi q (fun q => ?_) (fun q => ?_)) (fun J => ?_)
  · rw [if_pos (dt q)] at g3
    refine go ?_
    obtain ⟨x10, hx10, g3⟩ := bnd g3
    refine aCall_flat (slices_Contains_string_string_ok c0 a0.name _ hx10) .bool (.cons ((hF.wk 0 rfl).trans (Wk.sub (Sub.zero _) _)) (fun _ => rfl) (.cons (Wk.sub (Sub.zero _) _) id .nil)) ?_
    refine go ?_
    exact cutd 7 g3
  · rw [if_neg (df q)] at g3
    refine go ?_
    exact cutd 7 g3
  refine go ?_
  refine cdb H (fun h H => ?_) (fun h H => ?_)
  · refine go ?_
    refine apd (g := cS) hF 0 H (rdo (c := true) (g := cS) (fun _ => rfl)) fun x17 H v5 σ6 hF => ?_
    refine go ?_
    refine stT hF hX 0 (hF.cells 0 rfl) fun τ8 σ7 hF hX => ?_
    refine go ?_
    have e := pur H; subst e
    exact rg [] ⟨_, _, rfl, hX, hF.pick [] [0] (by decide) (by decide)⟩
  · refine go ?_
    have e := pur H; subst e
    exact rg [] ⟨_, _, rfl, hX, hF.pick [] [0] (by decide) (by decide)⟩
theorem impl_eachForm__impl_NamesOf_c1_ok : ∀ (a0 : Fm) (c0 : List ByteArray) r, impl_eachForm__impl_NamesOf_c1 a0 c0 = some r → ∀ (e0 : Nat) (o0_0 : AV) (σ : Sto), Pre σ [(e0, ⟨66, 1, [o0_0]⟩)] [⟨o0_0, 9, 1, rws cS c0⟩] → Ctr Tryd.prog 66 [.agg (Fm.cells a0), .fn 71 [.ptr e0 0]] σ (fun r' σ' => ∃ (τ' : Sto) (u0_0 : AV), r' = .tup [] ∧ Tau (strip σ [⟨o0_0, 9, 1, rws cS c0⟩]) [(e0, ⟨66, 1, [u0_0]⟩)] τ' ∧ Fx τ' σ' [] [⟨u0_0, 9, 1, rws cS r⟩]) := by
  refine impl_eachForm__impl_NamesOf_c1.partial_correctness  (motive_1 := fun a0 c0 r => ∀ (e0 : Nat) (o0_0 : AV) (σ : Sto), Pre σ [(e0, ⟨66, 1, [o0_0]⟩)] [⟨o0_0, 9, 1, rws cS c0⟩] → Ctr Tryd.prog 66 [.agg (Fm.cells a0), .fn 71 [.ptr e0 0]] σ (fun r' σ' => ∃ (τ' : Sto) (u0_0 : AV), r' = .tup [] ∧ Tau (strip σ [⟨o0_0, 9, 1, rws cS c0⟩]) [(e0, ⟨66, 1, [u0_0]⟩)] τ' ∧ Fx τ' σ' [] [⟨u0_0, 9, 1, rws cS r⟩])) (motive_2 := fun a0 z0o_0 z0t_12 out => ∀ c, loopAt Tryd.f66 0 = some c → ∀ (Q : AX → AS → Prop) (τ0 : Sto) (e0 : Nat) (b1 : Nat), (∀ (e0o_0 : List ByteArray), out = e0o_0 → ∀ (T : Nat → AV) (σ : Sto) (τ : Sto) (e0v0 : AV), 0 + 0 = 0 → Tau τ0 [(e0, ⟨66, 1, [e0v0]⟩)] τ → Fx τ σ [(b1, ⟨30, 5, [.int .i64 a0.kind, .str a0.name, .int .i64 a0.num, .sl false (rws cI a0.sc), .sl false (rws Fm.cells a0.kids)]⟩)] [⟨e0v0, 9, 1, rws cS e0o_0⟩] → Q (.ex 0) ⟨T, σ⟩) → True → ∀ (T : Nat → AV) (σ : Sto) (τ : Sto) (z0v0 : AV), T 1 = .fn 71 [.ptr e0 0] ∧ T 10 = .sl false (rws Fm.cells a0.kids) ∧ T 11 = .int .i64 (a0.kids.length : Int) ∧ T 12 = .int .i64 z0t_12 → Tau τ0 [(e0, ⟨66, 1, [z0v0]⟩)] τ → Fx τ σ [(b1, ⟨30, 5, [.int .i64 a0.kind, .str a0.name, .int .i64 a0.num, .sl false (rws cI a0.sc), .sl false (rws Fm.cells a0.kids)]⟩)] [⟨z0v0, 9, 1, rws cS z0o_0⟩] → aLoop (acode Tryd.prog c) Q ⟨T, σ⟩) ?_ ?_
  · intro impl_eachForm__impl_NamesOf_c1_l0 L0 a0 c0 r H
    intro e0 o0_0 σ hP
    refine ctr_of mixed Tryd.func66 rfl (by kernel_rfl) (rs := []) rfl (by kernel_rfl) ?_
    obtain ⟨hF, hX⟩ := hP.start
    generalize strip σ [⟨o0_0, 9, 1, rws cS c0⟩] = τ0 at hF hX ⊢
    have q := dum
    have tT := dum
    refine go ?_
    refine fx_alloc hF rfl fun b1 σ2 hF => ?_
    refine go ?_
    obtain ⟨x8, hx8, H⟩ := bnd H
    refine cx (impl_NamesOf_c1_ok a0 c0 _ hx8 e0 o0_0 _ (pre 0 1 1 hF hX)) ?_
    rintro _ σ4 ⟨τ5, v3, rfl, hT, hG⟩
    obtain ⟨τ6, hX, hF⟩ := aft 0 1 1 hF hX hT hG
    refine go ?_
    obtain ⟨o14, ho14, H⟩ := bnd H
    refine L0 a0 x8 0 _ ho14 _ rfl _ τ0 e0 b1 ?_ ?_ _ _ _ v3 S hX hF
    · intro e15o_0 he T16 σ17 τ18 e15v0 tT hX hF
      have he := he.symm
      subst he
      refine go ?_
      have e := pur H; subst e
      exact rg [] ⟨_, _, rfl, hX, hF.pick [] [0] (by decide) (by decide)⟩
    · trivial
  · intro impl_eachForm__impl_NamesOf_c1 impl_eachForm__impl_NamesOf_c1_l0 C0 L0 a0 z0o_0 z0t_12 out H c hc Q τ0 e0 b1 hE hR T σ τ z0v0 tT hX hF
    obtain rfl := Option.some.inj ((rfl : loopAt Tryd.f66 0 = some _).symm.trans hc)
    refine aLoop_round ?_
    have q := dum
    refine go ?_
    refine cdp H (fun h H => ?_) (fun h H => ?_)
    · obtain ⟨x14, f1, H⟩ := bil (g := Fm.cells) Fm.cells_len H
      refine go1 ?_
      refine fx_alloc hF rfl fun b7 σ8 hF => ?_
      refine go ?_
      refine st hF 0 rfl fun σ9 hF => ?_
      refine go ?_
      obtain ⟨x18, hx18, H⟩ := bnd H
      refine cx (C0 x14 z0o_0 _ hx18 e0 z0v0 _ (pre 0 1 1 hF hX)) ?_
      rintro _ σ11 ⟨τ12, v10, rfl, hT, hG⟩
      obtain ⟨τ13, hX, hF⟩ := aft 0 1 1 hF hX hT hG
      refine go ?_
      exact L0 a0 x18 (IntKind.i64.wrap (z0t_12 + 1)) _ H _ rfl Q τ0 e0 b1 hE hR _ _ _ v10 S hX (hF.drop 1 0)
    · refine go ?_
      exact hE _ (pur H).symm _ _ _ z0v0 S hX hF
theorem impl_NamesOf_ok : ∀ (a0 : Fm) r, impl_NamesOf a0 = some r → PCtr Tryd.prog 29 [.agg (Fm.cells a0)] (.sl false (rws cS r)) := by
  intro a0 r H
  intro σ
  unfold impl_NamesOf at H
  refine ctr_of mixed Tryd.func29 rfl (by kernel_rfl) (rs := [.tmp 2]) rfl (by kernel_rfl) ?_
  have hF := Fx.refl σ
  have hX := Tau.none σ
  have q := dum
  have tT := dum
  refine go ?_
  refine fx_alloc hF rfl fun b1 σ2 hF => ?_
  refine go ?_
  refine fx_alloc hF rfl fun b3 σ4 hF => ?_
  refine go ?_
  refine st hF 0 rfl fun σ5 hF => ?_
  have hF := hF.lit 9 1 (rws cS []) rfl
  refine go ?_
  obtain ⟨x7, hx7, H⟩ := bnd H
  refine cx (impl_eachForm__impl_NamesOf_c1_ok a0 [] _ hx7 b3 (.sl true (rws cS [])) _ (pre 1 0 1 hF hX)) ?_
  rintro _ σ7 ⟨τ8, v6, rfl, hT, hG⟩
  have hF := aftP 1 1 hF hX hT hG
  refine go ?_
  have e := pur H; subst e
  exact rt [v6]
theorem strconv_Itoa_ok : ∀ (a0 : Int) r, strconv_Itoa a0 = some r → PCtr Tryd.prog 37 [.int .i64 a0] (.str r) := fun a0 r H =>
  itoa_pctr Tryd.func37 (by kernel_rfl) (by kernel_rfl) (by kernel_rfl) (fun n h0 h1 w ht => Tryd.strconv_Itoa n h0 h1 w ht) H
theorem impl_FreshName_l0_ok : ∀ (a0 : Fm) (x7 : List ByteArray) (z0t_4 : Int) out, impl_FreshName_l0 a0 x7 z0t_4 = some out → ∀ c, loopAt Tryd.f11 0 = some c → ∀ (Q : AX → AS → Prop) (τ : Sto) (b1 : Nat), (∀ (_u : Unit), out = Sum.inr () → ∀ (T : Nat → AV) (σ : Sto), T 2 = .str (ByteArray.mk #[]) → Fx τ σ [(b1, ⟨30, 5, [.int .i64 a0.kind, .str a0.name, .int .i64 a0.num, .sl false (rws cI a0.sc), .sl false (rws Fm.cells a0.kids)]⟩)] [] → Q (.ex 0) ⟨T, σ⟩) → (∀ r, out = Sum.inl r → ∀ s', aRet Tryd.prog [.tmp 2] (fun r' σ' => r' = .str r ∧ σ' = τ) s' → Q .ret s') → ∀ (T : Nat → AV) (σ : Sto), T 2 = .str (ByteArray.mk #[]) ∧ T 3 = .sl false (rws cS x7) ∧ T 4 = .int .i64 z0t_4 → Fx τ σ [(b1, ⟨30, 5, [.int .i64 a0.kind, .str a0.name, .int .i64 a0.num, .sl false (rws cI a0.sc), .sl false (rws Fm.cells a0.kids)]⟩)] [] → aLoop (acode Tryd.prog c) Q ⟨T, σ⟩ := by
  intro a0 x7 z0t_4
  revert z0t_4
  refine impl_FreshName_l0.partial_correctness a0 x7 _ ?_
  intro impl_FreshName_l0 IH z0t_4 out H c hc Q τ b1 hE hR T σ tT hF
  obtain rfl := Option.some.inj ((rfl : loopAt Tryd.f11 0 = some _).symm.trans hc)
  refine aLoop_round ?_
  have q := dum
  have hX := Tau.none τ
  refine go ?_
  refine cdp H (fun h H => ?_) (fun h H => ?_)
  · refine go ?_
    obtain ⟨x13, hx13, H⟩ := bnd H
    refine cl (strconv_Itoa_ok z0t_4 _ hx13) ?_
    obtain ⟨x14, f1, H⟩ := bsc H
    refine go1 ?_
    refine go ?_
    obtain ⟨x17, hx17, H⟩ := bnd H
    refine cl (slices_Contains_string_string_ok x7 x14 _ hx17) ?_
    refine go ?_
    refine cdb H (fun h H => ?_) (fun h H => ?_)
    · refine go ?_
      exact hR _ (pur H).symm _ (rt [.str x14])
    · refine go ?_
      exact IH  (IntKind.i64.wrap (z0t_4 + 1)) _ H _ rfl Q τ b1 hE hR _ _  S hF
  · refine go ?_
    exact hE () (pur H).symm _ _  S hF
theorem impl_FreshName_ok : ∀ (a0 : Fm) r, impl_FreshName a0 = some r → PCtr Tryd.prog 11 [.agg (Fm.cells a0)] (.str r) := by
  intro a0 r H
  intro σ
  unfold impl_FreshName at H
  refine ctr_of mixed Tryd.func11 rfl (by kernel_rfl) (rs := [.tmp 2]) rfl (by kernel_rfl) ?_
  have hF := Fx.refl σ
  have hX := Tau.none σ
  have q := dum
  have tT := dum
  refine go ?_
  refine fx_alloc hF rfl fun b1 σ2 hF => ?_
  refine go ?_
  obtain ⟨x7, hx7, H⟩ := bnd H
  refine cl (impl_NamesOf_ok a0 _ hx7) ?_
  refine go ?_
  obtain ⟨o3, ho3, H⟩ := bnd H
  refine impl_FreshName_l0_ok a0 x7 0 _ ho3 _ rfl _ _ b1 ?_ ?_ _ _  S hF
  · intro _ he T5 σ6 tT hF
    have he := he.symm
    subst he
    dsimp only at H
    refine go ?_
    have e := pur H; subst e
    exact rt [.str (ByteArray.mk #[])]
  · intro r hr s' hs
    subst hr
    have e := pur H; subst e
    first | exact hs | (try simp only [Fm.cells_eq] at hs ⊢; exact hs)
theorem laws_eqIntS_l0_ok : ∀ (a0 : List Int) (a1 : List Int) (z0t_5 : Int) out, laws_eqIntS_l0 a0 a1 z0t_5 = some out → ∀ c, loopAt Tryd.f39 0 = some c → ∀ (Q : AX → AS → Prop) (τ : Sto), (∀ (_u : Unit), out = Sum.inr () → ∀ (T : Nat → AV) (σ : Sto), T 4 = .bool false → Fx τ σ [] [] → Q (.ex 0) ⟨T, σ⟩) → (∀ r, out = Sum.inl r → ∀ s', aRet Tryd.prog [.tmp 4] (fun r' σ' => r' = .bool r ∧ σ' = τ) s' → Q .ret s') → ∀ (T : Nat → AV) (σ : Sto), T 0 = .sl false (rws cI a0) ∧ T 1 = .sl false (rws cI a1) ∧ T 4 = .bool false ∧ T 5 = .int .i64 z0t_5 → Fx τ σ [] [] → aLoop (acode Tryd.prog c) Q ⟨T, σ⟩ := by
  intro a0 a1 z0t_5
  revert z0t_5
  refine laws_eqIntS_l0.partial_correctness a0 a1 _ ?_
  intro laws_eqIntS_l0 IH z0t_5 out H c hc Q τ  hE hR T σ tT hF
  obtain rfl := Option.some.inj ((rfl : loopAt Tryd.f39 0 = some _).symm.trans hc)
  refine aLoop_round ?_
  have q := dum
  have hX := Tau.none τ
  refine go ?_
  refine cdp H (fun h H => ?_) (fun h H => ?_)
  · refine go ?_
    refine draw_text E0 [.v, .v, .v, .v, .v, .v, .v, .v, .v] (by kernel_rfl) ?_
    obtain ⟨x19, f1, H⟩ := bil (g := cI) (fun _ => rfl) H
    obtain ⟨x23, f2, H⟩ := bil (g := cI) (fun _ => rfl) H
    refine go2 ?_
    refine go ?_
    refine cdn H (fun h H => ?_) (fun h H => ?_)
    · refine go ?_
      exact hR _ (pur H).symm _ (rt [.bool false])
    · refine go ?_
      exact IH  (IntKind.i64.wrap (z0t_5 + 1)) _ H _ rfl Q τ  hE hR _ _  S hF
  · refine go ?_
    exact hE () (pur H).symm _ _  S hF
theorem laws_eqIntS_ok : ∀ (a0 : List Int) (a1 : List Int) r, laws_eqIntS a0 a1 = some r → PCtr Tryd.prog 39 [.sl false (rws cI a0), .sl false (rws cI a1)] (.bool r) := by
  intro a0 a1 r H
  intro σ
  unfold laws_eqIntS at H
  refine ctr_of mixed Tryd.func39 rfl (by kernel_rfl) (rs := [.tmp 4]) rfl (by kernel_rfl) ?_
  have hF := Fx.refl σ
  have hX := Tau.none σ
  have q := dum
  have tT := dum
  refine go ?_
  refine cdn H (fun h H => ?_) (fun h H => ?_)
  · refine go ?_
    have e := pur H; subst e
    exact rt [.bool false]
  · refine go ?_
    obtain ⟨o1, ho1, H⟩ := bnd H
    refine laws_eqIntS_l0_ok a0 a1 0 _ ho1 _ rfl _ _  ?_ ?_ _ _  S hF
    · intro _ he T3 σ4 tT hF
      have he := he.symm
      subst he
      dsimp only at H
      refine go ?_
      have e := pur H; subst e
      exact rt [.bool true]
    · intro r hr s' hs
      subst hr
      have e := pur H; subst e
      first | exact hs | (try simp only [Fm.cells_eq] at hs ⊢; exact hs)
theorem laws_eqForm_all : (∀ (a0 : Fm) (a1 : Fm) r, laws_eqForm a0 a1 = some r → PCtr Tryd.prog 12 [.agg (Fm.cells a0), .agg (Fm.cells a1)] (.bool r)) ∧ (∀ (a0 : List Fm) (a1 : List Fm) r, laws_eqFormS a0 a1 = some r → PCtr Tryd.prog 40 [.sl false (rws Fm.cells a0), .sl false (rws Fm.cells a1)] (.bool r)) := by
  have h := laws_eqForm.mutual_partial_correctness (motive_1 := fun a0 a1 r => PCtr Tryd.prog 12 [.agg (Fm.cells a0), .agg (Fm.cells a1)] (.bool r)) (motive_2 := fun a0 a1 r => PCtr Tryd.prog 40 [.sl false (rws Fm.cells a0), .sl false (rws Fm.cells a1)] (.bool r)) (motive_3 := fun a0 a1 z0t_5 out => ∀ c, loopAt Tryd.f40 0 = some c → ∀ (Q : AX → AS → Prop) (τ : Sto), (∀ (_u : Unit), out = Sum.inr () → ∀ (T : Nat → AV) (σ : Sto), T 4 = .bool false → Fx τ σ [] [] → Q (.ex 0) ⟨T, σ⟩) → (∀ r, out = Sum.inl r → ∀ s', aRet Tryd.prog [.tmp 4] (fun r' σ' => r' = .bool r ∧ σ' = τ) s' → Q .ret s') → ∀ (T : Nat → AV) (σ : Sto), T 0 = .sl false (rws Fm.cells a0) ∧ T 1 = .sl false (rws Fm.cells a1) ∧ T 4 = .bool false ∧ T 5 = .int .i64 z0t_5 → Fx τ σ [] [] → aLoop (acode Tryd.prog c) Q ⟨T, σ⟩) ?s0 ?s1 ?s2
  · exact ⟨h.1, h.2.1⟩
  · intro laws_eqFormS C1 a0 a1 r H
    intro σ
    refine ctr_of mixed Tryd.func12 rfl (by kernel_rfl) (rs := [.tmp 4]) rfl (by kernel_rfl) ?_
    have hF := Fx.refl σ
    have hX := Tau.none σ
    have q := dum
    have tT := dum
    refine go ?_
    refine fx_alloc hF rfl fun b1 σ2 hF => ?_
    refine go ?_
    refine fx_alloc hF rfl fun b3 σ4 hF => ?_
    refine go ?_
    refine cdn H (fun h H => ?_) (fun h H => ?_)
    · refine go ?_
      have e := pur H; subst e
      exact rt [.bool false]
    · refine go ?_
      refine cdn H (fun h H => ?_) (fun h H => ?_)
      · refine go ?_
        have e := pur H; subst e
        exact rt [.bool false]
      · refine go ?_
        refine cdn H (fun h H => ?_) (fun h H => ?_)
        · refine go ?_
          have e := pur H; subst e
          exact rt [.bool false]
        · refine go ?_
          obtain ⟨x24, hx24, H⟩ := bnd H
          refine cl (laws_eqIntS_ok a0.sc a1.sc _ hx24) ?_
          refine go ?_
          refine cdb H (fun h H => ?_) (fun h H => ?_)
          · refine go ?_
            have e := pur H; subst e
            exact rt [.bool false]
          · refine go ?_
            obtain ⟨x30, hx30, H⟩ := bnd H
            refine cl (C1 a0.kids a1.kids _ hx30) ?_
            refine go ?_
            refine cdb H (fun h H => ?_) (fun h H => ?_)
            · refine go ?_
              have e := pur H; subst e
              exact rt [.bool false]
            · refine go ?_
              have e := pur H; subst e
              exact rt [.bool true]
  · intro laws_eqFormS_l0 L0 a0 a1 r H
    intro σ
    refine ctr_of mixed Tryd.func40 rfl (by kernel_rfl) (rs := [.tmp 4]) rfl (by kernel_rfl) ?_
    have hF := Fx.refl σ
    have hX := Tau.none σ
    have q := dum
    have tT := dum
    refine go ?_
    refine cdn H (fun h H => ?_) (fun h H => ?_)
    · refine go ?_
      have e := pur H; subst e
      exact rt [.bool false]
    · refine go ?_
      obtain ⟨o1, ho1, H⟩ := bnd H
      refine L0 a0 a1 0 _ ho1 _ rfl _ _  ?_ ?_ _ _  S hF
      · intro _ he T3 σ4 tT hF
        have he := he.symm
        subst he
        dsimp only at H
        refine go ?_
        have e := pur H; subst e
        exact rt [.bool true]
      · intro r hr s' hs
        subst hr
        have e := pur H; subst e
        first | exact hs | (try simp only [Fm.cells_eq] at hs ⊢; exact hs)
  · intro laws_eqForm laws_eqFormS_l0 C0 L0 a0 a1 z0t_5 out H c hc Q τ  hE hR T σ tT hF
    obtain rfl := Option.some.inj ((rfl : loopAt Tryd.f40 0 = some _).symm.trans hc)
    refine aLoop_round ?_
    have q := dum
    have hX := Tau.none τ
    refine go ?_
    refine cdp H (fun h H => ?_) (fun h H => ?_)
    · refine go ?_
      refine draw_text E0 [.v, .v, .v, .v, .v, .v, .v, .v, .v, .v] (by kernel_rfl) ?_
      obtain ⟨x19, f1, H⟩ := bil (g := Fm.cells) Fm.cells_len H
      obtain ⟨x23, f2, H⟩ := bil (g := Fm.cells) Fm.cells_len H
      refine go2 ?_
      obtain ⟨x25, hx25, H⟩ := bnd H
      refine cv (C0 x19 x23 _ hx25) ?_
      refine go ?_
      refine cdb H (fun h H => ?_) (fun h H => ?_)
      · refine go ?_
        exact hR _ (pur H).symm _ (rt [.bool false])
      · refine go ?_
        exact L0 a0 a1 (IntKind.i64.wrap (z0t_5 + 1)) _ H _ rfl Q τ  hE hR _ _  S hF
    · refine go ?_
      exact hE () (pur H).symm _ _  S hF
theorem laws_eqForm_ok : ∀ (a0 : Fm) (a1 : Fm) r, laws_eqForm a0 a1 = some r → PCtr Tryd.prog 12 [.agg (Fm.cells a0), .agg (Fm.cells a1)] (.bool r) := laws_eqForm_all.1
theorem laws_eqFormS_ok : ∀ (a0 : List Fm) (a1 : List Fm) r, laws_eqFormS a0 a1 = some r → PCtr Tryd.prog 40 [.sl false (rws Fm.cells a0), .sl false (rws Fm.cells a1)] (.bool r) := laws_eqForm_all.2
theorem laws_FnExactFreshName_ok : ∀ (a0 : Fm) r, laws_FnExactFreshName a0 = some r → PCtr Tryd.prog 3 [.agg (Fm.cells a0)] (.bool r) := by
  intro a0 r H
  intro σ
  unfold laws_FnExactFreshName at H
  refine ctr_of mixed Tryd.func3 rfl (by kernel_rfl) (rs := [.tmp 2]) rfl (by kernel_rfl) ?_
  have hF := Fx.refl σ
  have hX := Tau.none σ
  have q := dum
  have tT := dum
  refine go ?_
  refine fx_alloc hF rfl fun b1 σ2 hF => ?_
  refine go ?_
  obtain ⟨x9, hx9, H⟩ := bnd H
  refine cl (laws_szForm_ok a0 1048576 _ hx9) ?_
  refine go ?_
  refine cdp H (fun h H => ?_) (fun h H => ?_)
  · refine go ?_
    have e := pur H; subst e
    exact rt [.bool true]
  · refine go ?_
    obtain ⟨x13, hx13, H⟩ := bnd H
    refine cl (laws_toForm_ok a0 _ hx13) ?_
    refine go ?_
    obtain ⟨x14, hx14, H⟩ := bnd H
    refine cl (spec_FreshName_ok x13 _ hx14) ?_
    refine go ?_
    obtain ⟨x16, hx16, H⟩ := bnd H
    refine cl (laws_toForm_ok a0 _ hx16) ?_
    refine go ?_
    refine fx_alloc hF rfl fun b3 σ4 hF => ?_
    refine go ?_
    refine st hF 0 rfl fun σ5 hF => ?_
    refine go ?_
    obtain ⟨x18, hx18, H⟩ := bnd H
    refine cl (impl_FreshName_ok x16 _ hx18) ?_
    refine go ?_
    refine cdn H (fun h H => ?_) (fun h H => ?_)
    · refine go ?_
      have e := pur H; subst e
      exact rt [.bool false]
    · refine go ?_
      refine draw_text E0 [.v, .v, .v, .v, .v] (by kernel_rfl) ?_
      refine go ?_
      obtain ⟨x24, hx24, H⟩ := bnd H
      refine cv (laws_toForm_ok a0 _ hx24) ?_
      refine go ?_
      obtain ⟨x25, hx25, H⟩ := bnd H
      refine cv (laws_eqForm_ok x16 x24 _ hx25) ?_
      refine go ?_
      refine cdb H (fun h H => ?_) (fun h H => ?_)
      · refine go ?_
        have e := pur H; subst e
        exact rt [.bool false]
      · refine go ?_
        have e := pur H; subst e
        exact rt [.bool true]
end Go.Proofs.SA
