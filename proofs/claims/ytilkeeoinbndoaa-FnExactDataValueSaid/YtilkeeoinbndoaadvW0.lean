/- Printed by a program of mine: the plain functions that the code computes (D), and the walks that show it (W). -/
import Derived.Test.YtilkeeoinbndoaaLg
import Derived.Test.YtilkeeoinbndoaaSaTy
import Derived.Test.YtilkeeoinbndoaaChecked
import Derived.Lib.Strings
import Derived.Lib.Slices
import Derived.Lib.Walk
import Derived.Lib.Bytealg
import Derived.Test.YtilkeeoinbndoaadvD
set_option maxRecDepth 100000
set_option maxHeartbeats 2000000
set_option linter.unusedSimpArgs false
set_option linter.unusedVariables false
open Go Go.Proofs Go.Proofs.Shadow
namespace Go.Proofs.SA
theorem laws_szIntS_ok : ∀ (a0 : List Int) (a1 : Int) r, laws_szIntS a0 a1 = some r → PCtr Try.prog 13 [.sl false (rws cI a0), .int .i64 a1] (.int .i64 r) := by
  intro a0 a1 r H
  intro σ
  unfold laws_szIntS at H
  refine hdg mixed Try.func13 (rs := [.tmp 4]) fun q tT => ?_
  have hF := Fx.refl σ
  have hX := Tau.none σ
  refine go ?_
  refine cdp H (fun h H => ?_) (fun h H => ?_)
  · refine go ?_
    have e := pur H; subst e
    exact rt [.int .i64 (-1)]
  · refine go ?_
    have e := pur H; subst e
    exact rt [.int .i64 (IntKind.i64.wrap (a1 - (a0.length : Int)))]
theorem laws_szForm_all : (∀ (a0 : Fm) (a1 : Int) r, laws_szForm a0 a1 = some r → PCtr Try.prog 4 [.agg (Fm.cells a0), .int .i64 a1] (.int .i64 r)) ∧ (∀ (a0 : List Fm) (a1 : Int) r, laws_szFormS a0 a1 = some r → PCtr Try.prog 14 [.sl false (rws Fm.cells a0), .int .i64 a1] (.int .i64 r)) := by
  have h := laws_szForm.mutual_partial_correctness  (motive_1 := fun a0 a1 r => PCtr Try.prog 4 [.agg (Fm.cells a0), .int .i64 a1] (.int .i64 r)) (motive_2 := fun a0 a1 r => PCtr Try.prog 14 [.sl false (rws Fm.cells a0), .int .i64 a1] (.int .i64 r)) (motive_3 := fun a0 z0t_1 z0t_5 out => ∀ c, loopAt Try.f14 0 = some c → ∀ (Q : AX → AS → Prop) (τ : Sto), (∀ (e0t_1 : Int), out = Sum.inr e0t_1 → ∀ (T : Nat → AV) (σ : Sto), T 1 = .int .i64 e0t_1 → Fx τ σ [] [] → Q (.ex 0) ⟨T, σ⟩) → (∀ r, out = Sum.inl r → ∀ s', aRet Try.prog [.tmp 4] (fun r' σ' => r' = .int .i64 r ∧ σ' = τ) s' → Q .ret s') → ∀ (T : Nat → AV) (σ : Sto), T 0 = .sl false (rws Fm.cells a0) ∧ T 1 = .int .i64 z0t_1 ∧ T 5 = .int .i64 z0t_5 → Fx τ σ [] [] → aLp Try.prog c Q ⟨T, σ⟩) ?s0 ?s1 ?s2
  · exact ⟨h.1, h.2.1⟩
  · intro laws_szFormS C1 a0 a1 r H
    intro σ
    refine hdg mixed Try.func4 (rs := [.tmp 4]) fun q tT => ?_
    have hF := Fx.refl σ
    have hX := Tau.none σ
    refine go ?_
    refine fx_alloc hF rfl fun b1 σ2 hF => ?_
    refine go ?_
    refine cdp H (fun h H => ?_) (fun h H => ?_)
    · refine go ?_
      have e := pur H; subst e
      exact rt [.int .i64 (-1)]
    · refine go ?_
      obtain ⟨x15, hx15, H⟩ := bnd H
      refine cl (laws_szIntS_ok a0.sc (IntKind.i64.wrap (a1 - (a0.name.size : Int))) _ hx15) ?_
      refine go ?_
      refine cdp H (fun h H => ?_) (fun h H => ?_)
      · refine go ?_
        have e := pur H; subst e
        exact rt [.int .i64 (-1)]
      · refine go ?_
        obtain ⟨x21, hx21, H⟩ := bnd H
        refine cl (C1 a0.kids x15 _ hx21) ?_
        refine go ?_
        refine cdp H (fun h H => ?_) (fun h H => ?_)
        · refine go ?_
          have e := pur H; subst e
          exact rt [.int .i64 (-1)]
        · refine go ?_
          have e := pur H; subst e
          exact rt [.int .i64 x21]
  · intro laws_szFormS_l0 L0 a0 a1 r H
    intro σ
    refine hdg mixed Try.func14 (rs := [.tmp 4]) fun q tT => ?_
    have hF := Fx.refl σ
    have hX := Tau.none σ
    refine go ?_
    refine cdp H (fun h H => ?_) (fun h H => ?_)
    · refine go ?_
      have e := pur H; subst e
      exact rt [.int .i64 (-1)]
    · refine go ?_
      obtain ⟨o1, ho1, H⟩ := bnd H
      refine L0 a0 (IntKind.i64.wrap (a1 - (a0.length : Int))) 0 _ ho1 _ rfl _ _  ?_ ?_ _ _  S hF
      · intro e2t_1 he T3 σ4 tT hF
        have he := he.symm
        subst he
        try dsimp only at H
        refine go ?_
        have e := pur H; subst e
        exact rt [.int .i64 e2t_1]
      · intro r hr s' hs
        subst hr
        have e := pur H; subst e
        exact hsq hs
  · intro laws_szForm laws_szFormS_l0 C0 L0 a0 z0t_1 z0t_5 out H c hc Q τ  hE hR T σ tT hF
    obtain rfl := Option.some.inj ((rfl : loopAt Try.f14 0 = some _).symm.trans hc)
    refine aLoop_round ?_
    have q := dum
    have hX := Tau.none τ
    refine go ?_
    refine cdp H (fun h H => ?_) (fun h H => ?_)
    · obtain ⟨x20, f1, H⟩ := bil (g := Fm.cells) Fm.cells_len H
      refine go1 ?_
      obtain ⟨x23, hx23, H⟩ := bnd H
      refine cl (C0 x20 z0t_1 _ hx23) ?_
      refine go ?_
      refine cdp H (fun h H => ?_) (fun h H => ?_)
      · refine go ?_
        exact wq (hR _ (pur H).symm _ (rt [.int .i64 (-1)]))
      · refine go ?_
        exact L0 a0 x23 (IntKind.i64.wrap (z0t_5 + 1)) _ H _ rfl Q τ  hE hR _ _  S hF
    · refine go ?_
      exact wq (hE _ (pur H).symm _ _  S hF)
theorem laws_szForm_ok : ∀ (a0 : Fm) (a1 : Int) r, laws_szForm a0 a1 = some r → PCtr Try.prog 4 [.agg (Fm.cells a0), .int .i64 a1] (.int .i64 r) := laws_szForm_all.1
theorem laws_toIntS_l0_ok : ∀ (a0 : List Int) (z0o_0 : List Int) (z0t_4 : Int) out, laws_toIntS_l0 a0 z0o_0 z0t_4 = some out → ∀ c, loopAt Try.f17 0 = some c → ∀ (Q : AX → AS → Prop) (τ : Sto) (b1 : Nat), (∀ (e0o_0 : List Int), out = e0o_0 → ∀ (T : Nat → AV) (σ : Sto), T 3 = .ref b1 a0.length a0.length → Fx τ σ [] [⟨.ref b1 a0.length a0.length, 3, 1, rws cI e0o_0⟩] → Q (.ex 0) ⟨T, σ⟩) → True → ∀ (T : Nat → AV) (σ : Sto), T 0 = .sl false (rws cI a0) ∧ T 3 = .ref b1 a0.length a0.length ∧ T 4 = .int .i64 z0t_4 → Fx τ σ [] [⟨.ref b1 a0.length a0.length, 3, 1, rws cI z0o_0⟩] → aLp Try.prog c Q ⟨T, σ⟩ := by
  intro a0 z0o_0 z0t_4
  revert z0o_0 z0t_4
  refine laws_toIntS_l0.partial_correctness a0 _ ?_
  intro laws_toIntS_l0 IH z0o_0 z0t_4 out H c hc Q τ b1 hE hR T σ tT hF
  obtain rfl := Option.some.inj ((rfl : loopAt Try.f17 0 = some _).symm.trans hc)
  refine aLoop_round ?_
  have q := dum
  have hX := Tau.none τ
  refine go ?_
  refine cdp H (fun h H => ?_) (fun h H => ?_)
  · obtain ⟨x18, f1, H⟩ := bil (g := cI) (fun _ => rfl) H
    obtain ⟨x20, hx20, H⟩ := bnd H
    try simp only [go_sem, ↓reduceIte, Nat.reduceEqDiff, Nat.reduceAdd, Nat.reduceMul, Nat.reduceLeDiff, Nat.reduceLT, Int.reduceEq, Int.toNat_natCast, q, tT, hF.f, hF.m, hF.x hX, f1, aidx_own (l := z0o_0) ((own_at hF 0 rfl).1.trans (rws_len _)) hx20]
    refine fx_oset hF 0 (o := 0) (sz := 1) (k := 1) (v := (.int .i64 x18)) (cs := [.int .i64 x18]) (g := cI) (i := z0t_4) x18 (fun _ => rfl) (by first | rfl | simp) rfl hx20 rfl rfl (by decide) (by first | rfl | simp [splice_eq, cI, cU, cS, cL, cB]) fun σ3 hF => ?_
    have hF : Fx τ σ3 [] [⟨.ref b1 a0.length a0.length, 3, 1, rws cI (z0o_0.set z0t_4.toNat x18)⟩] := hF
    refine go ?_
    exact IH  (z0o_0.set z0t_4.toNat x18) (IntKind.i64.wrap (z0t_4 + 1)) _ H _ rfl Q τ b1 hE hR _ _  S hF
  · refine go ?_
    exact wq (hE _ (pur H).symm _ _  S hF)
theorem laws_toIntS_ok : ∀ (a0 : List Int) r, laws_toIntS a0 = some r → PCtr Try.prog 17 [.sl false (rws cI a0)] (.sl false (rws cI r)) := by
  intro a0 r H
  intro σ
  unfold laws_toIntS at H
  refine hdg mixed Try.func17 (rs := [.tmp 2]) fun q tT => ?_
  have hF := Fx.refl σ
  have hX := Tau.none σ
  refine go ?_
  obtain ⟨x7, hx7, H⟩ := bnd H
  refine fx_make (g := cI) 0 hF rfl (fun _ => rfl) (by (try simp only [cI, cU, cS, cL, cB]); exact (.cons (.refl _) id .nil)) hx7 fun b1 σ2 hF => ?_
  simp only [Int.toNat_natCast] at hF
  refine go ?_
  obtain ⟨o4, ho4, H⟩ := bnd H
  refine laws_toIntS_l0_ok a0 x7 0 _ ho4 _ rfl _ _ b1 ?_ ?_ _ _  S hF
  · intro e5o_0 he T6 σ7 tT hF
    have he := he.symm
    subst he
    refine go ?_
    have e := pur H; subst e
    exact rt [.ref b1 a0.length a0.length]
  · trivial
theorem laws_toForm_all : (∀ (a0 : Fm) r, laws_toForm a0 = some r → PCtr Try.prog 6 [.agg (Fm.cells a0)] (.agg (Fm.cells r))) ∧ (∀ (a0 : List Fm) r, laws_toFormS a0 = some r → PCtr Try.prog 18 [.sl false (rws Fm.cells a0)] (.sl false (rws Fm.cells r))) := by
  have h := laws_toForm.mutual_partial_correctness  (motive_1 := fun a0 r => PCtr Try.prog 6 [.agg (Fm.cells a0)] (.agg (Fm.cells r))) (motive_2 := fun a0 r => PCtr Try.prog 18 [.sl false (rws Fm.cells a0)] (.sl false (rws Fm.cells r))) (motive_3 := fun a0 z0o_0 z0t_4 out => ∀ c, loopAt Try.f18 0 = some c → ∀ (Q : AX → AS → Prop) (τ : Sto) (b1 : Nat), (∀ (e0o_0 : List Fm), out = e0o_0 → ∀ (T : Nat → AV) (σ : Sto), T 3 = .ref b1 a0.length a0.length → Fx τ σ [] [⟨.ref b1 a0.length a0.length, 30, 5, rws Fm.cells e0o_0⟩] → Q (.ex 0) ⟨T, σ⟩) → True → ∀ (T : Nat → AV) (σ : Sto), T 0 = .sl false (rws Fm.cells a0) ∧ T 3 = .ref b1 a0.length a0.length ∧ T 4 = .int .i64 z0t_4 → Fx τ σ [] [⟨.ref b1 a0.length a0.length, 30, 5, rws Fm.cells z0o_0⟩] → aLp Try.prog c Q ⟨T, σ⟩) ?s0 ?s1 ?s2
  · exact ⟨h.1, h.2.1⟩
  · intro laws_toFormS C1 a0 r H
    intro σ
    refine hdg mixed Try.func6 (rs := [.cell 2 30]) fun q tT => ?_
    have hF := Fx.refl σ
    have hX := Tau.none σ
    refine go ?_
    refine fx_alloc hF rfl fun b1 σ2 hF => ?_
    refine go ?_
    refine fx_alloc hF rfl fun b3 σ4 hF => ?_
    refine go ?_
    refine fx_alloc hF rfl fun b5 σ6 hF => ?_
    refine go ?_
    refine st hF 0 rfl fun σ7 hF => ?_
    refine go ?_
    refine st hF 0 rfl fun σ8 hF => ?_
    refine go ?_
    refine st hF 0 rfl fun σ9 hF => ?_
    refine go ?_
    obtain ⟨x15, hx15, H⟩ := bnd H
    refine cl (laws_toIntS_ok a0.sc _ hx15) ?_
    refine go ?_
    refine st hF 0 rfl fun σ10 hF => ?_
    refine go ?_
    obtain ⟨x19, hx19, H⟩ := bnd H
    refine cl (C1 a0.kids _ hx19) ?_
    refine go ?_
    refine st hF 0 rfl fun σ11 hF => ?_
    refine go ?_
    refine st hF 1 rfl fun σ12 hF => ?_
    refine go ?_
    have e := pur H; subst e
    exact rt [.agg [.int .i64 a0.kind, .str a0.name, .int .i64 a0.num, .sl false (rws cI x15), .sl false (rws Fm.cells x19)]]
  · intro laws_toFormS_l0 L0 a0 r H
    intro σ
    refine hdg mixed Try.func18 (rs := [.tmp 2]) fun q tT => ?_
    have hF := Fx.refl σ
    have hX := Tau.none σ
    refine go ?_
    obtain ⟨x7, hx7, H⟩ := bnd H
    refine fx_make (g := Fm.cells) (Fm.mk 0 (ByteArray.mk #[]) 0 [] []) hF rfl Fm.cells_len (by (try simp only [cI, cU, cS, cL, cB, Fm.cells_eq]); exact (.cons (.refl _) id (.cons (.refl _) id (.cons (.refl _) id (.cons .nilsl (fun _ => rfl) (.cons .nilsl (fun _ => rfl) .nil)))))) hx7 fun b1 σ2 hF => ?_
    simp only [Int.toNat_natCast] at hF
    refine go ?_
    obtain ⟨o4, ho4, H⟩ := bnd H
    refine L0 a0 x7 0 _ ho4 _ rfl _ _ b1 ?_ ?_ _ _  S hF
    · intro e5o_0 he T6 σ7 tT hF
      have he := he.symm
      subst he
      refine go ?_
      have e := pur H; subst e
      exact rt [.ref b1 a0.length a0.length]
    · trivial
  · intro laws_toForm laws_toFormS_l0 C0 L0 a0 z0o_0 z0t_4 out H c hc Q τ b1 hE hR T σ tT hF
    obtain rfl := Option.some.inj ((rfl : loopAt Try.f18 0 = some _).symm.trans hc)
    refine aLoop_round ?_
    have q := dum
    have hX := Tau.none τ
    refine go ?_
    refine cdp H (fun h H => ?_) (fun h H => ?_)
    · obtain ⟨x18, f1, H⟩ := bil (g := Fm.cells) Fm.cells_len H
      refine go1 ?_
      obtain ⟨x20, hx20, H⟩ := bnd H
      refine cl (C0 x18 _ hx20) ?_
      obtain ⟨x21, hx21, H⟩ := bnd H
      try simp only [go_sem, ↓reduceIte, Nat.reduceEqDiff, Nat.reduceAdd, Nat.reduceMul, Nat.reduceLeDiff, Nat.reduceLT, Int.reduceEq, Int.toNat_natCast, q, tT, hF.f, hF.m, hF.x hX, aidx_own (l := z0o_0) ((own_at hF 0 rfl).1.trans (rws_len _)) hx21]
      refine fx_oset hF 0 (o := 0) (sz := 5) (k := 5) (v := (.agg [.int .i64 x20.kind, .str x20.name, .int .i64 x20.num, .sl false (rws cI x20.sc), .sl false (rws Fm.cells x20.kids)])) (cs := [.int .i64 x20.kind, .str x20.name, .int .i64 x20.num, .sl false (rws cI x20.sc), .sl false (rws Fm.cells x20.kids)]) (g := Fm.cells) (i := z0t_4) x20 Fm.cells_len (by first | rfl | simp) rfl hx21 rfl rfl (by decide) (by first | rfl | simp [splice_eq, cI, cU, cS, cL, cB, Fm.cells_eq]) fun σ3 hF => ?_
      have hF : Fx τ σ3 [] [⟨.ref b1 a0.length a0.length, 30, 5, rws Fm.cells (z0o_0.set z0t_4.toNat x20)⟩] := hF
      refine go ?_
      exact L0 a0 (z0o_0.set z0t_4.toNat x20) (IntKind.i64.wrap (z0t_4 + 1)) _ H _ rfl Q τ b1 hE hR _ _  S hF
    · refine go ?_
      exact wq (hE _ (pur H).symm _ _  S hF)
theorem laws_toForm_ok : ∀ (a0 : Fm) r, laws_toForm a0 = some r → PCtr Try.prog 6 [.agg (Fm.cells a0)] (.agg (Fm.cells r)) := laws_toForm_all.1
theorem spec_l1Letter_ok : ∀ (a0 : Int) (a1 : Bool) r, spec_l1Letter a0 a1 = some r → PCtr Try.prog 50 [.int .u8 a0, .bool a1] (.bool r) := by
  intro a0 a1 r H
  intro σ
  unfold spec_l1Letter at H
  refine hdg mixed Try.func50 (rs := [.tmp 4]) fun q tT => ?_
  have hF := Fx.refl σ
  have hX := Tau.none σ
  refine go ?_
  obtain ⟨x10, g1, H⟩ := bnd H
  refine aGd_cutN 2 8 10 (.bool x10) (gi q (fun q => ?_) (fun q => ?_)) (fun J => ?_)
  · refine go ?_
    exact cutd 8 g1
  · refine go ?_
    exact cutd 8 g1
  refine go ?_
  obtain ⟨x14, g3, H⟩ := bnd H
  refine aGd_cutN 2 12 14 (.bool x14) (giN q (fun q => ?_) (fun q => ?_)) (fun J => ?_)
  · refine go ?_
    exact cutd 12 g3
  · refine go ?_
    exact cutd 12 g3
  refine go ?_
  obtain ⟨x18, g5, H⟩ := bnd H
  refine aGd_cutN 2 16 18 (.bool x18) (giN q (fun q => ?_) (fun q => ?_)) (fun J => ?_)
  · refine go ?_
    exact cutd 16 g5
  · refine go ?_
    exact cutd 16 g5
  refine go ?_
  obtain ⟨x22, g7, H⟩ := bnd H
  refine aGd_cutN 2 20 22 (.bool x22) (giN q (fun q => ?_) (fun q => ?_)) (fun J => ?_)
  · refine go ?_
    exact cutd 20 g7
  · refine go ?_
    exact cutd 20 g7
  refine go ?_
  obtain ⟨x26, g9, H⟩ := bnd H
  refine aGd_cutN 2 24 26 (.bool x26) (giN q (fun q => ?_) (fun q => ?_)) (fun J => ?_)
  · refine go ?_
    exact cutd 24 g9
  · refine go ?_
    exact cutd 24 g9
  refine go ?_
  obtain ⟨x30, g11, H⟩ := bnd H
  refine aGd_cutN 2 28 30 (.bool x30) (giN q (fun q => ?_) (fun q => ?_)) (fun J => ?_)
  · refine go ?_
    exact cutd 28 g11
  · refine go ?_
    exact cutd 28 g11
  refine go ?_
  refine cdb H (fun h H => ?_) (fun h H => ?_)
  · refine go ?_
    have e := pur H; subst e
    exact rt [.bool true]
  · refine go ?_
    obtain ⟨x44, g13, H⟩ := bnd H
    refine aGd_cutN 10 34 44 (.bool x44) (gi q (fun q => ?_) (fun q => ?_)) (fun J => ?_)
    · rw [if_pos (dbt q)] at g13
      refine go ?_
      obtain ⟨x39, g15, g13⟩ := bnd g13
      refine aGd_cutN 2 37 39 (.bool x39) (gi q (fun q => ?_) (fun q => ?_)) (fun J => ?_)
      · refine go ?_
        exact cutd 37 g15
      · refine go ?_
        exact cutd 37 g15
      refine go ?_
      obtain ⟨x43, g17, g13⟩ := bnd g13
      refine aGd_cutN 2 41 43 (.bool x43) (giN q (fun q => ?_) (fun q => ?_)) (fun J => ?_)
      · refine go ?_
        exact cutd 41 g17
      · refine go ?_
        exact cutd 41 g17
      refine go ?_
      exact cutd 34 g13
    · rw [if_neg (dbf q)] at g13
      refine go ?_
      exact cutd 34 g13
    refine go ?_
    have e := pur H; subst e
    exact rt [.bool x44]
theorem spec_NameValid_l0_ok : ∀ (a0 : ByteArray) (z0t_3 : Int) out, spec_NameValid_l0 a0 z0t_3 = some out → ∀ c, loopAt Try.f45 0 = some c → ∀ (Q : AX → AS → Prop) (τ : Sto), (∀ (_u : Unit), out = Sum.inr () → ∀ (T : Nat → AV) (σ : Sto), T 0 = .str a0 → Fx τ σ [] [] → Q (.ex 0) ⟨T, σ⟩) → (∀ r, out = Sum.inl r → ∀ s', aRet Try.prog [.tmp 2] (fun r' σ' => r' = .bool r ∧ σ' = τ) s' → Q .ret s') → ∀ (T : Nat → AV) (σ : Sto), T 0 = .str a0 ∧ T 3 = .int .i64 z0t_3 → Fx τ σ [] [] → aLp Try.prog c Q ⟨T, σ⟩ := by
  intro a0 z0t_3
  revert z0t_3
  refine spec_NameValid_l0.partial_correctness a0 _ ?_
  intro spec_NameValid_l0 IH z0t_3 out H c hc Q τ  hE hR T σ tT hF
  obtain rfl := Option.some.inj ((rfl : loopAt Try.f45 0 = some _).symm.trans hc)
  refine aLoop_round ?_
  have q := dum
  have hX := Tau.none τ
  refine go ?_
  obtain ⟨x17, g3, H⟩ := bnd H
  refine aGd_cutN 2 15 17 (.bool x17) (gi q (fun q => ?_) (fun q => ?_)) (fun J => ?_)
  · refine go ?_
    exact cutd 15 g3
  · refine go ?_
    exact cutd 15 g3
  refine go ?_
  refine cdb H (fun h H => ?_) (fun h H => ?_)
  · obtain ⟨x22, f1, H⟩ := bsx H
    refine go1 ?_
    obtain ⟨x25, hx25, H⟩ := bnd H
    refine cl (spec_l1Letter_ok x22 (decide (z0t_3 = 0)) _ hx25) ?_
    refine go ?_
    refine cdb H (fun h H => ?_) (fun h H => ?_)
    · refine go ?_
      exact wq (hR _ (pur H).symm _ (rt [.bool false]))
    · refine go ?_
      exact IH  (IntKind.i64.wrap (z0t_3 + 1)) _ H _ rfl Q τ  hE hR _ _  S hF
  · refine go ?_
    exact wq (hE () (pur H).symm _ _  S hF)
theorem spec_NameValid_ok : ∀ (a0 : ByteArray) r, spec_NameValid a0 = some r → PCtr Try.prog 45 [.str a0] (.bool r) := by
  intro a0 r H
  intro σ
  unfold spec_NameValid at H
  refine hdg mixed Try.func45 (rs := [.tmp 2]) fun q tT => ?_
  have hF := Fx.refl σ
  have hX := Tau.none σ
  refine go ?_
  obtain ⟨x9, g1, H⟩ := bnd H
  refine aGd_cutN 2 7 9 (.bool x9) (giN q (fun q => ?_) (fun q => ?_)) (fun J => ?_)
  · refine go ?_
    exact cutd 7 g1
  · refine go ?_
    exact cutd 7 g1
  refine go ?_
  refine cdb H (fun h H => ?_) (fun h H => ?_)
  · refine go ?_
    have e := pur H; subst e
    exact rt [.bool true]
  · refine go ?_
    obtain ⟨o5, ho5, H⟩ := bnd H
    refine spec_NameValid_l0_ok a0 0 _ ho5 _ rfl _ _  ?_ ?_ _ _  S hF
    · intro _ he T7 σ8 tT hF
      have he := he.symm
      subst he
      try dsimp only at H
      refine go ?_
      obtain ⟨x34, g10, H⟩ := bnd H
      refine aGd_cutN 3 31 34 (.bool x34) (gi q (fun q => ?_) (fun q => ?_)) (fun J => ?_)
      · refine go ?_
        exact cutd 31 g10
      · refine go ?_
        exact cutd 31 g10
      refine go ?_
      have e := pur H; subst e
      exact rt [.bool x34]
    · intro r hr s' hs
      subst hr
      have e := pur H; subst e
      exact hsq hs
theorem spec_l1Scopes_l0_ok : ∀ (a0 : List Int) (z0t_3 : Int) out, spec_l1Scopes_l0 a0 z0t_3 = some out → ∀ c, loopAt Try.f46 0 = some c → ∀ (Q : AX → AS → Prop) (τ : Sto), (∀ (_u : Unit), out = Sum.inr () → ∀ (T : Nat → AV) (σ : Sto), T 0 = .sl false (rws cI a0) → Fx τ σ [] [] → Q (.ex 0) ⟨T, σ⟩) → (∀ r, out = Sum.inl r → ∀ s', aRet Try.prog [.tmp 2] (fun r' σ' => r' = .bool r ∧ σ' = τ) s' → Q .ret s') → ∀ (T : Nat → AV) (σ : Sto), T 0 = .sl false (rws cI a0) ∧ T 3 = .int .i64 z0t_3 → Fx τ σ [] [] → aLp Try.prog c Q ⟨T, σ⟩ := by
  intro a0 z0t_3
  revert z0t_3
  refine spec_l1Scopes_l0.partial_correctness a0 _ ?_
  intro spec_l1Scopes_l0 IH z0t_3 out H c hc Q τ  hE hR T σ tT hF
  obtain rfl := Option.some.inj ((rfl : loopAt Try.f46 0 = some _).symm.trans hc)
  refine aLoop_round ?_
  have q := dum
  have hX := Tau.none τ
  refine go ?_
  obtain ⟨x11, g1, H⟩ := bnd H
  refine aGd_cutN 2 9 11 (.bool x11) (gi q (fun q => ?_) (fun q => ?_)) (fun J => ?_)
  · refine go ?_
    exact cutd 9 g1
  · refine go ?_
    exact cutd 9 g1
  refine go ?_
  refine cdb H (fun h H => ?_) (fun h H => ?_)
  · refine go ?_
    refine draw_text E0 [.v, .v, .v, .v, .v, .v, .v, .v, .v, .v, .v, .v, .v, .v, .v, .v, .v, .v, .v, .v, .v, .v, .v, .v, .v, .v, .v, .v] (by kernel_rfl) ?_
    obtain ⟨x16, f1, H⟩ := bil (g := cI) (fun _ => rfl) H
    refine go1 ?_
    obtain ⟨x25, g3, H⟩ := bnd H
    refine tGd_cutN 5 20 25 (.bool x25) (tiN q (fun q => ?_) (fun q => ?_)) (fun J => ?_)
    · rw [if_neg (df q)] at g3
      obtain ⟨x22, f1, g3⟩ := bil (g := cI) (fun _ => rfl) g3
      refine go1 ?_
      refine go ?_
      exact cutd 20 g3
    · rw [if_pos (dt q)] at g3
      refine go ?_
      exact cutd 20 g3
    refine go ?_
    obtain ⟨x41, g5, H⟩ := bnd H
    refine tGd_cutN 14 27 41 (.bool x41) (tiN q (fun q => ?_) (fun q => ?_)) (fun J => ?_)
    · rw [if_neg (dbf q)] at g5
      refine go ?_
      obtain ⟨x40, g7, g5⟩ := bnd g5
      refine tGd_cutN 10 30 40 (.bool x40) (ti q (fun q => ?_) (fun q => ?_)) (fun J => ?_)
      · rw [if_pos (dt q)] at g7
        obtain ⟨x32, f1, g7⟩ := bil (g := cI) (fun _ => rfl) g7
        obtain ⟨x37, f2, g7⟩ := bil (g := cI) (fun _ => rfl) g7
        refine go2 ?_
        refine go ?_
        exact cutd 30 g7
      · rw [if_neg (df q)] at g7
        refine go ?_
        exact cutd 30 g7
      refine go ?_
      exact cutd 27 g5
    · rw [if_pos (dbt q)] at g5
      refine go ?_
      exact cutd 27 g5
    refine go ?_
    refine cdb H (fun h H => ?_) (fun h H => ?_)
    · refine go ?_
      exact wq (hR _ (pur H).symm _ (rt [.bool false]))
    · refine go ?_
      exact IH  (IntKind.i64.wrap (z0t_3 + 1)) _ H _ rfl Q τ  hE hR _ _  S hF
  · refine go ?_
    exact wq (hE () (pur H).symm _ _  S hF)
theorem spec_l1Scopes_ok : ∀ (a0 : List Int) r, spec_l1Scopes a0 = some r → PCtr Try.prog 46 [.sl false (rws cI a0)] (.bool r) := by
  intro a0 r H
  intro σ
  unfold spec_l1Scopes at H
  refine hdg mixed Try.func46 (rs := [.tmp 2]) fun q tT => ?_
  have hF := Fx.refl σ
  have hX := Tau.none σ
  refine go ?_
  obtain ⟨o9, ho9, H⟩ := bnd H
  refine spec_l1Scopes_l0_ok a0 0 _ ho9 _ rfl _ _  ?_ ?_ _ _  S hF
  · intro _ he T11 σ12 tT hF
    have he := he.symm
    subst he
    try dsimp only at H
    refine go ?_
    have e := pur H; subst e
    exact rt [.bool (decide ((a0.length : Int) ≤ 24))]
  · intro r hr s' hs
    subst hr
    have e := pur H; subst e
    exact hsq hs
theorem spec_l1Is_ok : ∀ (a0 : Fm) (a1 : Int) r, spec_l1Is a0 a1 = some r → PCtr Try.prog 34 [.agg (Fm.cells a0), .int .i64 a1] (.bool r) := by
  refine spec_l1Is.partial_correctness  (motive_1 := fun a0 a1 r => PCtr Try.prog 34 [.agg (Fm.cells a0), .int .i64 a1] (.bool r)) (motive_2 := fun a0 a1 z0t_5 out => ∀ c, loopAt Try.f34 0 = some c → ∀ (Q : AX → AS → Prop) (τ : Sto) (b1 : Nat), (∀ (_u : Unit), out = Sum.inr () → ∀ (T : Nat → AV) (σ : Sto), 0 + 0 = 0 → Fx τ σ [(b1, ⟨30, 5, [.int .i64 a0.kind, .str a0.name, .int .i64 a0.num, .sl false (rws cI a0.sc), .sl false (rws Fm.cells a0.kids)]⟩)] [] → Q (.ex 1) ⟨T, σ⟩) → (∀ r, out = Sum.inl r → ∀ s', aRet Try.prog [.tmp 4] (fun r' σ' => r' = .bool r ∧ σ' = τ) s' → Q .ret s') → ∀ (T : Nat → AV) (σ : Sto), T 1 = .int .i64 a1 ∧ T 2 = .ptr b1 0 ∧ T 5 = .int .i64 z0t_5 → Fx τ σ [(b1, ⟨30, 5, [.int .i64 a0.kind, .str a0.name, .int .i64 a0.num, .sl false (rws cI a0.sc), .sl false (rws Fm.cells a0.kids)]⟩)] [] → aLp Try.prog c Q ⟨T, σ⟩) ?_ ?_
  · intro spec_l1Is_l0 L0 a0 a1 r H
    intro σ
    refine hdg mixed Try.func34 (rs := [.tmp 4]) fun q tT => ?_
    have hF := Fx.refl σ
    have hX := Tau.none σ
    refine go ?_
    refine fx_alloc hF rfl fun b1 σ2 hF => ?_
    refine go ?_
    refine cdp H (fun h H => ?_) (fun h H => ?_)
    · refine go ?_
      have e := pur H; subst e
      exact rt [.bool false]
    · refine go ?_
      refine cdp H (fun h H => ?_) (fun h H => ?_)
      · refine go ?_
        obtain ⟨x14, hx14, H⟩ := bnd H
        refine cl (spec_NameValid_ok a0.name _ hx14) ?_
        refine go ?_
        obtain ⟨x19, g3, H⟩ := bnd H
        refine aGd_cutN 3 16 19 (.bool x19) (gi q (fun q => ?_) (fun q => ?_)) (fun J => ?_)
        · refine go ?_
          exact cutd 16 g3
        · refine go ?_
          exact cutd 16 g3
        refine go ?_
        obtain ⟨x24, g5, H⟩ := bnd H
        refine aGd_cutN 3 21 24 (.bool x24) (gi q (fun q => ?_) (fun q => ?_)) (fun J => ?_)
        · rw [if_pos (dbt q)] at g5
          refine go ?_
          obtain ⟨x23, hx23, g5⟩ := bnd g5
          refine cl (spec_l1Scopes_ok a0.sc _ hx23) ?_
          refine go ?_
          exact cutd 21 g5
        · rw [if_neg (dbf q)] at g5
          refine go ?_
          exact cutd 21 g5
        refine go ?_
        obtain ⟨x30, g7, H⟩ := bnd H
        refine aGd_cutN 4 26 30 (.bool x30) (gi q (fun q => ?_) (fun q => ?_)) (fun J => ?_)
        · refine go ?_
          exact cutd 26 g7
        · refine go ?_
          exact cutd 26 g7
        refine go ?_
        have e := pur H; subst e
        exact rt [.bool x30]
      · refine go ?_
        refine cdp H (fun h H => ?_) (fun h H => ?_)
        · refine go ?_
          obtain ⟨x40, g9, H⟩ := bnd H
          refine aGd_cutN 3 37 40 (.bool x40) (gi q (fun q => ?_) (fun q => ?_)) (fun J => ?_)
          · refine go ?_
            exact cutd 37 g9
          · refine go ?_
            exact cutd 37 g9
          refine go ?_
          obtain ⟨x45, g11, H⟩ := bnd H
          refine aGd_cutN 3 42 45 (.bool x45) (gi q (fun q => ?_) (fun q => ?_)) (fun J => ?_)
          · refine go ?_
            exact cutd 42 g11
          · refine go ?_
            exact cutd 42 g11
          refine go ?_
          obtain ⟨x51, g13, H⟩ := bnd H
          refine aGd_cutN 4 47 51 (.bool x51) (gi q (fun q => ?_) (fun q => ?_)) (fun J => ?_)
          · refine go ?_
            exact cutd 47 g13
          · refine go ?_
            exact cutd 47 g13
          refine go ?_
          obtain ⟨x57, g15, H⟩ := bnd H
          refine aGd_cutN 4 53 57 (.bool x57) (gi q (fun q => ?_) (fun q => ?_)) (fun J => ?_)
          · refine go ?_
            exact cutd 53 g15
          · refine go ?_
            exact cutd 53 g15
          refine go ?_
          have e := pur H; subst e
          exact rt [.bool x57]
        · refine go ?_
          obtain ⟨x65, g17, H⟩ := bnd H
          refine aGd_cutN 3 62 65 (.bool x65) (giN q (fun q => ?_) (fun q => ?_)) (fun J => ?_)
          · refine go ?_
            exact cutd 62 g17
          · refine go ?_
            exact cutd 62 g17
          refine go ?_
          obtain ⟨x70, g19, H⟩ := bnd H
          refine aGd_cutN 3 67 70 (.bool x70) (giN q (fun q => ?_) (fun q => ?_)) (fun J => ?_)
          · refine go ?_
            exact cutd 67 g19
          · refine go ?_
            exact cutd 67 g19
          refine go ?_
          obtain ⟨x76, g21, H⟩ := bnd H
          refine aGd_cutN 4 72 76 (.bool x76) (giN q (fun q => ?_) (fun q => ?_)) (fun J => ?_)
          · refine go ?_
            exact cutd 72 g21
          · refine go ?_
            exact cutd 72 g21
          refine go ?_
          refine cdb H (fun h H => ?_) (fun h H => ?_)
          · refine go ?_
            have e := pur H; subst e
            exact rt [.bool false]
          · refine go ?_
            obtain ⟨o23, ho23, H⟩ := bnd H
            refine L0 a0 a1 0 _ ho23 _ rfl _ _ b1 ?_ ?_ _ _  S hF
            · intro _ he T25 σ26 tT hF
              have he := he.symm
              subst he
              try dsimp only at H
              refine go ?_
              have e := pur H; subst e
              exact rt [.bool true]
            · intro r hr s' hs
              subst hr
              have e := pur H; subst e
              exact hsq hs
  · intro spec_l1Is spec_l1Is_l0 C0 L0 a0 a1 z0t_5 out H c hc Q τ b1 hE hR T σ tT hF
    obtain rfl := Option.some.inj ((rfl : loopAt Try.f34 0 = some _).symm.trans hc)
    refine aLoop_round ?_
    have q := dum
    have hX := Tau.none τ
    refine go ?_
    refine cdp H (fun h H => ?_) (fun h H => ?_)
    · obtain ⟨x87, f1, H⟩ := bil (g := Fm.cells) Fm.cells_len H
      refine go1 ?_
      obtain ⟨x91, hx91, H⟩ := bnd H
      refine cl (C0 x87 (IntKind.i64.wrap (a1 - 1)) _ hx91) ?_
      refine go ?_
      refine cdb H (fun h H => ?_) (fun h H => ?_)
      · refine go ?_
        exact wq (hR _ (pur H).symm _ (rt [.bool false]))
      · refine go ?_
        exact L0 a0 a1 (IntKind.i64.wrap (z0t_5 + 1)) _ H _ rfl Q τ b1 hE hR _ _  S hF
    · refine go ?_
      exact wq (hE () (pur H).symm _ _  S hF)
theorem spec_l1Count_ok : ∀ (a0 : Fm) r, spec_l1Count a0 = some r → PCtr Try.prog 35 [.agg (Fm.cells a0)] (.int .i64 r) := by
  refine spec_l1Count.partial_correctness  (motive_1 := fun a0 r => PCtr Try.prog 35 [.agg (Fm.cells a0)] (.int .i64 r)) (motive_2 := fun a0 z0t_3 z0t_4 out => ∀ c, loopAt Try.f35 0 = some c → ∀ (Q : AX → AS → Prop) (τ : Sto) (b1 : Nat), (∀ (e0t_3 : Int), out = e0t_3 → ∀ (T : Nat → AV) (σ : Sto), T 3 = .int .i64 e0t_3 → Fx τ σ [(b1, ⟨30, 5, [.int .i64 a0.kind, .str a0.name, .int .i64 a0.num, .sl false (rws cI a0.sc), .sl false (rws Fm.cells a0.kids)]⟩)] [] → Q (.ex 0) ⟨T, σ⟩) → True → ∀ (T : Nat → AV) (σ : Sto), T 1 = .ptr b1 0 ∧ T 3 = .int .i64 z0t_3 ∧ T 4 = .int .i64 z0t_4 → Fx τ σ [(b1, ⟨30, 5, [.int .i64 a0.kind, .str a0.name, .int .i64 a0.num, .sl false (rws cI a0.sc), .sl false (rws Fm.cells a0.kids)]⟩)] [] → aLp Try.prog c Q ⟨T, σ⟩) ?_ ?_
  · intro spec_l1Count_l0 L0 a0 r H
    intro σ
    refine hdg mixed Try.func35 (rs := [.tmp 2]) fun q tT => ?_
    have hF := Fx.refl σ
    have hX := Tau.none σ
    refine go ?_
    refine fx_alloc hF rfl fun b1 σ2 hF => ?_
    refine go ?_
    obtain ⟨o3, ho3, H⟩ := bnd H
    refine L0 a0 1 0 _ ho3 _ rfl _ _ b1 ?_ ?_ _ _  S hF
    · intro e4t_3 he T5 σ6 tT hF
      have he := he.symm
      subst he
      refine go ?_
      have e := pur H; subst e
      exact rt [.int .i64 e4t_3]
    · trivial
  · intro spec_l1Count spec_l1Count_l0 C0 L0 a0 z0t_3 z0t_4 out H c hc Q τ b1 hE hR T σ tT hF
    obtain rfl := Option.some.inj ((rfl : loopAt Try.f35 0 = some _).symm.trans hc)
    refine aLoop_round ?_
    have q := dum
    have hX := Tau.none τ
    refine go ?_
    refine cdp H (fun h H => ?_) (fun h H => ?_)
    · obtain ⟨x16, f1, H⟩ := bil (g := Fm.cells) Fm.cells_len H
      refine go1 ?_
      obtain ⟨x18, hx18, H⟩ := bnd H
      refine cl (C0 x16 _ hx18) ?_
      refine go ?_
      exact L0 a0 (IntKind.i64.wrap (z0t_3 + x18)) (IntKind.i64.wrap (z0t_4 + 1)) _ H _ rfl Q τ b1 hE hR _ _  S hF
    · refine go ?_
      exact wq (hE _ (pur H).symm _ _  S hF)
theorem spec_FormValid_ok : ∀ (a0 : Fm) r, spec_FormValid a0 = some r → PCtr Try.prog 15 [.agg (Fm.cells a0)] (.bool r) := by
  intro a0 r H
  intro σ
  unfold spec_FormValid at H
  refine hdg mixed Try.func15 (rs := [.tmp 2]) fun q tT => ?_
  have hF := Fx.refl σ
  have hX := Tau.none σ
  refine go ?_
  refine fx_alloc hF rfl fun b1 σ2 hF => ?_
  refine go ?_
  obtain ⟨x4, hx4, H⟩ := bnd H
  refine cl (spec_l1Is_ok a0 40 _ hx4) ?_
  refine go ?_
  obtain ⟨x9, g3, H⟩ := bnd H
  refine aGd_cutN 3 6 9 (.bool x9) (gi q (fun q => ?_) (fun q => ?_)) (fun J => ?_)
  · rw [if_pos (dbt q)] at g3
    refine go ?_
    obtain ⟨x7, hx7, g3⟩ := bnd g3
    refine cl (spec_l1Count_ok a0 _ hx7) ?_
    refine go ?_
    exact cutd 6 g3
  · rw [if_neg (dbf q)] at g3
    refine go ?_
    exact cutd 6 g3
  refine go ?_
  have e := pur H; subst e
  exact rt [.bool x9]
theorem spec_l8Data_ok : ∀ (a0 : Fm) r, spec_l8Data a0 = some r → PCtr Try.prog 16 [.agg (Fm.cells a0)] (.agg (Val.cells r)) := by
  refine spec_l8Data.partial_correctness  (motive_1 := fun a0 r => PCtr Try.prog 16 [.agg (Fm.cells a0)] (.agg (Val.cells r))) (motive_2 := fun a0 z0o_0 z0t_4 out => ∀ c, loopAt Try.f16 0 = some c → ∀ (Q : AX → AS → Prop) (τ : Sto) (b1 : Nat) (b3 : Nat) (b7 : Nat), (∀ (e0o_0 : List Val), out = e0o_0 → ∀ (T : Nat → AV) (σ : Sto) (e0v0 : AV), T 2 = .ptr b3 0 ∧ T 3 = .ptr b7 0 → Fx τ σ [(b7, ⟨36, 16, [.int .i64 3, .int .i64 0, .str (ByteArray.mk #[]), e0v0, .int .i64 0, .int .i64 0, .str (ByteArray.mk #[]), .int .i64 0, .nilsl, .int .i64 0, .str (ByteArray.mk #[]), .int .i64 0, .nilsl, .nilsl, .nilsl, .nilsl]⟩), (b3, ⟨36, 16, [.int .i64 0, .int .i64 0, .str (ByteArray.mk #[]), .nilsl, .int .i64 0, .int .i64 0, .str (ByteArray.mk #[]), .int .i64 0, .nilsl, .int .i64 0, .str (ByteArray.mk #[]), .int .i64 0, .nilsl, .nilsl, .nilsl, .nilsl]⟩), (b1, ⟨30, 5, [.int .i64 a0.kind, .str a0.name, .int .i64 a0.num, .sl false (rws cI a0.sc), .sl false (rws Fm.cells a0.kids)]⟩)] [⟨e0v0, 36, 16, rws Val.cells e0o_0⟩] → Q (.ex 1) ⟨T, σ⟩) → True → ∀ (T : Nat → AV) (σ : Sto) (z0v0 : AV), T 1 = .ptr b1 0 ∧ T 2 = .ptr b3 0 ∧ T 3 = .ptr b7 0 ∧ T 4 = .int .i64 z0t_4 → Fx τ σ [(b7, ⟨36, 16, [.int .i64 3, .int .i64 0, .str (ByteArray.mk #[]), z0v0, .int .i64 0, .int .i64 0, .str (ByteArray.mk #[]), .int .i64 0, .nilsl, .int .i64 0, .str (ByteArray.mk #[]), .int .i64 0, .nilsl, .nilsl, .nilsl, .nilsl]⟩), (b3, ⟨36, 16, [.int .i64 0, .int .i64 0, .str (ByteArray.mk #[]), .nilsl, .int .i64 0, .int .i64 0, .str (ByteArray.mk #[]), .int .i64 0, .nilsl, .int .i64 0, .str (ByteArray.mk #[]), .int .i64 0, .nilsl, .nilsl, .nilsl, .nilsl]⟩), (b1, ⟨30, 5, [.int .i64 a0.kind, .str a0.name, .int .i64 a0.num, .sl false (rws cI a0.sc), .sl false (rws Fm.cells a0.kids)]⟩)] [⟨z0v0, 36, 16, rws Val.cells z0o_0⟩] → aLp Try.prog c Q ⟨T, σ⟩) ?_ ?_
  · intro spec_l8Data_l0 L0 a0 r H
    intro σ
    refine hdg mixed Try.func16 (rs := [.cell 2 36]) fun q tT => ?_
    have hF := Fx.refl σ
    have hX := Tau.none σ
    refine go ?_
    refine fx_alloc hF rfl fun b1 σ2 hF => ?_
    refine go ?_
    refine fx_alloc hF rfl fun b3 σ4 hF => ?_
    refine go ?_
    refine cdp H (fun h H => ?_) (fun h H => ?_)
    · refine go ?_
      refine st hF 0 rfl fun σ5 hF => ?_
      refine go ?_
      have e := pur H; subst e
      exact rt [.agg [.int .i64 1, .int .i64 a0.num, .str (ByteArray.mk #[]), .nilsl, .int .i64 0, .int .i64 0, .str (ByteArray.mk #[]), .int .i64 0, .nilsl, .int .i64 0, .str (ByteArray.mk #[]), .int .i64 0, .nilsl, .nilsl, .nilsl, .nilsl]]
    · refine go ?_
      refine cdp H (fun h H => ?_) (fun h H => ?_)
      · refine go ?_
        refine st hF 0 rfl fun σ6 hF => ?_
        refine go ?_
        have e := pur H; subst e
        exact rt [.agg [.int .i64 2, .int .i64 0, .str a0.name, .nilsl, .int .i64 0, .int .i64 0, .str (ByteArray.mk #[]), .int .i64 0, .nilsl, .int .i64 0, .str (ByteArray.mk #[]), .int .i64 0, .nilsl, .nilsl, .nilsl, .nilsl]]
      · refine go ?_
        refine fx_alloc hF rfl fun b7 σ8 hF => ?_
        refine go ?_
        refine st hF 0 rfl fun σ9 hF => ?_
        have hF := hF.nil 36 16
        refine go ?_
        obtain ⟨o13, ho13, H⟩ := bnd H
        refine L0 a0 [] 0 _ ho13 _ rfl _ _ b1 b3 b7 ?_ ?_ _ _ .nilsl S hF
        · intro e14o_0 he T15 σ16 e14v0 tT hF
          have he := he.symm
          subst he
          refine go ?_
          refine st hF 1 rfl fun σ18 hF => ?_
          refine go ?_
          have e := pur H; subst e
          exact rt [.agg [.int .i64 3, .int .i64 0, .str (ByteArray.mk #[]), e14v0, .int .i64 0, .int .i64 0, .str (ByteArray.mk #[]), .int .i64 0, .nilsl, .int .i64 0, .str (ByteArray.mk #[]), .int .i64 0, .nilsl, .nilsl, .nilsl, .nilsl]]
        · trivial
  · intro spec_l8Data spec_l8Data_l0 C0 L0 a0 z0o_0 z0t_4 out H c hc Q τ b1 b3 b7 hE hR T σ z0v0 tT hF
    obtain rfl := Option.some.inj ((rfl : loopAt Try.f16 0 = some _).symm.trans hc)
    refine aLoop_round ?_
    have q := dum
    have hX := Tau.none τ
    refine go ?_
    refine cdp H (fun h H => ?_) (fun h H => ?_)
    · refine go ?_
      refine draw_text E0 [.v, .v, .v, .v, .v, .v, .v, .v, .v, .x, .v, .z] (by kernel_rfl) ?_
      obtain ⟨x30, f1, H⟩ := bil (g := Fm.cells) Fm.cells_len H
      refine go1 ?_
      obtain ⟨x32, hx32, H⟩ := bnd H
      refine cv (C0 x30 _ hx32) ?_
      refine go ?_
      refine apdK (g := Val.cells) hF 0 H (rdo (c := true) (g := Val.cells) Val.cells_len) fun x34 H v10 σ11 hF => ?_
      refine go ?_
      refine st hF 0 (hF.cells 0 rfl) fun σ12 hF => ?_
      refine go ?_
      exact L0 a0 x34 (IntKind.i64.wrap (z0t_4 + 1)) _ H _ rfl Q τ b1 b3 b7 hE hR _ _ v10 S hF
    · refine go ?_
      exact wq (hE _ (pur H).symm _ _ z0v0 S hF)
theorem spec_DataValue_ok : ∀ (a0 : Fm) r, spec_DataValue a0 = some r → PCtr Try.prog 5 [.agg (Fm.cells a0)] (.tup [.agg (Val.cells r.1), .bool r.2]) := by
  intro a0 r H
  intro σ
  unfold spec_DataValue at H
  refine hdg mixed Try.func5 (rs := [.cell 2 36, .tmp 3]) fun q tT => ?_
  have hF := Fx.refl σ
  have hX := Tau.none σ
  refine go ?_
  refine fx_alloc hF rfl fun b1 σ2 hF => ?_
  refine go ?_
  refine fx_alloc hF rfl fun b3 σ4 hF => ?_
  refine go ?_
  obtain ⟨x5, hx5, H⟩ := bnd H
  refine cl (spec_FormValid_ok a0 _ hx5) ?_
  refine go ?_
  refine cdb H (fun h H => ?_) (fun h H => ?_)
  · refine go ?_
    refine st hF 0 rfl fun σ5 hF => ?_
    refine go ?_
    have e := pur H; subst e
    exact rt [.agg [.int .i64 0, .int .i64 0, .str (ByteArray.mk #[]), .nilsl, .int .i64 0, .int .i64 0, .str (ByteArray.mk #[]), .int .i64 0, .nilsl, .int .i64 0, .str (ByteArray.mk #[]), .int .i64 0, .nilsl, .nilsl, .nilsl, .nilsl], .bool false]
  · refine go ?_
    obtain ⟨x9, hx9, H⟩ := bnd H
    refine cl (spec_l8Data_ok a0 _ hx9) ?_
    refine go ?_
    refine st hF 0 rfl fun σ6 hF => ?_
    refine go ?_
    have e := pur H; subst e
    exact rt [.agg [.int .i64 x9.kind, .int .i64 x9.num, .str x9.name, .sl false (rws Val.cells x9.items), .int .i64 x9.fn.kind, .int .i64 x9.fn.id, .str x9.fn.name, .int .i64 x9.fn.num, .sl false (rws cI x9.fn.ids), .int .i64 x9.fn.data.kind, .str x9.fn.data.name, .int .i64 x9.fn.data.num, .sl false (rws cI x9.fn.data.sc), .sl false (rws Fm.cells x9.fn.data.kids), .sl false (rws Cor.cells x9.fn.kids), .sl false (rws Slt.cells x9.env)], .bool true]
set_option maxHeartbeats 1000000 in
set_option maxRecDepth 100000 in
theorem ib_lite (s : ByteArray) (c : Int) (w : World) :
    Calls Try.prog 52 #[.string s, .int .u8 c] w fun e w' => e = .returned (Value.int .i64 (Lib.indexByte s.data.toList c.toNat.toUInt8)) ∧ w' = w := by
  go_enter Try.func52, Try.ntmps52
  go_wp2
  rw [run_callFunc_extern Try.func53 (by kernel_rfl) (by kernel_rfl) (by kernel_rfl) (e := Extern.BytealgIndexByte.indexByte) (by kernel_rfl), Lib.run_indexByteString]
  simp only [Result.andThen]
  rw [Oper.upon_value]
  go_wp2
  go_ret
  exact ⟨rfl, rfl⟩
set_option maxHeartbeats 1000000 in
theorem ib_str (s : ByteArray) (c : Int) (w : World) :
    Calls Try.prog 51 #[.string s, .int .u8 c] w fun e w' => e = .returned (Value.int .i64 (Lib.indexByte s.data.toList c.toNat.toUInt8)) ∧ w' = w := by
  go_enter Try.func51, Try.ntmps51
  go_wp2_with (go_at_call 52; refine (ib_lite _ _ _).mono ?_; rintro e w' ⟨rfl, rfl⟩)
  go_ret
  exact ⟨rfl, rfl⟩
theorem ib_ctr {P : Program} {f : FuncId} {fn : Func} (hf : P.funcs[f]? = some fn) (hb : fn.body.isNone = false) (hn : (fn.name == "runtime.NumGoroutine") = false) {s : ByteArray} {c r : Int}
    (h : ∀ w, Calls P f #[.string s, .int .u8 c] w fun e w' => e = .returned (Value.int .i64 r) ∧ w' = w) : PCtr P f [.str s, .int .u8 c] (.int .i64 r) := by
  intro σ
  refine ⟨⟨fn, hf, hb, hn⟩, fun w cargs hsim htb hl hr => ?_⟩
  have h0 := hr 0 _ rfl
  have h1 := hr 1 _ rfl
  match cargs, hl with
  | [x, y], _ =>
    simp only [List.getD_cons_zero, List.getD_cons_succ] at h0 h1
    cases h0
    cases h1
    refine (h w).mono ?_
    rintro e w' ⟨rfl, rfl⟩
    exact ⟨_, _, σ, rfl, Step.refl _ _, hsim, .int, rfl, rfl⟩
theorem strings_IndexByte_ok : ∀ (a0 : ByteArray) (a1 : Int) r, strings_IndexByte a0 a1 = some r → PCtr Try.prog 51 [.str a0, .int .u8 a1] (.int .i64 r) := by
  intro a0 a1 r H
  injection H with H
  subst H
  exact ib_ctr Try.func51 (by kernel_rfl) (by kernel_rfl) (ib_str a0 a1)
theorem impl_within_ok : ∀ (a0 : Int) (a1 : Int) (a2 : Int) r, impl_within a0 a1 a2 = some r → PCtr Try.prog 49 [.int .i64 a0, .int .i64 a1, .int .i64 a2] (.bool r) := by
  intro a0 a1 a2 r H
  intro σ
  unfold impl_within at H
  refine hdg mixed Try.func49 (rs := [.tmp 6]) fun q tT => ?_
  have hF := Fx.refl σ
  have hX := Tau.none σ
  refine go ?_
  obtain ⟨x14, g1, H⟩ := bnd H
  refine aGd_cutN 3 11 14 (.bool x14) (gi q (fun q => ?_) (fun q => ?_)) (fun J => ?_)
  · refine go ?_
    exact cutd 11 g1
  · refine go ?_
    exact cutd 11 g1
  refine go ?_
  have e := pur H; subst e
  exact rt [.bool x14]
theorem impl_NameValid_l0_ok : ∀ (a0 : ByteArray) (z0t_3 : Int) out, impl_NameValid_l0 a0 z0t_3 = some out → ∀ c, loopAt Try.f47 0 = some c → ∀ (Q : AX → AS → Prop) (τ : Sto), (∀ (_u : Unit), out = Sum.inr () → ∀ (T : Nat → AV) (σ : Sto), T 0 = .str a0 → Fx τ σ [] [] → Q (.ex 0) ⟨T, σ⟩) → (∀ r, out = Sum.inl r → ∀ s', aRet Try.prog [.tmp 2] (fun r' σ' => r' = .bool r ∧ σ' = τ) s' → Q .ret s') → ∀ (T : Nat → AV) (σ : Sto), T 0 = .str a0 ∧ T 3 = .int .i64 z0t_3 → Fx τ σ [] [] → aLp Try.prog c Q ⟨T, σ⟩ := by
  intro a0 z0t_3
  revert z0t_3
  refine impl_NameValid_l0.partial_correctness a0 _ ?_
  intro impl_NameValid_l0 IH z0t_3 out H c hc Q τ  hE hR T σ tT hF
  obtain rfl := Option.some.inj ((rfl : loopAt Try.f47 0 = some _).symm.trans hc)
  refine aLoop_round ?_
  have q := dum
  have hX := Tau.none τ
  refine go ?_
  refine cdp H (fun h H => ?_) (fun h H => ?_)
  · obtain ⟨x19, f1, H⟩ := bsx H
    refine go1 ?_
    refine go ?_
    obtain ⟨x26, g3, H⟩ := bnd H
    refine aGd_cutN 2 24 26 (.bool x26) (gi q (fun q => ?_) (fun q => ?_)) (fun J => ?_)
    · refine go ?_
      exact cutd 24 g3
    · refine go ?_
      exact cutd 24 g3
    refine go ?_
    obtain ⟨x31, g5, H⟩ := bnd H
    refine aGd_cutN 3 28 31 (.bool x31) (giN q (fun q => ?_) (fun q => ?_)) (fun J => ?_)
    · rw [if_neg (dbf q)] at g5
      refine go ?_
      obtain ⟨x29, hx29, g5⟩ := bnd g5
      refine cl (strings_IndexByte_ok (ByteArray.mk #[42, 63, 61, 43, 60]) x19 _ hx29) ?_
      refine go ?_
      exact cutd 28 g5
    · rw [if_pos (dbt q)] at g5
      refine go ?_
      exact cutd 28 g5
    refine go ?_
    refine cdb H (fun h H => ?_) (fun h H => ?_)
    · refine go ?_
      exact IH  (IntKind.i64.wrap (z0t_3 + 1)) _ H _ rfl Q τ  hE hR _ _  S hF
    · refine go ?_
      obtain ⟨x46, g7, H⟩ := bnd H
      refine aGd_cutN 10 36 46 (.bool x46) (gi q (fun q => ?_) (fun q => ?_)) (fun J => ?_)
      · rw [if_pos (dt q)] at g7
        refine go ?_
        obtain ⟨x41, g9, g7⟩ := bnd g7
        refine aGd_cutN 2 39 41 (.bool x41) (gi q (fun q => ?_) (fun q => ?_)) (fun J => ?_)
        · refine go ?_
          exact cutd 39 g9
        · refine go ?_
          exact cutd 39 g9
        refine go ?_
        obtain ⟨x45, g11, g7⟩ := bnd g7
        refine aGd_cutN 2 43 45 (.bool x45) (giN q (fun q => ?_) (fun q => ?_)) (fun J => ?_)
        · refine go ?_
          exact cutd 43 g11
        · refine go ?_
          exact cutd 43 g11
        refine go ?_
        exact cutd 36 g7
      · rw [if_neg (df q)] at g7
        refine go ?_
        exact cutd 36 g7
      refine go ?_
      refine cdb H (fun h H => ?_) (fun h H => ?_)
      · refine go ?_
        exact IH  (IntKind.i64.wrap (z0t_3 + 1)) _ H _ rfl Q τ  hE hR _ _  S hF
      · refine go ?_
        exact wq (hR _ (pur H).symm _ (rt [.bool false]))
  · refine go ?_
    exact wq (hE () (pur H).symm _ _  S hF)
theorem impl_NameValid_ok : ∀ (a0 : ByteArray) r, impl_NameValid a0 = some r → PCtr Try.prog 47 [.str a0] (.bool r) := by
  intro a0 r H
  intro σ
  unfold impl_NameValid at H
  refine hdg mixed Try.func47 (rs := [.tmp 2]) fun q tT => ?_
  have hF := Fx.refl σ
  have hX := Tau.none σ
  refine go ?_
  obtain ⟨x10, g1, H⟩ := bnd H
  refine aGd_cutN 2 8 10 (.bool x10) (giN q (fun q => ?_) (fun q => ?_)) (fun J => ?_)
  · refine go ?_
    exact cutd 8 g1
  · refine go ?_
    exact cutd 8 g1
  refine go ?_
  refine cdb H (fun h H => ?_) (fun h H => ?_)
  · refine go ?_
    have e := pur H; subst e
    exact rt [.bool true]
  · refine go ?_
    obtain ⟨o13, ho13, H⟩ := bnd H
    refine impl_NameValid_l0_ok a0 0 _ ho13 _ rfl _ _  ?_ ?_ _ _  S hF
    · intro _ he T15 σ16 tT hF
      have he := he.symm
      subst he
      try dsimp only at H
      refine go ?_
      obtain ⟨x49, hx49, H⟩ := bnd H
      refine cl (impl_within_ok (a0.size : Int) 1 12 _ hx49) ?_
      refine go ?_
      have e := pur H; subst e
      exact rt [.bool x49]
    · intro r hr s' hs
      subst hr
      have e := pur H; subst e
      exact hsq hs
theorem impl_scopesOk_l0_ok : ∀ (a0 : List Int) (z0t_7 : Int) out, impl_scopesOk_l0 a0 z0t_7 = some out → ∀ c, loopAt Try.f48 0 = some c → ∀ (Q : AX → AS → Prop) (τ : Sto), (∀ (_u : Unit), out = Sum.inr () → ∀ (T : Nat → AV) (σ : Sto), T 0 = .sl false (rws cI a0) → Fx τ σ [] [] → Q (.ex 0) ⟨T, σ⟩) → (∀ r, out = Sum.inl r → ∀ s', aRet Try.prog [.tmp 2] (fun r' σ' => r' = .bool r ∧ σ' = τ) s' → Q .ret s') → ∀ (T : Nat → AV) (σ : Sto), T 0 = .sl false (rws cI a0) ∧ T 5 = .sl false (rws cI a0) ∧ T 6 = .int .i64 (a0.length : Int) ∧ T 7 = .int .i64 z0t_7 → Fx τ σ [] [] → aLp Try.prog c Q ⟨T, σ⟩ := by
  intro a0 z0t_7
  revert z0t_7
  refine impl_scopesOk_l0.partial_correctness a0 _ ?_
  intro impl_scopesOk_l0 IH z0t_7 out H c hc Q τ  hE hR T σ tT hF
  obtain rfl := Option.some.inj ((rfl : loopAt Try.f48 0 = some _).symm.trans hc)
  refine aLoop_round ?_
  have q := dum
  have hX := Tau.none τ
  refine go ?_
  refine cdp H (fun h H => ?_) (fun h H => ?_)
  · obtain ⟨x10, f1, H⟩ := bil (g := cI) (fun _ => rfl) H
    refine go1 ?_
    refine go ?_
    obtain ⟨x13, hx13, H⟩ := bnd H
    refine cl (impl_within_ok x10 1 99 _ hx13) ?_
    refine go ?_
    obtain ⟨x27, g1, H⟩ := bnd H
    refine aGd_cutN 11 16 27 (.bool x27) (giN q (fun q => ?_) (fun q => ?_)) (fun J => ?_)
    · rw [if_neg (dbf q)] at g1
      refine go ?_
      obtain ⟨x26, g3, g1⟩ := bnd g1
      refine aGd_cutN 7 19 26 (.bool x26) (gi q (fun q => ?_) (fun q => ?_)) (fun J => ?_)
      · rw [if_pos (dt q)] at g3
        obtain ⟨x22, f1, g3⟩ := bil (g := cI) (fun _ => rfl) g3
        refine go1 ?_
        refine go ?_
        exact cutd 19 g3
      · rw [if_neg (df q)] at g3
        refine go ?_
        exact cutd 19 g3
      refine go ?_
      exact cutd 16 g1
    · rw [if_pos (dbt q)] at g1
      refine go ?_
      exact cutd 16 g1
    refine go ?_
    refine cdb H (fun h H => ?_) (fun h H => ?_)
    · refine go ?_
      exact wq (hR _ (pur H).symm _ (rt [.bool false]))
    · refine go ?_
      exact IH  (IntKind.i64.wrap (z0t_7 + 1)) _ H _ rfl Q τ  hE hR _ _  S hF
  · refine go ?_
    exact wq (hE () (pur H).symm _ _  S hF)
theorem impl_scopesOk_ok : ∀ (a0 : List Int) r, impl_scopesOk a0 = some r → PCtr Try.prog 48 [.sl false (rws cI a0)] (.bool r) := by
  intro a0 r H
  intro σ
  unfold impl_scopesOk at H
  refine hdg mixed Try.func48 (rs := [.tmp 2]) fun q tT => ?_
  have hF := Fx.refl σ
  have hX := Tau.none σ
  refine go ?_
  obtain ⟨o5, ho5, H⟩ := bnd H
  refine impl_scopesOk_l0_ok a0 0 _ ho5 _ rfl _ _  ?_ ?_ _ _  S hF
  · intro _ he T7 σ8 tT hF
    have he := he.symm
    subst he
    try dsimp only at H
    refine go ?_
    have e := pur H; subst e
    exact rt [.bool (decide ((a0.length : Int) ≤ 24))]
  · intro r hr s' hs
    subst hr
    have e := pur H; subst e
    exact hsq hs
theorem impl_formOk_ok : ∀ (a0 : Fm) (a1 : Int) (c0 : Int) r, impl_formOk a0 a1 c0 = some r → ∀ (e0 : Nat)  (σ : Sto), Pre σ [(e0, ⟨3, 1, [.int .i64 c0]⟩)] [] → Ctr Try.prog 36 [.agg (Fm.cells a0), .int .i64 a1, .ptr e0 0] σ (fun r' σ' => ∃ (τ' : Sto), r' = .bool r.1 ∧ Tau (strip σ []) [(e0, ⟨3, 1, [.int .i64 r.2]⟩)] τ' ∧ Fx τ' σ' [] []) := by
  refine impl_formOk.partial_correctness  (motive_1 := fun a0 a1 c0 r => ∀ (e0 : Nat)  (σ : Sto), Pre σ [(e0, ⟨3, 1, [.int .i64 c0]⟩)] [] → Ctr Try.prog 36 [.agg (Fm.cells a0), .int .i64 a1, .ptr e0 0] σ (fun r' σ' => ∃ (τ' : Sto), r' = .bool r.1 ∧ Tau (strip σ []) [(e0, ⟨3, 1, [.int .i64 r.2]⟩)] τ' ∧ Fx τ' σ' [] [])) (motive_2 := fun a0 a1 z0t_86 z0x_0_0 out => ∀ c, loopAt Try.f36 0 = some c → ∀ (Q : AX → AS → Prop) (τ0 : Sto) (e0 : Nat) (b1 : Nat), (∀ (e0x_0_0 : Int), out = Sum.inr e0x_0_0 → ∀ (T : Nat → AV) (σ : Sto) (τ : Sto), 0 + 0 = 0 → Tau τ0 [(e0, ⟨3, 1, [.int .i64 e0x_0_0]⟩)] τ → Fx τ σ [(b1, ⟨30, 5, [.int .i64 a0.kind, .str a0.name, .int .i64 a0.num, .sl false (rws cI a0.sc), .sl false (rws Fm.cells a0.kids)]⟩)] [] → Q (.ex 1) ⟨T, σ⟩) → (∀ r, out = Sum.inl r → ∀ s', aRet Try.prog [.tmp 6] (fun r' σ' => ∃ (τ' : Sto), r' = .bool r.1 ∧ Tau τ0 [(e0, ⟨3, 1, [.int .i64 r.2]⟩)] τ' ∧ Fx τ' σ' [] []) s' → Q .ret s') → ∀ (T : Nat → AV) (σ : Sto) (τ : Sto), T 1 = .int .i64 a1 ∧ T 2 = .ptr e0 0 ∧ T 84 = .sl false (rws Fm.cells a0.kids) ∧ T 85 = .int .i64 (a0.kids.length : Int) ∧ T 86 = .int .i64 z0t_86 → Tau τ0 [(e0, ⟨3, 1, [.int .i64 z0x_0_0]⟩)] τ → Fx τ σ [(b1, ⟨30, 5, [.int .i64 a0.kind, .str a0.name, .int .i64 a0.num, .sl false (rws cI a0.sc), .sl false (rws Fm.cells a0.kids)]⟩)] [] → aLp Try.prog c Q ⟨T, σ⟩) ?_ ?_
  · intro impl_formOk_l0 L0 a0 a1 c0 r H
    intro e0  σ hP
    refine hdg mixed Try.func36 (rs := [.tmp 6]) fun q tT => ?_
    obtain ⟨hF, hX⟩ := hP.start
    generalize strip σ [] = τ0 at hF hX ⊢
    refine go ?_
    refine fx_alloc hF rfl fun b1 σ2 hF => ?_
    refine go ?_
    refine stT hF hX 0 rfl fun τ4 σ3 hF hX => ?_
    refine go ?_
    obtain ⟨x21, g5, H⟩ := bnd H
    refine aGd_cutN 2 19 21 (.bool x21) (giN q (fun q => ?_) (fun q => ?_)) (fun J => ?_)
    · refine go ?_
      exact cutd 19 g5
    · refine go ?_
      exact cutd 19 g5
    refine go ?_
    refine cdb H (fun h H => ?_) (fun h H => ?_)
    · refine go ?_
      have e := pur H; subst e
      exact rg [.bool false] ⟨_, rfl, hX, Fx.self _⟩
    · refine go ?_
      refine cdp H (fun h H => ?_) (fun h H => ?_)
      · refine go ?_
        obtain ⟨x28, hx28, H⟩ := bnd H
        refine cl (impl_NameValid_ok a0.name _ hx28) ?_
        refine go ?_
        obtain ⟨x33, g7, H⟩ := bnd H
        refine aGd_cutN 3 30 33 (.bool x33) (gi q (fun q => ?_) (fun q => ?_)) (fun J => ?_)
        · refine go ?_
          exact cutd 30 g7
        · refine go ?_
          exact cutd 30 g7
        refine go ?_
        obtain ⟨x38, g9, H⟩ := bnd H
        refine aGd_cutN 3 35 38 (.bool x38) (gi q (fun q => ?_) (fun q => ?_)) (fun J => ?_)
        · rw [if_pos (dbt q)] at g9
          refine go ?_
          obtain ⟨x37, hx37, g9⟩ := bnd g9
          refine cl (impl_scopesOk_ok a0.sc _ hx37) ?_
          refine go ?_
          exact cutd 35 g9
        · rw [if_neg (dbf q)] at g9
          refine go ?_
          exact cutd 35 g9
        refine go ?_
        obtain ⟨x44, g11, H⟩ := bnd H
        refine aGd_cutN 4 40 44 (.bool x44) (gi q (fun q => ?_) (fun q => ?_)) (fun J => ?_)
        · refine go ?_
          exact cutd 40 g11
        · refine go ?_
          exact cutd 40 g11
        refine go ?_
        have e := pur H; subst e
        exact rg [.bool x44] ⟨_, rfl, hX, Fx.self _⟩
      · refine go ?_
        refine cdp H (fun h H => ?_) (fun h H => ?_)
        · refine go ?_
          obtain ⟨x54, g13, H⟩ := bnd H
          refine aGd_cutN 3 51 54 (.bool x54) (gi q (fun q => ?_) (fun q => ?_)) (fun J => ?_)
          · rw [if_pos (dt q)] at g13
            refine go ?_
            obtain ⟨x53, hx53, g13⟩ := bnd g13
            refine cl (impl_within_ok a0.num 0 999 _ hx53) ?_
            refine go ?_
            exact cutd 51 g13
          · rw [if_neg (df q)] at g13
            refine go ?_
            exact cutd 51 g13
          refine go ?_
          obtain ⟨x60, g15, H⟩ := bnd H
          refine aGd_cutN 4 56 60 (.bool x60) (gi q (fun q => ?_) (fun q => ?_)) (fun J => ?_)
          · refine go ?_
            exact cutd 56 g15
          · refine go ?_
            exact cutd 56 g15
          refine go ?_
          obtain ⟨x66, g17, H⟩ := bnd H
          refine aGd_cutN 4 62 66 (.bool x66) (gi q (fun q => ?_) (fun q => ?_)) (fun J => ?_)
          · refine go ?_
            exact cutd 62 g17
          · refine go ?_
            exact cutd 62 g17
          refine go ?_
          have e := pur H; subst e
          exact rg [.bool x66] ⟨_, rfl, hX, Fx.self _⟩
        · refine go ?_
          refine cdp H (fun h H => ?_) (fun h H => ?_)
          · refine go ?_
            obtain ⟨x76, g19, H⟩ := bnd H
            refine aGd_cutN 3 73 76 (.bool x76) (giN q (fun q => ?_) (fun q => ?_)) (fun J => ?_)
            · refine go ?_
              exact cutd 73 g19
            · refine go ?_
              exact cutd 73 g19
            refine go ?_
            obtain ⟨x82, g21, H⟩ := bnd H
            refine aGd_cutN 4 78 82 (.bool x82) (giN q (fun q => ?_) (fun q => ?_)) (fun J => ?_)
            · refine go ?_
              exact cutd 78 g21
            · refine go ?_
              exact cutd 78 g21
            refine go ?_
            refine cdb H (fun h H => ?_) (fun h H => ?_)
            · refine go ?_
              have e := pur H; subst e
              exact rg [.bool false] ⟨_, rfl, hX, Fx.self _⟩
            · refine go ?_
              obtain ⟨o29, ho29, H⟩ := bnd H
              refine L0 a0 a1 0 (IntKind.i64.wrap (c0 - 1)) _ ho29 _ rfl _ τ0 e0 b1 ?_ ?_ _ _ _  S hX hF
              · intro e30x_0_0 he T31 σ32 τ33 tT hX hF
                have he := he.symm
                subst he
                try dsimp only at H
                refine go ?_
                have e := pur H; subst e
                exact rg [.bool true] ⟨_, rfl, hX, Fx.self _⟩
              · intro r hr s' hs
                subst hr
                have e := pur H; subst e
                exact hsq hs
          · refine go ?_
            have e := pur H; subst e
            exact rg [.bool false] ⟨_, rfl, hX, Fx.self _⟩
  · intro impl_formOk impl_formOk_l0 C0 L0 a0 a1 z0t_86 z0x_0_0 out H c hc Q τ0 e0 b1 hE hR T σ τ tT hX hF
    obtain rfl := Option.some.inj ((rfl : loopAt Try.f36 0 = some _).symm.trans hc)
    refine aLoop_round ?_
    have q := dum
    refine go ?_
    refine cdp H (fun h H => ?_) (fun h H => ?_)
    · obtain ⟨x88, f1, H⟩ := bil (g := Fm.cells) Fm.cells_len H
      refine go1 ?_
      refine fx_alloc hF rfl fun b23 σ24 hF => ?_
      refine go ?_
      refine st hF 0 rfl fun σ25 hF => ?_
      refine go ?_
      obtain ⟨x94, hx94, H⟩ := bnd H
      refine cx (C0 x88 (IntKind.i64.wrap (a1 + 1)) z0x_0_0 _ hx94 e0  _ (pre 0 1 0 hF hX)) ?_
      rintro _ σ26 ⟨τ27, rfl, hT, hG⟩
      obtain ⟨τ28, hX, hF⟩ := aft 0 1 0 hF hX hT hG
      refine go ?_
      refine cdb H (fun h H => ?_) (fun h H => ?_)
      · refine go ?_
        exact wq (hR _ (pur H).symm _ (rg [.bool false] ⟨_, rfl, hX, Fx.self _⟩))
      · refine go ?_
        exact L0 a0 a1 (IntKind.i64.wrap (z0t_86 + 1)) x94.2 _ H _ rfl Q τ0 e0 b1 hE hR _ _ _  S hX (hF.drop 1 0)
    · refine go ?_
      exact wq (hE _ (pur H).symm _ _ _  S hX hF)
theorem impl_FormValid_ok : ∀ (a0 : Fm) r, impl_FormValid a0 = some r → PCtr Try.prog 19 [.agg (Fm.cells a0)] (.bool r) := by
  intro a0 r H
  intro σ
  unfold impl_FormValid at H
  refine hdg mixed Try.func19 (rs := [.tmp 2]) fun q tT => ?_
  have hF := Fx.refl σ
  have hX := Tau.none σ
  refine go ?_
  refine fx_alloc hF rfl fun b1 σ2 hF => ?_
  refine go ?_
  refine fx_alloc hF rfl fun b3 σ4 hF => ?_
  refine go ?_
  refine st hF 0 rfl fun σ5 hF => ?_
  refine go ?_
  obtain ⟨x5, hx5, H⟩ := bnd H
  refine cx (impl_formOk_ok a0 1 400 _ hx5 b3  _ (pre 1 0 0 hF hX)) ?_
  rintro _ σ6 ⟨τ7, rfl, hT, hG⟩
  have hF := aftP 1 0 hF hX hT hG
  refine go ?_
  have e := pur H; subst e
  exact rt [.bool x5.1]
theorem impl_dataValue_ok : ∀ (a0 : Fm) r, impl_dataValue a0 = some r → PCtr Try.prog 20 [.agg (Fm.cells a0)] (.agg (Val.cells r)) := by
  refine impl_dataValue.partial_correctness  (motive_1 := fun a0 r => PCtr Try.prog 20 [.agg (Fm.cells a0)] (.agg (Val.cells r))) (motive_2 := fun a0 z0o_0 z0t_22 out => ∀ c, loopAt Try.f20 0 = some c → ∀ (Q : AX → AS → Prop) (τ : Sto) (b1 : Nat) (b3 : Nat) (b7 : Nat), (∀ (e0o_0 : List Val), out = e0o_0 → ∀ (T : Nat → AV) (σ : Sto) (e0v0 : AV), T 2 = .ptr b3 0 ∧ T 3 = .ptr b7 0 → Fx τ σ [(b7, ⟨36, 16, [.int .i64 3, .int .i64 0, .str (ByteArray.mk #[]), e0v0, .int .i64 0, .int .i64 0, .str (ByteArray.mk #[]), .int .i64 0, .nilsl, .int .i64 0, .str (ByteArray.mk #[]), .int .i64 0, .nilsl, .nilsl, .nilsl, .nilsl]⟩), (b3, ⟨36, 16, [.int .i64 0, .int .i64 0, .str (ByteArray.mk #[]), .nilsl, .int .i64 0, .int .i64 0, .str (ByteArray.mk #[]), .int .i64 0, .nilsl, .int .i64 0, .str (ByteArray.mk #[]), .int .i64 0, .nilsl, .nilsl, .nilsl, .nilsl]⟩), (b1, ⟨30, 5, [.int .i64 a0.kind, .str a0.name, .int .i64 a0.num, .sl false (rws cI a0.sc), .sl false (rws Fm.cells a0.kids)]⟩)] [⟨e0v0, 36, 16, rws Val.cells e0o_0⟩] → Q (.ex 1) ⟨T, σ⟩) → True → ∀ (T : Nat → AV) (σ : Sto) (z0v0 : AV), T 2 = .ptr b3 0 ∧ T 3 = .ptr b7 0 ∧ T 20 = .sl false (rws Fm.cells a0.kids) ∧ T 21 = .int .i64 (a0.kids.length : Int) ∧ T 22 = .int .i64 z0t_22 → Fx τ σ [(b7, ⟨36, 16, [.int .i64 3, .int .i64 0, .str (ByteArray.mk #[]), z0v0, .int .i64 0, .int .i64 0, .str (ByteArray.mk #[]), .int .i64 0, .nilsl, .int .i64 0, .str (ByteArray.mk #[]), .int .i64 0, .nilsl, .nilsl, .nilsl, .nilsl]⟩), (b3, ⟨36, 16, [.int .i64 0, .int .i64 0, .str (ByteArray.mk #[]), .nilsl, .int .i64 0, .int .i64 0, .str (ByteArray.mk #[]), .int .i64 0, .nilsl, .int .i64 0, .str (ByteArray.mk #[]), .int .i64 0, .nilsl, .nilsl, .nilsl, .nilsl]⟩), (b1, ⟨30, 5, [.int .i64 a0.kind, .str a0.name, .int .i64 a0.num, .sl false (rws cI a0.sc), .sl false (rws Fm.cells a0.kids)]⟩)] [⟨z0v0, 36, 16, rws Val.cells z0o_0⟩] → aLp Try.prog c Q ⟨T, σ⟩) ?_ ?_
  · intro impl_dataValue_l0 L0 a0 r H
    intro σ
    refine hdg mixed Try.func20 (rs := [.cell 2 36]) fun q tT => ?_
    have hF := Fx.refl σ
    have hX := Tau.none σ
    refine go ?_
    refine fx_alloc hF rfl fun b1 σ2 hF => ?_
    refine go ?_
    refine fx_alloc hF rfl fun b3 σ4 hF => ?_
    refine go ?_
    refine cdp H (fun h H => ?_) (fun h H => ?_)
    · refine go ?_
      refine st hF 0 rfl fun σ5 hF => ?_
      refine go ?_
      have e := pur H; subst e
      exact rt [.agg [.int .i64 1, .int .i64 a0.num, .str (ByteArray.mk #[]), .nilsl, .int .i64 0, .int .i64 0, .str (ByteArray.mk #[]), .int .i64 0, .nilsl, .int .i64 0, .str (ByteArray.mk #[]), .int .i64 0, .nilsl, .nilsl, .nilsl, .nilsl]]
    · refine go ?_
      refine cdp H (fun h H => ?_) (fun h H => ?_)
      · refine go ?_
        refine st hF 0 rfl fun σ6 hF => ?_
        refine go ?_
        have e := pur H; subst e
        exact rt [.agg [.int .i64 2, .int .i64 0, .str a0.name, .nilsl, .int .i64 0, .int .i64 0, .str (ByteArray.mk #[]), .int .i64 0, .nilsl, .int .i64 0, .str (ByteArray.mk #[]), .int .i64 0, .nilsl, .nilsl, .nilsl, .nilsl]]
      · refine go ?_
        refine fx_alloc hF rfl fun b7 σ8 hF => ?_
        refine go ?_
        refine st hF 0 rfl fun σ9 hF => ?_
        have hF := hF.nil 36 16
        refine go ?_
        obtain ⟨o16, ho16, H⟩ := bnd H
        refine L0 a0 [] 0 _ ho16 _ rfl _ _ b1 b3 b7 ?_ ?_ _ _ .nilsl S hF
        · intro e17o_0 he T18 σ19 e17v0 tT hF
          have he := he.symm
          subst he
          refine go ?_
          refine st hF 1 rfl fun σ21 hF => ?_
          refine go ?_
          have e := pur H; subst e
          exact rt [.agg [.int .i64 3, .int .i64 0, .str (ByteArray.mk #[]), e17v0, .int .i64 0, .int .i64 0, .str (ByteArray.mk #[]), .int .i64 0, .nilsl, .int .i64 0, .str (ByteArray.mk #[]), .int .i64 0, .nilsl, .nilsl, .nilsl, .nilsl]]
        · trivial
  · intro impl_dataValue impl_dataValue_l0 C0 L0 a0 z0o_0 z0t_22 out H c hc Q τ b1 b3 b7 hE hR T σ z0v0 tT hF
    obtain rfl := Option.some.inj ((rfl : loopAt Try.f20 0 = some _).symm.trans hc)
    refine aLoop_round ?_
    have q := dum
    have hX := Tau.none τ
    refine go ?_
    refine cdp H (fun h H => ?_) (fun h H => ?_)
    · obtain ⟨x24, f1, H⟩ := bil (g := Fm.cells) Fm.cells_len H
      refine go1 ?_
      refine fx_alloc hF rfl fun b10 σ11 hF => ?_
      refine go ?_
      refine st hF 0 rfl fun σ12 hF => ?_
      refine go ?_
      refine draw_text E0 [.v, .v, .v, .v, .v, .x, .v, .z] (by kernel_rfl) ?_
      refine go ?_
      obtain ⟨x29, hx29, H⟩ := bnd H
      refine cv (C0 x24 _ hx29) ?_
      refine go ?_
      refine apdK (g := Val.cells) hF 0 H (rdo (c := true) (g := Val.cells) Val.cells_len) fun x31 H v13 σ14 hF => ?_
      refine go ?_
      refine st hF 1 (hF.cells 0 rfl) fun σ15 hF => ?_
      refine go ?_
      exact L0 a0 x31 (IntKind.i64.wrap (z0t_22 + 1)) _ H _ rfl Q τ b1 b3 b7 hE hR _ _ v13 S (hF.drop 1 0)
    · refine go ?_
      exact wq (hE _ (pur H).symm _ _ z0v0 S hF)
theorem impl_DataValue_ok : ∀ (a0 : Fm) r, impl_DataValue a0 = some r → PCtr Try.prog 7 [.agg (Fm.cells a0)] (.tup [.agg (Val.cells r.1), .bool r.2]) := by
  intro a0 r H
  intro σ
  unfold impl_DataValue at H
  refine hdg mixed Try.func7 (rs := [.cell 2 36, .tmp 3]) fun q tT => ?_
  have hF := Fx.refl σ
  have hX := Tau.none σ
  refine go ?_
  refine fx_alloc hF rfl fun b1 σ2 hF => ?_
  refine go ?_
  refine fx_alloc hF rfl fun b3 σ4 hF => ?_
  refine go ?_
  obtain ⟨x5, hx5, H⟩ := bnd H
  refine cl (impl_FormValid_ok a0 _ hx5) ?_
  refine go ?_
  refine cdb H (fun h H => ?_) (fun h H => ?_)
  · refine go ?_
    refine st hF 0 rfl fun σ5 hF => ?_
    refine go ?_
    have e := pur H; subst e
    exact rt [.agg [.int .i64 0, .int .i64 0, .str (ByteArray.mk #[]), .nilsl, .int .i64 0, .int .i64 0, .str (ByteArray.mk #[]), .int .i64 0, .nilsl, .int .i64 0, .str (ByteArray.mk #[]), .int .i64 0, .nilsl, .nilsl, .nilsl, .nilsl], .bool false]
  · refine go ?_
    obtain ⟨x9, hx9, H⟩ := bnd H
    refine cl (impl_dataValue_ok a0 _ hx9) ?_
    refine go ?_
    refine st hF 0 rfl fun σ6 hF => ?_
    refine go ?_
    have e := pur H; subst e
    exact rt [.agg [.int .i64 x9.kind, .int .i64 x9.num, .str x9.name, .sl false (rws Val.cells x9.items), .int .i64 x9.fn.kind, .int .i64 x9.fn.id, .str x9.fn.name, .int .i64 x9.fn.num, .sl false (rws cI x9.fn.ids), .int .i64 x9.fn.data.kind, .str x9.fn.data.name, .int .i64 x9.fn.data.num, .sl false (rws cI x9.fn.data.sc), .sl false (rws Fm.cells x9.fn.data.kids), .sl false (rws Cor.cells x9.fn.kids), .sl false (rws Slt.cells x9.env)], .bool true]
theorem laws_eqIntS_l0_ok : ∀ (a0 : List Int) (a1 : List Int) (z0t_5 : Int) out, laws_eqIntS_l0 a0 a1 z0t_5 = some out → ∀ c, loopAt Try.f24 0 = some c → ∀ (Q : AX → AS → Prop) (τ : Sto), (∀ (_u : Unit), out = Sum.inr () → ∀ (T : Nat → AV) (σ : Sto), 0 + 0 = 0 → Fx τ σ [] [] → Q (.ex 0) ⟨T, σ⟩) → (∀ r, out = Sum.inl r → ∀ s', aRet Try.prog [.tmp 4] (fun r' σ' => r' = .bool r ∧ σ' = τ) s' → Q .ret s') → ∀ (T : Nat → AV) (σ : Sto), T 0 = .sl false (rws cI a0) ∧ T 1 = .sl false (rws cI a1) ∧ T 5 = .int .i64 z0t_5 → Fx τ σ [] [] → aLp Try.prog c Q ⟨T, σ⟩ := by
  intro a0 a1 z0t_5
  revert z0t_5
  refine laws_eqIntS_l0.partial_correctness a0 a1 _ ?_
  intro laws_eqIntS_l0 IH z0t_5 out H c hc Q τ  hE hR T σ tT hF
  obtain rfl := Option.some.inj ((rfl : loopAt Try.f24 0 = some _).symm.trans hc)
  refine aLoop_round ?_
  have q := dum
  have hX := Tau.none τ
  refine go ?_
  refine cdp H (fun h H => ?_) (fun h H => ?_)
  · refine go ?_
    refine draw_text E0 [.v, .v, .v, .v, .v, .v, .v, .v, .v] (by kernel_rfl) ?_
    obtain ⟨x19, f1, H⟩ := bil (g := cI) (fun _ => rfl) H
    obtain ⟨x23, f2, H⟩ := bil (g := cI) (fun _ => rfl) H
    refine go2 ?_
    refine go ?_
    refine cdn H (fun h H => ?_) (fun h H => ?_)
    · refine go ?_
      exact wq (hR _ (pur H).symm _ (rt [.bool false]))
    · refine go ?_
      exact IH  (IntKind.i64.wrap (z0t_5 + 1)) _ H _ rfl Q τ  hE hR _ _  S hF
  · refine go ?_
    exact wq (hE () (pur H).symm _ _  S hF)
theorem laws_eqIntS_ok : ∀ (a0 : List Int) (a1 : List Int) r, laws_eqIntS a0 a1 = some r → PCtr Try.prog 24 [.sl false (rws cI a0), .sl false (rws cI a1)] (.bool r) := by
  intro a0 a1 r H
  intro σ
  unfold laws_eqIntS at H
  refine hdg mixed Try.func24 (rs := [.tmp 4]) fun q tT => ?_
  have hF := Fx.refl σ
  have hX := Tau.none σ
  refine go ?_
  refine cdn H (fun h H => ?_) (fun h H => ?_)
  · refine go ?_
    have e := pur H; subst e
    exact rt [.bool false]
  · refine go ?_
    obtain ⟨o1, ho1, H⟩ := bnd H
    refine laws_eqIntS_l0_ok a0 a1 0 _ ho1 _ rfl _ _  ?_ ?_ _ _  S hF
    · intro _ he T3 σ4 tT hF
      have he := he.symm
      subst he
      try dsimp only at H
      refine go ?_
      have e := pur H; subst e
      exact rt [.bool true]
    · intro r hr s' hs
      subst hr
      have e := pur H; subst e
      exact hsq hs
theorem laws_eqForm_all : (∀ (a0 : Fm) (a1 : Fm) r, laws_eqForm a0 a1 = some r → PCtr Try.prog 9 [.agg (Fm.cells a0), .agg (Fm.cells a1)] (.bool r)) ∧ (∀ (a0 : List Fm) (a1 : List Fm) r, laws_eqFormS a0 a1 = some r → PCtr Try.prog 25 [.sl false (rws Fm.cells a0), .sl false (rws Fm.cells a1)] (.bool r)) := by
  have h := laws_eqForm.mutual_partial_correctness  (motive_1 := fun a0 a1 r => PCtr Try.prog 9 [.agg (Fm.cells a0), .agg (Fm.cells a1)] (.bool r)) (motive_2 := fun a0 a1 r => PCtr Try.prog 25 [.sl false (rws Fm.cells a0), .sl false (rws Fm.cells a1)] (.bool r)) (motive_3 := fun a0 a1 z0t_5 out => ∀ c, loopAt Try.f25 0 = some c → ∀ (Q : AX → AS → Prop) (τ : Sto), (∀ (_u : Unit), out = Sum.inr () → ∀ (T : Nat → AV) (σ : Sto), 0 + 0 = 0 → Fx τ σ [] [] → Q (.ex 0) ⟨T, σ⟩) → (∀ r, out = Sum.inl r → ∀ s', aRet Try.prog [.tmp 4] (fun r' σ' => r' = .bool r ∧ σ' = τ) s' → Q .ret s') → ∀ (T : Nat → AV) (σ : Sto), T 0 = .sl false (rws Fm.cells a0) ∧ T 1 = .sl false (rws Fm.cells a1) ∧ T 5 = .int .i64 z0t_5 → Fx τ σ [] [] → aLp Try.prog c Q ⟨T, σ⟩) ?s0 ?s1 ?s2
  · exact ⟨h.1, h.2.1⟩
  · intro laws_eqFormS C1 a0 a1 r H
    intro σ
    refine hdg mixed Try.func9 (rs := [.tmp 4]) fun q tT => ?_
    have hF := Fx.refl σ
    have hX := Tau.none σ
    refine go ?_
    refine fx_alloc hF rfl fun b1 σ2 hF => ?_
    refine go ?_
    refine fx_alloc hF rfl fun b3 σ4 hF => ?_
    refine go ?_
    refine cdn H (fun h H => ?_) (fun h H => ?_)
    · refine go ?_
      have e := pur H; subst e
      exact rt [.bool false]
    · refine go ?_
      refine cdn H (fun h H => ?_) (fun h H => ?_)
      · refine go ?_
        have e := pur H; subst e
        exact rt [.bool false]
      · refine go ?_
        refine cdn H (fun h H => ?_) (fun h H => ?_)
        · refine go ?_
          have e := pur H; subst e
          exact rt [.bool false]
        · refine go ?_
          obtain ⟨x24, hx24, H⟩ := bnd H
          refine cl (laws_eqIntS_ok a0.sc a1.sc _ hx24) ?_
          refine go ?_
          refine cdb H (fun h H => ?_) (fun h H => ?_)
          · refine go ?_
            have e := pur H; subst e
            exact rt [.bool false]
          · refine go ?_
            obtain ⟨x30, hx30, H⟩ := bnd H
            refine cl (C1 a0.kids a1.kids _ hx30) ?_
            refine go ?_
            refine cdb H (fun h H => ?_) (fun h H => ?_)
            · refine go ?_
              have e := pur H; subst e
              exact rt [.bool false]
            · refine go ?_
              have e := pur H; subst e
              exact rt [.bool true]
  · intro laws_eqFormS_l0 L0 a0 a1 r H
    intro σ
    refine hdg mixed Try.func25 (rs := [.tmp 4]) fun q tT => ?_
    have hF := Fx.refl σ
    have hX := Tau.none σ
    refine go ?_
    refine cdn H (fun h H => ?_) (fun h H => ?_)
    · refine go ?_
      have e := pur H; subst e
      exact rt [.bool false]
    · refine go ?_
      obtain ⟨o1, ho1, H⟩ := bnd H
      refine L0 a0 a1 0 _ ho1 _ rfl _ _  ?_ ?_ _ _  S hF
      · intro _ he T3 σ4 tT hF
        have he := he.symm
        subst he
        try dsimp only at H
        refine go ?_
        have e := pur H; subst e
        exact rt [.bool true]
      · intro r hr s' hs
        subst hr
        have e := pur H; subst e
        exact hsq hs
  · intro laws_eqForm laws_eqFormS_l0 C0 L0 a0 a1 z0t_5 out H c hc Q τ  hE hR T σ tT hF
    obtain rfl := Option.some.inj ((rfl : loopAt Try.f25 0 = some _).symm.trans hc)
    refine aLoop_round ?_
    have q := dum
    have hX := Tau.none τ
    refine go ?_
    refine cdp H (fun h H => ?_) (fun h H => ?_)
    · refine go ?_
      refine draw_text E0 [.v, .v, .v, .v, .v, .v, .v, .v, .v, .v] (by kernel_rfl) ?_
      obtain ⟨x19, f1, H⟩ := bil (g := Fm.cells) Fm.cells_len H
      obtain ⟨x23, f2, H⟩ := bil (g := Fm.cells) Fm.cells_len H
      refine go2 ?_
      obtain ⟨x25, hx25, H⟩ := bnd H
      refine cv (C0 x19 x23 _ hx25) ?_
      refine go ?_
      refine cdb H (fun h H => ?_) (fun h H => ?_)
      · refine go ?_
        exact wq (hR _ (pur H).symm _ (rt [.bool false]))
      · refine go ?_
        exact L0 a0 a1 (IntKind.i64.wrap (z0t_5 + 1)) _ H _ rfl Q τ  hE hR _ _  S hF
    · refine go ?_
      exact wq (hE () (pur H).symm _ _  S hF)
theorem laws_eqForm_ok : ∀ (a0 : Fm) (a1 : Fm) r, laws_eqForm a0 a1 = some r → PCtr Try.prog 9 [.agg (Fm.cells a0), .agg (Fm.cells a1)] (.bool r) := laws_eqForm_all.1
theorem laws_eqCore_all : (∀ (a0 : Cor) (a1 : Cor) r, laws_eqCore a0 a1 = some r → PCtr Try.prog 22 [.agg (Cor.cells a0), .agg (Cor.cells a1)] (.bool r)) ∧ (∀ (a0 : List Cor) (a1 : List Cor) r, laws_eqCoreS a0 a1 = some r → PCtr Try.prog 37 [.sl false (rws Cor.cells a0), .sl false (rws Cor.cells a1)] (.bool r)) := by
  have h := laws_eqCore.mutual_partial_correctness  (motive_1 := fun a0 a1 r => PCtr Try.prog 22 [.agg (Cor.cells a0), .agg (Cor.cells a1)] (.bool r)) (motive_2 := fun a0 a1 r => PCtr Try.prog 37 [.sl false (rws Cor.cells a0), .sl false (rws Cor.cells a1)] (.bool r)) (motive_3 := fun a0 a1 z0t_5 out => ∀ c, loopAt Try.f37 0 = some c → ∀ (Q : AX → AS → Prop) (τ : Sto), (∀ (_u : Unit), out = Sum.inr () → ∀ (T : Nat → AV) (σ : Sto), 0 + 0 = 0 → Fx τ σ [] [] → Q (.ex 0) ⟨T, σ⟩) → (∀ r, out = Sum.inl r → ∀ s', aRet Try.prog [.tmp 4] (fun r' σ' => r' = .bool r ∧ σ' = τ) s' → Q .ret s') → ∀ (T : Nat → AV) (σ : Sto), T 0 = .sl false (rws Cor.cells a0) ∧ T 1 = .sl false (rws Cor.cells a1) ∧ T 5 = .int .i64 z0t_5 → Fx τ σ [] [] → aLp Try.prog c Q ⟨T, σ⟩) ?s0 ?s1 ?s2
  · exact ⟨h.1, h.2.1⟩
  · intro laws_eqCoreS C1 a0 a1 r H
    intro σ
    refine hdg mixed Try.func22 (rs := [.tmp 4]) fun q tT => ?_
    have hF := Fx.refl σ
    have hX := Tau.none σ
    refine go ?_
    refine fx_alloc hF rfl fun b1 σ2 hF => ?_
    refine go ?_
    refine fx_alloc hF rfl fun b3 σ4 hF => ?_
    refine go ?_
    refine cdn H (fun h H => ?_) (fun h H => ?_)
    · refine go ?_
      have e := pur H; subst e
      exact rt [.bool false]
    · refine go ?_
      refine cdn H (fun h H => ?_) (fun h H => ?_)
      · refine go ?_
        have e := pur H; subst e
        exact rt [.bool false]
      · refine go ?_
        refine cdn H (fun h H => ?_) (fun h H => ?_)
        · refine go ?_
          have e := pur H; subst e
          exact rt [.bool false]
        · refine go ?_
          refine cdn H (fun h H => ?_) (fun h H => ?_)
          · refine go ?_
            have e := pur H; subst e
            exact rt [.bool false]
          · refine go ?_
            obtain ⟨x29, hx29, H⟩ := bnd H
            refine cl (laws_eqIntS_ok a0.ids a1.ids _ hx29) ?_
            refine go ?_
            refine cdb H (fun h H => ?_) (fun h H => ?_)
            · refine go ?_
              have e := pur H; subst e
              exact rt [.bool false]
            · refine go ?_
              obtain ⟨x35, hx35, H⟩ := bnd H
              refine cl (laws_eqForm_ok a0.data a1.data _ hx35) ?_
              refine go ?_
              refine cdb H (fun h H => ?_) (fun h H => ?_)
              · refine go ?_
                have e := pur H; subst e
                exact rt [.bool false]
              · refine go ?_
                obtain ⟨x41, hx41, H⟩ := bnd H
                refine cl (C1 a0.kids a1.kids _ hx41) ?_
                refine go ?_
                refine cdb H (fun h H => ?_) (fun h H => ?_)
                · refine go ?_
                  have e := pur H; subst e
                  exact rt [.bool false]
                · refine go ?_
                  have e := pur H; subst e
                  exact rt [.bool true]
  · intro laws_eqCoreS_l0 L0 a0 a1 r H
    intro σ
    refine hdg mixed Try.func37 (rs := [.tmp 4]) fun q tT => ?_
    have hF := Fx.refl σ
    have hX := Tau.none σ
    refine go ?_
    refine cdn H (fun h H => ?_) (fun h H => ?_)
    · refine go ?_
      have e := pur H; subst e
      exact rt [.bool false]
    · refine go ?_
      obtain ⟨o1, ho1, H⟩ := bnd H
      refine L0 a0 a1 0 _ ho1 _ rfl _ _  ?_ ?_ _ _  S hF
      · intro _ he T3 σ4 tT hF
        have he := he.symm
        subst he
        try dsimp only at H
        refine go ?_
        have e := pur H; subst e
        exact rt [.bool true]
      · intro r hr s' hs
        subst hr
        have e := pur H; subst e
        exact hsq hs
  · intro laws_eqCore laws_eqCoreS_l0 C0 L0 a0 a1 z0t_5 out H c hc Q τ  hE hR T σ tT hF
    obtain rfl := Option.some.inj ((rfl : loopAt Try.f37 0 = some _).symm.trans hc)
    refine aLoop_round ?_
    have q := dum
    have hX := Tau.none τ
    refine go ?_
    refine cdp H (fun h H => ?_) (fun h H => ?_)
    · refine go ?_
      refine draw_text E0 [.v, .v, .v, .v, .v, .v, .v, .v, .v, .v] (by kernel_rfl) ?_
      obtain ⟨x19, f1, H⟩ := bil (g := Cor.cells) Cor.cells_len H
      obtain ⟨x23, f2, H⟩ := bil (g := Cor.cells) Cor.cells_len H
      refine go2 ?_
      obtain ⟨x25, hx25, H⟩ := bnd H
      refine cv (C0 x19 x23 _ hx25) ?_
      refine go ?_
      refine cdb H (fun h H => ?_) (fun h H => ?_)
      · refine go ?_
        exact wq (hR _ (pur H).symm _ (rt [.bool false]))
      · refine go ?_
        exact L0 a0 a1 (IntKind.i64.wrap (z0t_5 + 1)) _ H _ rfl Q τ  hE hR _ _  S hF
    · refine go ?_
      exact wq (hE () (pur H).symm _ _  S hF)
theorem laws_eqCore_ok : ∀ (a0 : Cor) (a1 : Cor) r, laws_eqCore a0 a1 = some r → PCtr Try.prog 22 [.agg (Cor.cells a0), .agg (Cor.cells a1)] (.bool r) := laws_eqCore_all.1
theorem laws_eqValue_all : (∀ (a0 : Val) (a1 : Val) r, laws_eqValue a0 a1 = some r → PCtr Try.prog 8 [.agg (Val.cells a0), .agg (Val.cells a1)] (.bool r)) ∧ (∀ (a0 : List Val) (a1 : List Val) r, laws_eqValueS a0 a1 = some r → PCtr Try.prog 21 [.sl false (rws Val.cells a0), .sl false (rws Val.cells a1)] (.bool r)) ∧ (∀ (a0 : List Slt) (a1 : List Slt) r, laws_eqSlotS a0 a1 = some r → PCtr Try.prog 23 [.sl false (rws Slt.cells a0), .sl false (rws Slt.cells a1)] (.bool r)) ∧ (∀ (a0 : Slt) (a1 : Slt) r, laws_eqSlot a0 a1 = some r → PCtr Try.prog 38 [.agg (Slt.cells a0), .agg (Slt.cells a1)] (.bool r)) := by
  have h := laws_eqValue.mutual_partial_correctness  (motive_1 := fun a0 a1 r => PCtr Try.prog 8 [.agg (Val.cells a0), .agg (Val.cells a1)] (.bool r)) (motive_2 := fun a0 a1 r => PCtr Try.prog 23 [.sl false (rws Slt.cells a0), .sl false (rws Slt.cells a1)] (.bool r)) (motive_3 := fun a0 a1 z0t_5 out => ∀ c, loopAt Try.f23 0 = some c → ∀ (Q : AX → AS → Prop) (τ : Sto), (∀ (_u : Unit), out = Sum.inr () → ∀ (T : Nat → AV) (σ : Sto), 0 + 0 = 0 → Fx τ σ [] [] → Q (.ex 0) ⟨T, σ⟩) → (∀ r, out = Sum.inl r → ∀ s', aRet Try.prog [.tmp 4] (fun r' σ' => r' = .bool r ∧ σ' = τ) s' → Q .ret s') → ∀ (T : Nat → AV) (σ : Sto), T 0 = .sl false (rws Slt.cells a0) ∧ T 1 = .sl false (rws Slt.cells a1) ∧ T 5 = .int .i64 z0t_5 → Fx τ σ [] [] → aLp Try.prog c Q ⟨T, σ⟩) (motive_4 := fun a0 a1 r => PCtr Try.prog 38 [.agg (Slt.cells a0), .agg (Slt.cells a1)] (.bool r)) (motive_5 := fun a0 a1 r => PCtr Try.prog 21 [.sl false (rws Val.cells a0), .sl false (rws Val.cells a1)] (.bool r)) (motive_6 := fun a0 a1 z0t_5 out => ∀ c, loopAt Try.f21 0 = some c → ∀ (Q : AX → AS → Prop) (τ : Sto), (∀ (_u : Unit), out = Sum.inr () → ∀ (T : Nat → AV) (σ : Sto), 0 + 0 = 0 → Fx τ σ [] [] → Q (.ex 0) ⟨T, σ⟩) → (∀ r, out = Sum.inl r → ∀ s', aRet Try.prog [.tmp 4] (fun r' σ' => r' = .bool r ∧ σ' = τ) s' → Q .ret s') → ∀ (T : Nat → AV) (σ : Sto), T 0 = .sl false (rws Val.cells a0) ∧ T 1 = .sl false (rws Val.cells a1) ∧ T 5 = .int .i64 z0t_5 → Fx τ σ [] [] → aLp Try.prog c Q ⟨T, σ⟩) ?s0 ?s1 ?s2 ?s3 ?s4 ?s5
  · exact ⟨h.1, h.2.2.2.2.1, h.2.1, h.2.2.2.1⟩
  · intro laws_eqSlotS laws_eqValueS C2 C1 a0 a1 r H
    intro σ
    refine hdg mixed Try.func8 (rs := [.tmp 4]) fun q tT => ?_
    have hF := Fx.refl σ
    have hX := Tau.none σ
    refine go ?_
    refine fx_alloc hF rfl fun b1 σ2 hF => ?_
    refine go ?_
    refine fx_alloc hF rfl fun b3 σ4 hF => ?_
    refine go ?_
    refine cdn H (fun h H => ?_) (fun h H => ?_)
    · refine go ?_
      have e := pur H; subst e
      exact rt [.bool false]
    · refine go ?_
      refine cdn H (fun h H => ?_) (fun h H => ?_)
      · refine go ?_
        have e := pur H; subst e
        exact rt [.bool false]
      · refine go ?_
        refine cdn H (fun h H => ?_) (fun h H => ?_)
        · refine go ?_
          have e := pur H; subst e
          exact rt [.bool false]
        · refine go ?_
          obtain ⟨x24, hx24, H⟩ := bnd H
          refine cl (C1 a0.items a1.items _ hx24) ?_
          refine go ?_
          refine cdb H (fun h H => ?_) (fun h H => ?_)
          · refine go ?_
            have e := pur H; subst e
            exact rt [.bool false]
          · refine go ?_
            obtain ⟨x30, hx30, H⟩ := bnd H
            refine cl (laws_eqCore_ok a0.fn a1.fn _ hx30) ?_
            refine go ?_
            refine cdb H (fun h H => ?_) (fun h H => ?_)
            · refine go ?_
              have e := pur H; subst e
              exact rt [.bool false]
            · refine go ?_
              obtain ⟨x36, hx36, H⟩ := bnd H
              refine cl (C2 a0.env a1.env _ hx36) ?_
              refine go ?_
              refine cdb H (fun h H => ?_) (fun h H => ?_)
              · refine go ?_
                have e := pur H; subst e
                exact rt [.bool false]
              · refine go ?_
                have e := pur H; subst e
                exact rt [.bool true]
  · intro laws_eqSlotS_l0 L1 a0 a1 r H
    intro σ
    refine hdg mixed Try.func23 (rs := [.tmp 4]) fun q tT => ?_
    have hF := Fx.refl σ
    have hX := Tau.none σ
    refine go ?_
    refine cdn H (fun h H => ?_) (fun h H => ?_)
    · refine go ?_
      have e := pur H; subst e
      exact rt [.bool false]
    · refine go ?_
      obtain ⟨o1, ho1, H⟩ := bnd H
      refine L1 a0 a1 0 _ ho1 _ rfl _ _  ?_ ?_ _ _  S hF
      · intro _ he T3 σ4 tT hF
        have he := he.symm
        subst he
        try dsimp only at H
        refine go ?_
        have e := pur H; subst e
        exact rt [.bool true]
      · intro r hr s' hs
        subst hr
        have e := pur H; subst e
        exact hsq hs
  · intro laws_eqSlotS_l0 laws_eqSlot L1 C3 a0 a1 z0t_5 out H c hc Q τ  hE hR T σ tT hF
    obtain rfl := Option.some.inj ((rfl : loopAt Try.f23 0 = some _).symm.trans hc)
    refine aLoop_round ?_
    have q := dum
    have hX := Tau.none τ
    refine go ?_
    refine cdp H (fun h H => ?_) (fun h H => ?_)
    · refine go ?_
      refine draw_text E0 [.v, .v, .v, .v, .v, .v, .v, .v, .v, .v] (by kernel_rfl) ?_
      obtain ⟨x19, f1, H⟩ := bil (g := Slt.cells) Slt.cells_len H
      obtain ⟨x23, f2, H⟩ := bil (g := Slt.cells) Slt.cells_len H
      refine go2 ?_
      obtain ⟨x25, hx25, H⟩ := bnd H
      refine cv (C3 x19 x23 _ hx25) ?_
      refine go ?_
      refine cdb H (fun h H => ?_) (fun h H => ?_)
      · refine go ?_
        exact wq (hR _ (pur H).symm _ (rt [.bool false]))
      · refine go ?_
        exact L1 a0 a1 (IntKind.i64.wrap (z0t_5 + 1)) _ H _ rfl Q τ  hE hR _ _  S hF
    · refine go ?_
      exact wq (hE () (pur H).symm _ _  S hF)
  · intro laws_eqValue C0 a0 a1 r H
    intro σ
    refine hdg mixed Try.func38 (rs := [.tmp 4]) fun q tT => ?_
    have hF := Fx.refl σ
    have hX := Tau.none σ
    refine go ?_
    refine fx_alloc hF rfl fun b1 σ2 hF => ?_
    refine go ?_
    refine fx_alloc hF rfl fun b3 σ4 hF => ?_
    refine go ?_
    refine cdn H (fun h H => ?_) (fun h H => ?_)
    · refine go ?_
      have e := pur H; subst e
      exact rt [.bool false]
    · refine go ?_
      obtain ⟨x14, hx14, H⟩ := bnd H
      refine cl (C0 a0.val a1.val _ hx14) ?_
      refine go ?_
      refine cdb H (fun h H => ?_) (fun h H => ?_)
      · refine go ?_
        have e := pur H; subst e
        exact rt [.bool false]
      · refine go ?_
        have e := pur H; subst e
        exact rt [.bool true]
  · intro laws_eqValueS_l0 L0 a0 a1 r H
    intro σ
    refine hdg mixed Try.func21 (rs := [.tmp 4]) fun q tT => ?_
    have hF := Fx.refl σ
    have hX := Tau.none σ
    refine go ?_
    refine cdn H (fun h H => ?_) (fun h H => ?_)
    · refine go ?_
      have e := pur H; subst e
      exact rt [.bool false]
    · refine go ?_
      obtain ⟨o1, ho1, H⟩ := bnd H
      refine L0 a0 a1 0 _ ho1 _ rfl _ _  ?_ ?_ _ _  S hF
      · intro _ he T3 σ4 tT hF
        have he := he.symm
        subst he
        try dsimp only at H
        refine go ?_
        have e := pur H; subst e
        exact rt [.bool true]
      · intro r hr s' hs
        subst hr
        have e := pur H; subst e
        exact hsq hs
  · intro laws_eqValue laws_eqValueS_l0 C0 L0 a0 a1 z0t_5 out H c hc Q τ  hE hR T σ tT hF
    obtain rfl := Option.some.inj ((rfl : loopAt Try.f21 0 = some _).symm.trans hc)
    refine aLoop_round ?_
    have q := dum
    have hX := Tau.none τ
    refine go ?_
    refine cdp H (fun h H => ?_) (fun h H => ?_)
    · refine go ?_
      refine draw_text E0 [.v, .v, .v, .v, .v, .v, .v, .v, .v, .v] (by kernel_rfl) ?_
      obtain ⟨x19, f1, H⟩ := bil (g := Val.cells) Val.cells_len H
      obtain ⟨x23, f2, H⟩ := bil (g := Val.cells) Val.cells_len H
      refine go2 ?_
      obtain ⟨x25, hx25, H⟩ := bnd H
      refine cv (C0 x19 x23 _ hx25) ?_
      refine go ?_
      refine cdb H (fun h H => ?_) (fun h H => ?_)
      · refine go ?_
        exact wq (hR _ (pur H).symm _ (rt [.bool false]))
      · refine go ?_
        exact L0 a0 a1 (IntKind.i64.wrap (z0t_5 + 1)) _ H _ rfl Q τ  hE hR _ _  S hF
    · refine go ?_
      exact wq (hE () (pur H).symm _ _  S hF)
theorem laws_eqValue_ok : ∀ (a0 : Val) (a1 : Val) r, laws_eqValue a0 a1 = some r → PCtr Try.prog 8 [.agg (Val.cells a0), .agg (Val.cells a1)] (.bool r) := laws_eqValue_all.1
theorem laws_markText_l0_ok : ∀ (z0t_0 : Int) (z0t_3 : ByteArray) out, laws_markText_l0 z0t_0 z0t_3 = some out → ∀ c, loopAt Try.f39 0 = some c → ∀ (Q : AX → AS → Prop) (τ : Sto), (∀ (e0t_3 : ByteArray), out = e0t_3 → ∀ (T : Nat → AV) (σ : Sto), T 3 = .str e0t_3 → Fx τ σ [] [] → Q (.ex 0) ⟨T, σ⟩) → True → ∀ (T : Nat → AV) (σ : Sto), T 0 = .int .i64 z0t_0 ∧ T 3 = .str z0t_3 → Fx τ σ [] [] → aLp Try.prog c Q ⟨T, σ⟩ := by
  refine laws_markText_l0.partial_correctness  _ ?_
  intro laws_markText_l0 IH z0t_0 z0t_3 out H c hc Q τ  hE hR T σ tT hF
  obtain rfl := Option.some.inj ((rfl : loopAt Try.f39 0 = some _).symm.trans hc)
  refine aLoop_round ?_
  have q := dum
  have hX := Tau.none τ
  refine go ?_
  refine cdp H (fun h H => ?_) (fun h H => ?_)
  · obtain ⟨x15, f1, H⟩ := bsc H
    refine go1 ?_
    refine go ?_
    exact IH  (IntKind.i64.wrap (z0t_0.tdiv 10)) x15 _ H _ rfl Q τ  hE hR _ _  S hF
  · refine go ?_
    exact wq (hE _ (pur H).symm _ _  S hF)
theorem laws_markText_ok : ∀ (a0 : Int) r, laws_markText a0 = some r → PCtr Try.prog 39 [.int .i64 a0] (.str r) := by
  intro a0 r H
  intro σ
  unfold laws_markText at H
  refine hdg mixed Try.func39 (rs := [.tmp 2]) fun q tT => ?_
  have hF := Fx.refl σ
  have hX := Tau.none σ
  refine go ?_
  refine cdp H (fun h H => ?_) (fun h H => ?_)
  · refine go ?_
    have e := pur H; subst e
    exact rt [.str (ByteArray.mk #[109, 48])]
  · refine go ?_
    obtain ⟨o1, ho1, H⟩ := bnd H
    refine laws_markText_l0_ok  a0 (ByteArray.mk #[]) _ ho1 _ rfl _ _  ?_ ?_ _ _  S hF
    · intro e2t_3 he T3 σ4 tT hF
      have he := he.symm
      subst he
      obtain ⟨x19, f1, H⟩ := bsc H
      refine go1 ?_
      refine go ?_
      have e := pur H; subst e
      exact rt [.str x19]
    · trivial
theorem laws_heldIntS_l0_ok : ∀ (a0 : List Int) (z0t_1 : Int) (z0t_5 : Int) out, laws_heldIntS_l0 a0 z0t_1 z0t_5 = some out → ∀ c, loopAt Try.f41 0 = some c → ∀ (Q : AX → AS → Prop) (τ : Sto), (∀ (e0t_1 : Int), out = Sum.inr e0t_1 → ∀ (T : Nat → AV) (σ : Sto), T 1 = .int .i64 e0t_1 → Fx τ σ [] [] → Q (.ex 0) ⟨T, σ⟩) → (∀ r, out = Sum.inl r → ∀ s', aRet Try.prog [.tmp 4] (fun r' σ' => r' = .int .i64 r ∧ σ' = τ) s' → Q .ret s') → ∀ (T : Nat → AV) (σ : Sto), T 0 = .sl false (rws cI a0) ∧ T 1 = .int .i64 z0t_1 ∧ T 5 = .int .i64 z0t_5 → Fx τ σ [] [] → aLp Try.prog c Q ⟨T, σ⟩ := by
  intro a0 z0t_1 z0t_5
  revert z0t_1 z0t_5
  refine laws_heldIntS_l0.partial_correctness a0 _ ?_
  intro laws_heldIntS_l0 IH z0t_1 z0t_5 out H c hc Q τ  hE hR T σ tT hF
  obtain rfl := Option.some.inj ((rfl : loopAt Try.f41 0 = some _).symm.trans hc)
  refine aLoop_round ?_
  have q := dum
  have hX := Tau.none τ
  refine go ?_
  refine cdp H (fun h H => ?_) (fun h H => ?_)
  · obtain ⟨x14, f1, H⟩ := bil (g := cI) (fun _ => rfl) H
    refine go1 ?_
    refine go ?_
    refine cdn H (fun h H => ?_) (fun h H => ?_)
    · refine go ?_
      exact wq (hR _ (pur H).symm _ (rt [.int .i64 (-1)]))
    · refine go ?_
      exact IH  (IntKind.i64.wrap (z0t_1 + 1)) (IntKind.i64.wrap (z0t_5 + 1)) _ H _ rfl Q τ  hE hR _ _  S hF
  · refine go ?_
    exact wq (hE _ (pur H).symm _ _  S hF)
theorem laws_heldIntS_ok : ∀ (a0 : List Int) (a1 : Int) r, laws_heldIntS a0 a1 = some r → PCtr Try.prog 41 [.sl false (rws cI a0), .int .i64 a1] (.int .i64 r) := by
  intro a0 a1 r H
  intro σ
  unfold laws_heldIntS at H
  refine hdg mixed Try.func41 (rs := [.tmp 4]) fun q tT => ?_
  have hF := Fx.refl σ
  have hX := Tau.none σ
  refine go ?_
  obtain ⟨o1, ho1, H⟩ := bnd H
  refine laws_heldIntS_l0_ok a0 a1 0 _ ho1 _ rfl _ _  ?_ ?_ _ _  S hF
  · intro e2t_1 he T3 σ4 tT hF
    have he := he.symm
    subst he
    try dsimp only at H
    refine go ?_
    have e := pur H; subst e
    exact rt [.int .i64 e2t_1]
  · intro r hr s' hs
    subst hr
    have e := pur H; subst e
    exact hsq hs
theorem laws_heldFormS_ok : ∀ (a0 : List Fm) (a1 : Int) r, laws_heldFormS a0 a1 = some r → PCtr Try.prog 42 [.sl false (rws Fm.cells a0), .int .i64 a1] (.int .i64 r) := by
  refine laws_heldFormS.partial_correctness  (motive_1 := fun a0 a1 r => PCtr Try.prog 42 [.sl false (rws Fm.cells a0), .int .i64 a1] (.int .i64 r)) (motive_2 := fun a0 z0t_1 z0t_5 out => ∀ c, loopAt Try.f42 0 = some c → ∀ (Q : AX → AS → Prop) (τ : Sto), (∀ (e0t_1 : Int), out = Sum.inr e0t_1 → ∀ (T : Nat → AV) (σ : Sto), T 1 = .int .i64 e0t_1 → Fx τ σ [] [] → Q (.ex 0) ⟨T, σ⟩) → (∀ r, out = Sum.inl r → ∀ s', aRet Try.prog [.tmp 4] (fun r' σ' => r' = .int .i64 r ∧ σ' = τ) s' → Q .ret s') → ∀ (T : Nat → AV) (σ : Sto), T 0 = .sl false (rws Fm.cells a0) ∧ T 1 = .int .i64 z0t_1 ∧ T 5 = .int .i64 z0t_5 → Fx τ σ [] [] → aLp Try.prog c Q ⟨T, σ⟩) ?_ ?_
  · intro laws_heldFormS_l0 L0 a0 a1 r H
    intro σ
    refine hdg mixed Try.func42 (rs := [.tmp 4]) fun q tT => ?_
    have hF := Fx.refl σ
    have hX := Tau.none σ
    refine go ?_
    obtain ⟨o1, ho1, H⟩ := bnd H
    refine L0 a0 a1 0 _ ho1 _ rfl _ _  ?_ ?_ _ _  S hF
    · intro e2t_1 he T3 σ4 tT hF
      have he := he.symm
      subst he
      try dsimp only at H
      refine go ?_
      have e := pur H; subst e
      exact rt [.int .i64 e2t_1]
    · intro r hr s' hs
      subst hr
      have e := pur H; subst e
      exact hsq hs
  · intro laws_heldFormS laws_heldFormS_l0 C0 L0 a0 z0t_1 z0t_5 out H c hc Q τ  hE hR T σ tT hF
    obtain rfl := Option.some.inj ((rfl : loopAt Try.f42 0 = some _).symm.trans hc)
    refine aLoop_round ?_
    have q := dum
    have hX := Tau.none τ
    refine go ?_
    refine cdp H (fun h H => ?_) (fun h H => ?_)
    · obtain ⟨x14, f1, H⟩ := bil (g := Fm.cells) Fm.cells_len H
      refine go1 ?_
      refine go ?_
      refine cdn H (fun h H => ?_) (fun h H => ?_)
      · refine go ?_
        exact wq (hR _ (pur H).symm _ (rt [.int .i64 (-1)]))
      · refine go ?_
        refine draw_text E0 [.v, .v, .v, .v, .v, .v, .v, .v] (by kernel_rfl) ?_
        obtain ⟨x23, f1, H⟩ := bil (g := Fm.cells) Fm.cells_len H
        refine go1 ?_
        obtain ⟨x27, hx27, H⟩ := bnd H
        refine cv (laws_markText_ok (IntKind.i64.wrap (z0t_1 + 1)) _ hx27) ?_
        refine go ?_
        refine cdn H (fun h H => ?_) (fun h H => ?_)
        · refine go ?_
          exact wq (hR _ (pur H).symm _ (rt [.int .i64 (-1)]))
        · obtain ⟨x33, f1, H⟩ := bil (g := Fm.cells) Fm.cells_len H
          refine go1 ?_
          refine go ?_
          refine cdn H (fun h H => ?_) (fun h H => ?_)
          · refine go ?_
            exact wq (hR _ (pur H).symm _ (rt [.int .i64 (-1)]))
          · obtain ⟨x42, f1, H⟩ := bil (g := Fm.cells) Fm.cells_len H
            refine go1 ?_
            obtain ⟨x46, hx46, H⟩ := bnd H
            refine cl (laws_heldIntS_ok x42.sc (IntKind.i64.wrap ((IntKind.i64.wrap ((IntKind.i64.wrap (z0t_1 + 1)) + 1)) + 1)) _ hx46) ?_
            refine go ?_
            refine cdp H (fun h H => ?_) (fun h H => ?_)
            · refine go ?_
              exact wq (hR _ (pur H).symm _ (rt [.int .i64 (-1)]))
            · obtain ⟨x51, f1, H⟩ := bil (g := Fm.cells) Fm.cells_len H
              refine go1 ?_
              obtain ⟨x55, hx55, H⟩ := bnd H
              refine cl (C0 x51.kids x46 _ hx55) ?_
              refine go ?_
              refine cdp H (fun h H => ?_) (fun h H => ?_)
              · refine go ?_
                exact wq (hR _ (pur H).symm _ (rt [.int .i64 (-1)]))
              · refine go ?_
                exact L0 a0 x55 (IntKind.i64.wrap (z0t_5 + 1)) _ H _ rfl Q τ  hE hR _ _  S hF
    · refine go ?_
      exact wq (hE _ (pur H).symm _ _  S hF)
theorem laws_heldCoreS_ok : ∀ (a0 : List Cor) (a1 : Int) r, laws_heldCoreS a0 a1 = some r → PCtr Try.prog 43 [.sl false (rws Cor.cells a0), .int .i64 a1] (.int .i64 r) := by
  refine laws_heldCoreS.partial_correctness  (motive_1 := fun a0 a1 r => PCtr Try.prog 43 [.sl false (rws Cor.cells a0), .int .i64 a1] (.int .i64 r)) (motive_2 := fun a0 z0t_1 z0t_5 out => ∀ c, loopAt Try.f43 0 = some c → ∀ (Q : AX → AS → Prop) (τ : Sto), (∀ (e0t_1 : Int), out = Sum.inr e0t_1 → ∀ (T : Nat → AV) (σ : Sto), T 1 = .int .i64 e0t_1 → Fx τ σ [] [] → Q (.ex 0) ⟨T, σ⟩) → (∀ r, out = Sum.inl r → ∀ s', aRet Try.prog [.tmp 4] (fun r' σ' => r' = .int .i64 r ∧ σ' = τ) s' → Q .ret s') → ∀ (T : Nat → AV) (σ : Sto), T 0 = .sl false (rws Cor.cells a0) ∧ T 1 = .int .i64 z0t_1 ∧ T 5 = .int .i64 z0t_5 → Fx τ σ [] [] → aLp Try.prog c Q ⟨T, σ⟩) ?_ ?_
  · intro laws_heldCoreS_l0 L0 a0 a1 r H
    intro σ
    refine hdg mixed Try.func43 (rs := [.tmp 4]) fun q tT => ?_
    have hF := Fx.refl σ
    have hX := Tau.none σ
    refine go ?_
    obtain ⟨o1, ho1, H⟩ := bnd H
    refine L0 a0 a1 0 _ ho1 _ rfl _ _  ?_ ?_ _ _  S hF
    · intro e2t_1 he T3 σ4 tT hF
      have he := he.symm
      subst he
      try dsimp only at H
      refine go ?_
      have e := pur H; subst e
      exact rt [.int .i64 e2t_1]
    · intro r hr s' hs
      subst hr
      have e := pur H; subst e
      exact hsq hs
  · intro laws_heldCoreS laws_heldCoreS_l0 C0 L0 a0 z0t_1 z0t_5 out H c hc Q τ  hE hR T σ tT hF
    obtain rfl := Option.some.inj ((rfl : loopAt Try.f43 0 = some _).symm.trans hc)
    refine aLoop_round ?_
    have q := dum
    have hX := Tau.none τ
    refine go ?_
    refine cdp H (fun h H => ?_) (fun h H => ?_)
    · obtain ⟨x14, f1, H⟩ := bil (g := Cor.cells) Cor.cells_len H
      refine go1 ?_
      refine go ?_
      refine cdn H (fun h H => ?_) (fun h H => ?_)
      · refine go ?_
        exact wq (hR _ (pur H).symm _ (rt [.int .i64 (-1)]))
      · obtain ⟨x23, f1, H⟩ := bil (g := Cor.cells) Cor.cells_len H
        refine go1 ?_
        refine go ?_
        refine cdn H (fun h H => ?_) (fun h H => ?_)
        · refine go ?_
          exact wq (hR _ (pur H).symm _ (rt [.int .i64 (-1)]))
        · refine go ?_
          refine draw_text E0 [.v, .v, .v, .v, .v, .v, .v, .v] (by kernel_rfl) ?_
          obtain ⟨x32, f1, H⟩ := bil (g := Cor.cells) Cor.cells_len H
          refine go1 ?_
          obtain ⟨x36, hx36, H⟩ := bnd H
          refine cv (laws_markText_ok (IntKind.i64.wrap ((IntKind.i64.wrap (z0t_1 + 1)) + 1)) _ hx36) ?_
          refine go ?_
          refine cdn H (fun h H => ?_) (fun h H => ?_)
          · refine go ?_
            exact wq (hR _ (pur H).symm _ (rt [.int .i64 (-1)]))
          · obtain ⟨x42, f1, H⟩ := bil (g := Cor.cells) Cor.cells_len H
            refine go1 ?_
            refine go ?_
            refine cdn H (fun h H => ?_) (fun h H => ?_)
            · refine go ?_
              exact wq (hR _ (pur H).symm _ (rt [.int .i64 (-1)]))
            · obtain ⟨x51, f1, H⟩ := bil (g := Cor.cells) Cor.cells_len H
              refine go1 ?_
              obtain ⟨x55, hx55, H⟩ := bnd H
              refine cl (laws_heldIntS_ok x51.ids (IntKind.i64.wrap ((IntKind.i64.wrap ((IntKind.i64.wrap ((IntKind.i64.wrap (z0t_1 + 1)) + 1)) + 1)) + 1)) _ hx55) ?_
              refine go ?_
              refine cdp H (fun h H => ?_) (fun h H => ?_)
              · refine go ?_
                exact wq (hR _ (pur H).symm _ (rt [.int .i64 (-1)]))
              · obtain ⟨x60, f1, H⟩ := bil (g := Cor.cells) Cor.cells_len H
                refine go1 ?_
                refine go ?_
                refine cdn H (fun h H => ?_) (fun h H => ?_)
                · refine go ?_
                  exact wq (hR _ (pur H).symm _ (rt [.int .i64 (-1)]))
                · refine go ?_
                  refine draw_text E0 [.v, .v, .v, .v, .v, .v, .v, .v, .v] (by kernel_rfl) ?_
                  obtain ⟨x70, f1, H⟩ := bil (g := Cor.cells) Cor.cells_len H
                  refine go1 ?_
                  obtain ⟨x75, hx75, H⟩ := bnd H
                  refine cv (laws_markText_ok (IntKind.i64.wrap (x55 + 1)) _ hx75) ?_
                  refine go ?_
                  refine cdn H (fun h H => ?_) (fun h H => ?_)
                  · refine go ?_
                    exact wq (hR _ (pur H).symm _ (rt [.int .i64 (-1)]))
                  · obtain ⟨x81, f1, H⟩ := bil (g := Cor.cells) Cor.cells_len H
                    refine go1 ?_
                    refine go ?_
                    refine cdn H (fun h H => ?_) (fun h H => ?_)
                    · refine go ?_
                      exact wq (hR _ (pur H).symm _ (rt [.int .i64 (-1)]))
                    · obtain ⟨x91, f1, H⟩ := bil (g := Cor.cells) Cor.cells_len H
                      refine go1 ?_
                      obtain ⟨x96, hx96, H⟩ := bnd H
                      refine cl (laws_heldIntS_ok x91.data.sc (IntKind.i64.wrap ((IntKind.i64.wrap ((IntKind.i64.wrap (x55 + 1)) + 1)) + 1)) _ hx96) ?_
                      refine go ?_
                      refine cdp H (fun h H => ?_) (fun h H => ?_)
                      · refine go ?_
                        exact wq (hR _ (pur H).symm _ (rt [.int .i64 (-1)]))
                      · obtain ⟨x101, f1, H⟩ := bil (g := Cor.cells) Cor.cells_len H
                        refine go1 ?_
                        obtain ⟨x106, hx106, H⟩ := bnd H
                        refine cl (laws_heldFormS_ok x101.data.kids x96 _ hx106) ?_
                        refine go ?_
                        refine cdp H (fun h H => ?_) (fun h H => ?_)
                        · refine go ?_
                          exact wq (hR _ (pur H).symm _ (rt [.int .i64 (-1)]))
                        · obtain ⟨x111, f1, H⟩ := bil (g := Cor.cells) Cor.cells_len H
                          refine go1 ?_
                          obtain ⟨x115, hx115, H⟩ := bnd H
                          refine cl (C0 x111.kids x106 _ hx115) ?_
                          refine go ?_
                          refine cdp H (fun h H => ?_) (fun h H => ?_)
                          · refine go ?_
                            exact wq (hR _ (pur H).symm _ (rt [.int .i64 (-1)]))
                          · refine go ?_
                            exact L0 a0 x115 (IntKind.i64.wrap (z0t_5 + 1)) _ H _ rfl Q τ  hE hR _ _  S hF
    · refine go ?_
      exact wq (hE _ (pur H).symm _ _  S hF)
theorem laws_heldValueS_all : (∀ (a0 : List Val) (a1 : Int) r, laws_heldValueS a0 a1 = some r → PCtr Try.prog 31 [.sl false (rws Val.cells a0), .int .i64 a1] (.int .i64 r)) ∧ (∀ (a0 : List Slt) (a1 : Int) r, laws_heldSlotS a0 a1 = some r → PCtr Try.prog 33 [.sl false (rws Slt.cells a0), .int .i64 a1] (.int .i64 r)) := by
  have h := laws_heldValueS.mutual_partial_correctness  (motive_1 := fun a0 a1 r => PCtr Try.prog 31 [.sl false (rws Val.cells a0), .int .i64 a1] (.int .i64 r)) (motive_2 := fun a0 z0t_1 z0t_5 out => ∀ c, loopAt Try.f31 0 = some c → ∀ (Q : AX → AS → Prop) (τ : Sto), (∀ (e0t_1 : Int), out = Sum.inr e0t_1 → ∀ (T : Nat → AV) (σ : Sto), T 1 = .int .i64 e0t_1 → Fx τ σ [] [] → Q (.ex 0) ⟨T, σ⟩) → (∀ r, out = Sum.inl r → ∀ s', aRet Try.prog [.tmp 4] (fun r' σ' => r' = .int .i64 r ∧ σ' = τ) s' → Q .ret s') → ∀ (T : Nat → AV) (σ : Sto), T 0 = .sl false (rws Val.cells a0) ∧ T 1 = .int .i64 z0t_1 ∧ T 5 = .int .i64 z0t_5 → Fx τ σ [] [] → aLp Try.prog c Q ⟨T, σ⟩) (motive_3 := fun a0 a1 r => PCtr Try.prog 33 [.sl false (rws Slt.cells a0), .int .i64 a1] (.int .i64 r)) (motive_4 := fun a0 z0t_1 z0t_5 out => ∀ c, loopAt Try.f33 0 = some c → ∀ (Q : AX → AS → Prop) (τ : Sto), (∀ (e0t_1 : Int), out = Sum.inr e0t_1 → ∀ (T : Nat → AV) (σ : Sto), T 1 = .int .i64 e0t_1 → Fx τ σ [] [] → Q (.ex 0) ⟨T, σ⟩) → (∀ r, out = Sum.inl r → ∀ s', aRet Try.prog [.tmp 4] (fun r' σ' => r' = .int .i64 r ∧ σ' = τ) s' → Q .ret s') → ∀ (T : Nat → AV) (σ : Sto), T 0 = .sl false (rws Slt.cells a0) ∧ T 1 = .int .i64 z0t_1 ∧ T 5 = .int .i64 z0t_5 → Fx τ σ [] [] → aLp Try.prog c Q ⟨T, σ⟩) ?s0 ?s1 ?s2 ?s3
  · exact ⟨h.1, h.2.2.1⟩
  · intro laws_heldValueS_l0 L0 a0 a1 r H
    intro σ
    refine hdg mixed Try.func31 (rs := [.tmp 4]) fun q tT => ?_
    have hF := Fx.refl σ
    have hX := Tau.none σ
    refine go ?_
    obtain ⟨o1, ho1, H⟩ := bnd H
    refine L0 a0 a1 0 _ ho1 _ rfl _ _  ?_ ?_ _ _  S hF
    · intro e2t_1 he T3 σ4 tT hF
      have he := he.symm
      subst he
      try dsimp only at H
      refine go ?_
      have e := pur H; subst e
      exact rt [.int .i64 e2t_1]
    · intro r hr s' hs
      subst hr
      have e := pur H; subst e
      exact hsq hs
  · intro laws_heldValueS laws_heldValueS_l0 laws_heldSlotS C0 L0 C1 a0 z0t_1 z0t_5 out H c hc Q τ  hE hR T σ tT hF
    obtain rfl := Option.some.inj ((rfl : loopAt Try.f31 0 = some _).symm.trans hc)
    refine aLoop_round ?_
    have q := dum
    have hX := Tau.none τ
    refine go ?_
    refine cdp H (fun h H => ?_) (fun h H => ?_)
    · obtain ⟨x14, f1, H⟩ := bil (g := Val.cells) Val.cells_len H
      refine go1 ?_
      refine go ?_
      refine cdn H (fun h H => ?_) (fun h H => ?_)
      · refine go ?_
        exact wq (hR _ (pur H).symm _ (rt [.int .i64 (-1)]))
      · obtain ⟨x23, f1, H⟩ := bil (g := Val.cells) Val.cells_len H
        refine go1 ?_
        refine go ?_
        refine cdn H (fun h H => ?_) (fun h H => ?_)
        · refine go ?_
          exact wq (hR _ (pur H).symm _ (rt [.int .i64 (-1)]))
        · refine go ?_
          refine draw_text E0 [.v, .v, .v, .v, .v, .v, .v, .v] (by kernel_rfl) ?_
          obtain ⟨x32, f1, H⟩ := bil (g := Val.cells) Val.cells_len H
          refine go1 ?_
          obtain ⟨x36, hx36, H⟩ := bnd H
          refine cv (laws_markText_ok (IntKind.i64.wrap ((IntKind.i64.wrap (z0t_1 + 1)) + 1)) _ hx36) ?_
          refine go ?_
          refine cdn H (fun h H => ?_) (fun h H => ?_)
          · refine go ?_
            exact wq (hR _ (pur H).symm _ (rt [.int .i64 (-1)]))
          · obtain ⟨x42, f1, H⟩ := bil (g := Val.cells) Val.cells_len H
            refine go1 ?_
            obtain ⟨x46, hx46, H⟩ := bnd H
            refine cl (C0 x42.items (IntKind.i64.wrap ((IntKind.i64.wrap ((IntKind.i64.wrap (z0t_1 + 1)) + 1)) + 1)) _ hx46) ?_
            refine go ?_
            refine cdp H (fun h H => ?_) (fun h H => ?_)
            · refine go ?_
              exact wq (hR _ (pur H).symm _ (rt [.int .i64 (-1)]))
            · obtain ⟨x51, f1, H⟩ := bil (g := Val.cells) Val.cells_len H
              refine go1 ?_
              refine go ?_
              refine cdn H (fun h H => ?_) (fun h H => ?_)
              · refine go ?_
                exact wq (hR _ (pur H).symm _ (rt [.int .i64 (-1)]))
              · obtain ⟨x61, f1, H⟩ := bil (g := Val.cells) Val.cells_len H
                refine go1 ?_
                refine go ?_
                refine cdn H (fun h H => ?_) (fun h H => ?_)
                · refine go ?_
                  exact wq (hR _ (pur H).symm _ (rt [.int .i64 (-1)]))
                · refine go ?_
                  refine draw_text E0 [.v, .v, .v, .v, .v, .v, .v, .v, .v] (by kernel_rfl) ?_
                  obtain ⟨x71, f1, H⟩ := bil (g := Val.cells) Val.cells_len H
                  refine go1 ?_
                  obtain ⟨x76, hx76, H⟩ := bnd H
                  refine cv (laws_markText_ok (IntKind.i64.wrap ((IntKind.i64.wrap (x46 + 1)) + 1)) _ hx76) ?_
                  refine go ?_
                  refine cdn H (fun h H => ?_) (fun h H => ?_)
                  · refine go ?_
                    exact wq (hR _ (pur H).symm _ (rt [.int .i64 (-1)]))
                  · obtain ⟨x82, f1, H⟩ := bil (g := Val.cells) Val.cells_len H
                    refine go1 ?_
                    refine go ?_
                    refine cdn H (fun h H => ?_) (fun h H => ?_)
                    · refine go ?_
                      exact wq (hR _ (pur H).symm _ (rt [.int .i64 (-1)]))
                    · obtain ⟨x92, f1, H⟩ := bil (g := Val.cells) Val.cells_len H
                      refine go1 ?_
                      obtain ⟨x97, hx97, H⟩ := bnd H
                      refine cl (laws_heldIntS_ok x92.fn.ids (IntKind.i64.wrap ((IntKind.i64.wrap ((IntKind.i64.wrap ((IntKind.i64.wrap (x46 + 1)) + 1)) + 1)) + 1)) _ hx97) ?_
                      refine go ?_
                      refine cdp H (fun h H => ?_) (fun h H => ?_)
                      · refine go ?_
                        exact wq (hR _ (pur H).symm _ (rt [.int .i64 (-1)]))
                      · obtain ⟨x102, f1, H⟩ := bil (g := Val.cells) Val.cells_len H
                        refine go1 ?_
                        refine go ?_
                        refine cdn H (fun h H => ?_) (fun h H => ?_)
                        · refine go ?_
                          exact wq (hR _ (pur H).symm _ (rt [.int .i64 (-1)]))
                        · refine go ?_
                          refine draw_text E0 [.v, .v, .v, .v, .v, .v, .v, .v, .v, .v] (by kernel_rfl) ?_
                          obtain ⟨x113, f1, H⟩ := bil (g := Val.cells) Val.cells_len H
                          refine go1 ?_
                          obtain ⟨x119, hx119, H⟩ := bnd H
                          refine cv (laws_markText_ok (IntKind.i64.wrap (x97 + 1)) _ hx119) ?_
                          refine go ?_
                          refine cdn H (fun h H => ?_) (fun h H => ?_)
                          · refine go ?_
                            exact wq (hR _ (pur H).symm _ (rt [.int .i64 (-1)]))
                          · obtain ⟨x125, f1, H⟩ := bil (g := Val.cells) Val.cells_len H
                            refine go1 ?_
                            refine go ?_
                            refine cdn H (fun h H => ?_) (fun h H => ?_)
                            · refine go ?_
                              exact wq (hR _ (pur H).symm _ (rt [.int .i64 (-1)]))
                            · obtain ⟨x136, f1, H⟩ := bil (g := Val.cells) Val.cells_len H
                              refine go1 ?_
                              obtain ⟨x142, hx142, H⟩ := bnd H
                              refine cl (laws_heldIntS_ok x136.fn.data.sc (IntKind.i64.wrap ((IntKind.i64.wrap ((IntKind.i64.wrap (x97 + 1)) + 1)) + 1)) _ hx142) ?_
                              refine go ?_
                              refine cdp H (fun h H => ?_) (fun h H => ?_)
                              · refine go ?_
                                exact wq (hR _ (pur H).symm _ (rt [.int .i64 (-1)]))
                              · obtain ⟨x147, f1, H⟩ := bil (g := Val.cells) Val.cells_len H
                                refine go1 ?_
                                obtain ⟨x153, hx153, H⟩ := bnd H
                                refine cl (laws_heldFormS_ok x147.fn.data.kids x142 _ hx153) ?_
                                refine go ?_
                                refine cdp H (fun h H => ?_) (fun h H => ?_)
                                · refine go ?_
                                  exact wq (hR _ (pur H).symm _ (rt [.int .i64 (-1)]))
                                · obtain ⟨x158, f1, H⟩ := bil (g := Val.cells) Val.cells_len H
                                  refine go1 ?_
                                  obtain ⟨x163, hx163, H⟩ := bnd H
                                  refine cl (laws_heldCoreS_ok x158.fn.kids x153 _ hx163) ?_
                                  refine go ?_
                                  refine cdp H (fun h H => ?_) (fun h H => ?_)
                                  · refine go ?_
                                    exact wq (hR _ (pur H).symm _ (rt [.int .i64 (-1)]))
                                  · obtain ⟨x168, f1, H⟩ := bil (g := Val.cells) Val.cells_len H
                                    refine go1 ?_
                                    obtain ⟨x172, hx172, H⟩ := bnd H
                                    refine cl (C1 x168.env x163 _ hx172) ?_
                                    refine go ?_
                                    refine cdp H (fun h H => ?_) (fun h H => ?_)
                                    · refine go ?_
                                      exact wq (hR _ (pur H).symm _ (rt [.int .i64 (-1)]))
                                    · refine go ?_
                                      exact L0 a0 x172 (IntKind.i64.wrap (z0t_5 + 1)) _ H _ rfl Q τ  hE hR _ _  S hF
    · refine go ?_
      exact wq (hE _ (pur H).symm _ _  S hF)
  · intro laws_heldSlotS_l0 L1 a0 a1 r H
    intro σ
    refine hdg mixed Try.func33 (rs := [.tmp 4]) fun q tT => ?_
    have hF := Fx.refl σ
    have hX := Tau.none σ
    refine go ?_
    obtain ⟨o1, ho1, H⟩ := bnd H
    refine L1 a0 a1 0 _ ho1 _ rfl _ _  ?_ ?_ _ _  S hF
    · intro e2t_1 he T3 σ4 tT hF
      have he := he.symm
      subst he
      try dsimp only at H
      refine go ?_
      have e := pur H; subst e
      exact rt [.int .i64 e2t_1]
    · intro r hr s' hs
      subst hr
      have e := pur H; subst e
      exact hsq hs
  · intro laws_heldValueS laws_heldSlotS laws_heldSlotS_l0 C0 C1 L1 a0 z0t_1 z0t_5 out H c hc Q τ  hE hR T σ tT hF
    obtain rfl := Option.some.inj ((rfl : loopAt Try.f33 0 = some _).symm.trans hc)
    refine aLoop_round ?_
    have q := dum
    have hX := Tau.none τ
    refine go ?_
    refine cdp H (fun h H => ?_) (fun h H => ?_)
    · obtain ⟨x14, f1, H⟩ := bil (g := Slt.cells) Slt.cells_len H
      refine go1 ?_
      refine go ?_
      refine cdn H (fun h H => ?_) (fun h H => ?_)
      · refine go ?_
        exact wq (hR _ (pur H).symm _ (rt [.int .i64 (-1)]))
      · obtain ⟨x23, f1, H⟩ := bil (g := Slt.cells) Slt.cells_len H
        refine go1 ?_
        refine go ?_
        refine cdn H (fun h H => ?_) (fun h H => ?_)
        · refine go ?_
          exact wq (hR _ (pur H).symm _ (rt [.int .i64 (-1)]))
        · obtain ⟨x33, f1, H⟩ := bil (g := Slt.cells) Slt.cells_len H
          refine go1 ?_
          refine go ?_
          refine cdn H (fun h H => ?_) (fun h H => ?_)
          · refine go ?_
            exact wq (hR _ (pur H).symm _ (rt [.int .i64 (-1)]))
          · refine go ?_
            refine draw_text E0 [.v, .v, .v, .v, .v, .v, .v, .v, .v] (by kernel_rfl) ?_
            obtain ⟨x43, f1, H⟩ := bil (g := Slt.cells) Slt.cells_len H
            refine go1 ?_
            obtain ⟨x48, hx48, H⟩ := bnd H
            refine cv (laws_markText_ok (IntKind.i64.wrap ((IntKind.i64.wrap ((IntKind.i64.wrap (z0t_1 + 1)) + 1)) + 1)) _ hx48) ?_
            refine go ?_
            refine cdn H (fun h H => ?_) (fun h H => ?_)
            · refine go ?_
              exact wq (hR _ (pur H).symm _ (rt [.int .i64 (-1)]))
            · obtain ⟨x54, f1, H⟩ := bil (g := Slt.cells) Slt.cells_len H
              refine go1 ?_
              obtain ⟨x59, hx59, H⟩ := bnd H
              refine cl (C0 x54.val.items (IntKind.i64.wrap ((IntKind.i64.wrap ((IntKind.i64.wrap ((IntKind.i64.wrap (z0t_1 + 1)) + 1)) + 1)) + 1)) _ hx59) ?_
              refine go ?_
              refine cdp H (fun h H => ?_) (fun h H => ?_)
              · refine go ?_
                exact wq (hR _ (pur H).symm _ (rt [.int .i64 (-1)]))
              · obtain ⟨x64, f1, H⟩ := bil (g := Slt.cells) Slt.cells_len H
                refine go1 ?_
                refine go ?_
                refine cdn H (fun h H => ?_) (fun h H => ?_)
                · refine go ?_
                  exact wq (hR _ (pur H).symm _ (rt [.int .i64 (-1)]))
                · obtain ⟨x75, f1, H⟩ := bil (g := Slt.cells) Slt.cells_len H
                  refine go1 ?_
                  refine go ?_
                  refine cdn H (fun h H => ?_) (fun h H => ?_)
                  · refine go ?_
                    exact wq (hR _ (pur H).symm _ (rt [.int .i64 (-1)]))
                  · refine go ?_
                    refine draw_text E0 [.v, .v, .v, .v, .v, .v, .v, .v, .v, .v] (by kernel_rfl) ?_
                    obtain ⟨x86, f1, H⟩ := bil (g := Slt.cells) Slt.cells_len H
                    refine go1 ?_
                    obtain ⟨x92, hx92, H⟩ := bnd H
                    refine cv (laws_markText_ok (IntKind.i64.wrap ((IntKind.i64.wrap (x59 + 1)) + 1)) _ hx92) ?_
                    refine go ?_
                    refine cdn H (fun h H => ?_) (fun h H => ?_)
                    · refine go ?_
                      exact wq (hR _ (pur H).symm _ (rt [.int .i64 (-1)]))
                    · obtain ⟨x98, f1, H⟩ := bil (g := Slt.cells) Slt.cells_len H
                      refine go1 ?_
                      refine go ?_
                      refine cdn H (fun h H => ?_) (fun h H => ?_)
                      · refine go ?_
                        exact wq (hR _ (pur H).symm _ (rt [.int .i64 (-1)]))
                      · obtain ⟨x109, f1, H⟩ := bil (g := Slt.cells) Slt.cells_len H
                        refine go1 ?_
                        obtain ⟨x115, hx115, H⟩ := bnd H
                        refine cl (laws_heldIntS_ok x109.val.fn.ids (IntKind.i64.wrap ((IntKind.i64.wrap ((IntKind.i64.wrap ((IntKind.i64.wrap (x59 + 1)) + 1)) + 1)) + 1)) _ hx115) ?_
                        refine go ?_
                        refine cdp H (fun h H => ?_) (fun h H => ?_)
                        · refine go ?_
                          exact wq (hR _ (pur H).symm _ (rt [.int .i64 (-1)]))
                        · obtain ⟨x120, f1, H⟩ := bil (g := Slt.cells) Slt.cells_len H
                          refine go1 ?_
                          refine go ?_
                          refine cdn H (fun h H => ?_) (fun h H => ?_)
                          · refine go ?_
                            exact wq (hR _ (pur H).symm _ (rt [.int .i64 (-1)]))
                          · refine go ?_
                            refine draw_text E0 [.v, .v, .v, .v, .v, .v, .v, .v, .v, .v, .v] (by kernel_rfl) ?_
                            obtain ⟨x132, f1, H⟩ := bil (g := Slt.cells) Slt.cells_len H
                            refine go1 ?_
                            obtain ⟨x139, hx139, H⟩ := bnd H
                            refine cv (laws_markText_ok (IntKind.i64.wrap (x115 + 1)) _ hx139) ?_
                            refine go ?_
                            refine cdn H (fun h H => ?_) (fun h H => ?_)
                            · refine go ?_
                              exact wq (hR _ (pur H).symm _ (rt [.int .i64 (-1)]))
                            · obtain ⟨x145, f1, H⟩ := bil (g := Slt.cells) Slt.cells_len H
                              refine go1 ?_
                              refine go ?_
                              refine cdn H (fun h H => ?_) (fun h H => ?_)
                              · refine go ?_
                                exact wq (hR _ (pur H).symm _ (rt [.int .i64 (-1)]))
                              · obtain ⟨x157, f1, H⟩ := bil (g := Slt.cells) Slt.cells_len H
                                refine go1 ?_
                                obtain ⟨x164, hx164, H⟩ := bnd H
                                refine cl (laws_heldIntS_ok x157.val.fn.data.sc (IntKind.i64.wrap ((IntKind.i64.wrap ((IntKind.i64.wrap (x115 + 1)) + 1)) + 1)) _ hx164) ?_
                                refine go ?_
                                refine cdp H (fun h H => ?_) (fun h H => ?_)
                                · refine go ?_
                                  exact wq (hR _ (pur H).symm _ (rt [.int .i64 (-1)]))
                                · obtain ⟨x169, f1, H⟩ := bil (g := Slt.cells) Slt.cells_len H
                                  refine go1 ?_
                                  obtain ⟨x176, hx176, H⟩ := bnd H
                                  refine cl (laws_heldFormS_ok x169.val.fn.data.kids x164 _ hx176) ?_
                                  refine go ?_
                                  refine cdp H (fun h H => ?_) (fun h H => ?_)
                                  · refine go ?_
                                    exact wq (hR _ (pur H).symm _ (rt [.int .i64 (-1)]))
                                  · obtain ⟨x181, f1, H⟩ := bil (g := Slt.cells) Slt.cells_len H
                                    refine go1 ?_
                                    obtain ⟨x187, hx187, H⟩ := bnd H
                                    refine cl (laws_heldCoreS_ok x181.val.fn.kids x176 _ hx187) ?_
                                    refine go ?_
                                    refine cdp H (fun h H => ?_) (fun h H => ?_)
                                    · refine go ?_
                                      exact wq (hR _ (pur H).symm _ (rt [.int .i64 (-1)]))
                                    · obtain ⟨x192, f1, H⟩ := bil (g := Slt.cells) Slt.cells_len H
                                      refine go1 ?_
                                      obtain ⟨x197, hx197, H⟩ := bnd H
                                      refine cl (C1 x192.val.env x187 _ hx197) ?_
                                      refine go ?_
                                      refine cdp H (fun h H => ?_) (fun h H => ?_)
                                      · refine go ?_
                                        exact wq (hR _ (pur H).symm _ (rt [.int .i64 (-1)]))
                                      · refine go ?_
                                        exact L1 a0 x197 (IntKind.i64.wrap (z0t_5 + 1)) _ H _ rfl Q τ  hE hR _ _  S hF
    · refine go ?_
      exact wq (hE _ (pur H).symm _ _  S hF)
theorem laws_heldValueS_ok : ∀ (a0 : List Val) (a1 : Int) r, laws_heldValueS a0 a1 = some r → PCtr Try.prog 31 [.sl false (rws Val.cells a0), .int .i64 a1] (.int .i64 r) := laws_heldValueS_all.1
theorem laws_heldSlotS_ok : ∀ (a0 : List Slt) (a1 : Int) r, laws_heldSlotS a0 a1 = some r → PCtr Try.prog 33 [.sl false (rws Slt.cells a0), .int .i64 a1] (.int .i64 r) := laws_heldValueS_all.2
theorem laws_heldForm_ok : ∀ (a0 : Fm) (a1 : Int) r, laws_heldForm a0 a1 = some r → PCtr Try.prog 44 [.agg (Fm.cells a0), .int .i64 a1] (.int .i64 r) := by
  intro a0 a1 r H
  intro σ
  unfold laws_heldForm at H
  refine hdg mixed Try.func44 (rs := [.tmp 4]) fun q tT => ?_
  have hF := Fx.refl σ
  have hX := Tau.none σ
  refine go ?_
  refine fx_alloc hF rfl fun b1 σ2 hF => ?_
  refine go ?_
  obtain ⟨x8, hx8, H⟩ := bnd H
  refine cl (laws_heldIntS_ok a0.sc a1 _ hx8) ?_
  refine go ?_
  refine cdp H (fun h H => ?_) (fun h H => ?_)
  · refine go ?_
    have e := pur H; subst e
    exact rt [.int .i64 (-1)]
  · refine go ?_
    obtain ⟨x14, hx14, H⟩ := bnd H
    refine cl (laws_heldFormS_ok a0.kids x8 _ hx14) ?_
    refine go ?_
    refine cdp H (fun h H => ?_) (fun h H => ?_)
    · refine go ?_
      have e := pur H; subst e
      exact rt [.int .i64 (-1)]
    · refine go ?_
      have e := pur H; subst e
      exact rt [.int .i64 x14]
theorem laws_heldCore_ok : ∀ (a0 : Cor) (a1 : Int) r, laws_heldCore a0 a1 = some r → PCtr Try.prog 32 [.agg (Cor.cells a0), .int .i64 a1] (.int .i64 r) := by
  intro a0 a1 r H
  intro σ
  unfold laws_heldCore at H
  refine hdg mixed Try.func32 (rs := [.tmp 4]) fun q tT => ?_
  have hF := Fx.refl σ
  have hX := Tau.none σ
  refine go ?_
  refine fx_alloc hF rfl fun b1 σ2 hF => ?_
  refine go ?_
  obtain ⟨x8, hx8, H⟩ := bnd H
  refine cl (laws_heldIntS_ok a0.ids a1 _ hx8) ?_
  refine go ?_
  refine cdp H (fun h H => ?_) (fun h H => ?_)
  · refine go ?_
    have e := pur H; subst e
    exact rt [.int .i64 (-1)]
  · refine go ?_
    obtain ⟨x14, hx14, H⟩ := bnd H
    refine cl (laws_heldForm_ok a0.data x8 _ hx14) ?_
    refine go ?_
    refine cdp H (fun h H => ?_) (fun h H => ?_)
    · refine go ?_
      have e := pur H; subst e
      exact rt [.int .i64 (-1)]
    · refine go ?_
      obtain ⟨x20, hx20, H⟩ := bnd H
      refine cl (laws_heldCoreS_ok a0.kids x14 _ hx20) ?_
      refine go ?_
      refine cdp H (fun h H => ?_) (fun h H => ?_)
      · refine go ?_
        have e := pur H; subst e
        exact rt [.int .i64 (-1)]
      · refine go ?_
        have e := pur H; subst e
        exact rt [.int .i64 x20]
theorem laws_heldValue_ok : ∀ (a0 : Val) (a1 : Int) r, laws_heldValue a0 a1 = some r → PCtr Try.prog 12 [.agg (Val.cells a0), .int .i64 a1] (.int .i64 r) := by
  intro a0 a1 r H
  intro σ
  unfold laws_heldValue at H
  refine hdg mixed Try.func12 (rs := [.tmp 4]) fun q tT => ?_
  have hF := Fx.refl σ
  have hX := Tau.none σ
  refine go ?_
  refine fx_alloc hF rfl fun b1 σ2 hF => ?_
  refine go ?_
  obtain ⟨x8, hx8, H⟩ := bnd H
  refine cl (laws_heldValueS_ok a0.items a1 _ hx8) ?_
  refine go ?_
  refine cdp H (fun h H => ?_) (fun h H => ?_)
  · refine go ?_
    have e := pur H; subst e
    exact rt [.int .i64 (-1)]
  · refine go ?_
    obtain ⟨x14, hx14, H⟩ := bnd H
    refine cl (laws_heldCore_ok a0.fn x8 _ hx14) ?_
    refine go ?_
    refine cdp H (fun h H => ?_) (fun h H => ?_)
    · refine go ?_
      have e := pur H; subst e
      exact rt [.int .i64 (-1)]
    · refine go ?_
      obtain ⟨x20, hx20, H⟩ := bnd H
      refine cl (laws_heldSlotS_ok a0.env x14 _ hx20) ?_
      refine go ?_
      refine cdp H (fun h H => ?_) (fun h H => ?_)
      · refine go ?_
        have e := pur H; subst e
        exact rt [.int .i64 (-1)]
      · refine go ?_
        have e := pur H; subst e
        exact rt [.int .i64 x20]
end Go.Proofs.SA

